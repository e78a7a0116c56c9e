/- The walk of lamplightlaw07.MasterStrange. Written by gen_steps7.py. -/
import Derived.Test.YtdgbmiobfehpdaaFm
import Derived.Test.YtdgbmiobfehpdaaKp
import Derived.Test.YtdgbmiobfehpdaaSr
set_option linter.unusedVariables false
set_option linter.unusedSimpArgs false
namespace Go.Proofs.Ytdgbmiobfehpdaa
open Go.RowKit

theorem MasterAt.far {w w1 : World} {B g k : Nat} {M : MS} (h : MasterAt w B g M) (hgr : w.grownBy w1 (some k)) (hk : k < B) : MasterAt w1 B g M := by
  obtain ⟨v, hg, hq⟩ := h.ex
  have hB := h.ge
  exact ⟨h.ge, h.ok, v, blk_grown hg hgr (by simp; omega), hq.keep fun k' cs t fr hb hh _ => hgr.block k' (blk_lt hh) (by simp; omega)⟩
theorem master_none (w : World) (B g : Nat) (M : MS) (fa fk fs fq fc : Int) (A : Option Addr) (m c : Nat) (h : MasterAt w B g M) (hno : ¬ (fa = M.addr ∧ (fk = 4 ∨ fk = 5))) :
    Calls Try.prog 12 #[.pointer (some ⟨g, 0, none⟩), .agg #[.int .u8 fa, .int .u8 fk, .int .u8 fs, .int .u8 fq, .int .u8 fc, .slice A m c]] w fun e w' =>
      e = .returned (.tuple #[.slice none 0 0, .bool false]) ∧ Below w.heap.size w w' := by
  obtain ⟨v, hg, hq⟩ := h.ex
  refine heard_none w g _ _ _ _ _ _ _ _ fa fk fs fq fc v A m c ?_ hg
  by_cases e : fa = M.addr
  · exact .inr ⟨fun h4 => hno ⟨e, .inl h4⟩, fun h5 => hno ⟨e, .inr h5⟩⟩
  · exact .inl e

set_option maxHeartbeats 8000000 in
set_option maxRecDepth 100000 in
theorem strange_walk (a0 : Int) (a1 : Option Addr) (len1 cap1 : Nat) (vf : Value) (w : World) (w0 : (Lit.int .u8 a0).wf = true) (r1 : StepsIn w a1 len1 cap1) (r2 : FrameV w vf) :
    Calls Try.prog 6 #[.int .u8 a0, .slice a1 len1 cap1, vf] w fun e w' => e = .returned (.bool true) ∧ Below w.heap.size w w' := by
  obtain ⟨ga, gk, gs, gq, gc, gA, gn, gcp, gz, rfl, gr, gs1, gs2⟩ := r2
  go_enter Try.func6, Try.ntmps6
  go_wp2_with fail
  refine (shown_any _).mono ?_
  rintro e w1 ⟨rfl, hb1⟩
  have hF1 := blk_below' (blk_new w _) hb1
  have hbel1 : Below w.heap.size w w1 := ((Below.refl _ _).alloc (Nat.le_refl _) _).trans (hb1.mono (by simp))
  have HB1 := Lib.hid hbel1
  have HXa := Lib.hid hF1
  have hg : w.heap.size ≤ w1.heap.size := hbel1.size
  have hgf : w.heap.size < w1.heap.size := blk_lt hF1
  clear hb1 hF1 hbel1
  go_wp2_with fail
  refine (master_new _ a0 3 (by decide)).mono ?_
  rintro e w2 ⟨rfl, hb2, hs2⟩
  have HB2 : Hid (Below w.heap.size w w2) := HB1.out.trans (hb2.mono HB1.out.size)
  have HS2 := Lib.hid hs2
  have HXb := Lib.hid (blk_below' HXa.out hb2)
  clear hb2 hs2
  go_wp2_with fail
  go_loopw [9] (fun i wr => ∃ (k : Nat) (M : MS), k ≤ len1 ∧ i = .int .i64 k ∧ Below w.heap.size w wr ∧ MasterAt wr w1.heap.size w1.heap.size M ∧ M.addr = a0 ∧ 0 ≤ M.epoch ∧ M.epoch ≤ k ∧ k ≤ 100 ∧ wr.heap[w.heap.size]? = some (.cells #[.int .u8 ga, .int .u8 gk, .int .u8 gs, .int .u8 gq, .int .u8 gc, .slice gA gn gcp] 30 (0, 0))) (fun i _ => len1 - (intOf i).toNat)
  case atStart => exact ⟨0, MS.new a0 3, Nat.zero_le _, rfl, HB2.out, HS2.out, rfl, Int.le_refl _, Int.le_refl _, by omega, HXb.out⟩
  case round =>
    obtain ⟨k, M, hk, rfl, hbr, hsr, hM0, hM1, hM2, hk100, hxr⟩ := hrel
    have HBr := Lib.hid hbr
    have HSr := Lib.hid hsr
    have HM0 := Lib.hid hM0
    have HXr := Lib.hid hxr
    have hgw : w1.heap.size < wr.heap.size := hsr.lt
    clear hbr hsr hM0 HS2 HB2 HB1 hxr HXa HXb
    have hmax : len1 ≤ 9223372036854775807 := by
      rcases r1 with ⟨_, h1, _⟩ | ⟨_, _, h1, h2, _⟩
      · omega
      · unfold maxLen at h2; omega
    by_cases hlt : k < len1 ∧ k < 100
    · obtain ⟨hlt, h100⟩ := hlt
      have hd : (decide ((k : Int) < 100)) = true := by simp; omega
      obtain ⟨x1, rfl, hlc1, _, hst⟩ := r1.resolve_left (by rintro ⟨_, h, _⟩; omega)
      obtain ⟨kd, fa, fk, fs, fq, fc, A, n, cp, z, own, hst⟩ := hst k hlt
      have HI := Lib.hid (hst.below HBr.out)
      have HJ := Lib.hid hst
      obtain ⟨c0, c1, c2, c3, c4, c5, c6, c7, hrow, hs1, hs2⟩ := HI.out
      have HRow := Lib.hid hrow
      have e1 : wr.cell? ⟨(x1.add (k * 8)).block, (x1.add (k * 8)).off + 1, none⟩ = some (.int .u8 fa) := by simpa [Addr.add] using c1
      have e2 : wr.cell? ⟨(x1.add (k * 8)).block, (x1.add (k * 8)).off + 2, none⟩ = some (.int .u8 fk) := by simpa [Addr.add] using c2
      have e3 : wr.cell? ⟨(x1.add (k * 8)).block, (x1.add (k * 8)).off + 3, none⟩ = some (.int .u8 fs) := by simpa [Addr.add] using c3
      have e4 : wr.cell? ⟨(x1.add (k * 8)).block, (x1.add (k * 8)).off + 4, none⟩ = some (.int .u8 fq) := by simpa [Addr.add] using c4
      have e5 : wr.cell? ⟨(x1.add (k * 8)).block, (x1.add (k * 8)).off + 5, none⟩ = some (.int .u8 fc) := by simpa [Addr.add] using c5
      have e6 : wr.cell? ⟨(x1.add (k * 8)).block, (x1.add (k * 8)).off + 6, none⟩ = some (.slice A n cp) := by simpa [Addr.add] using c6
      have e7 : wr.cell? ⟨(x1.add (k * 8)).block, (x1.add (k * 8)).off + 7, none⟩ = some (.bool own) := by simpa [Addr.add] using c7
      have hpb : (x1.add (k * 8)).block < wr.heap.size := World.block_lt_of_cell? wr _ c0
      obtain ⟨m, hm1, hm2, -, hmin⟩ := min_nat n 40
      have hncp := HRow.out.cap.1
      have hcpm := HRow.out.cap.2
      obtain ⟨bl, hbl⟩ : ∃ bl, bl = toB (z.take m) := ⟨_, rfl⟩
      have hrd : ReadsB wr (.slice A m cp) bl := by rw [hbl]; exact row_reads (HRow.out.cut hm1) (by omega)
      have hbm : bl.length = m := by
        obtain ⟨_, _, he, _⟩ := hrd
        injection he with _ e2 _
        exact e2.symm
      have hng : NotIn w1.heap.size (.slice A m cp) bl := by rw [hbl]; exact HJ.out.row.notIn hg
      have HRd := Lib.hid hrd
      have HNg := Lib.hid hng
      have HBM := Lib.hid hbm
      have HMIN := Lib.hid hmin
      clear hst hrow hrd hng hbl hbm hmin r1
      go_wp2_with fail
      refine (frame_any _ w1.heap.size w1.heap.size M HSr.out kd fa fk fs fq fc a0 A n cp m own hncp hcpm hm1 HMIN.out ⟨hs1, hs2⟩).mono ?_
      rintro e w4 ⟨fa', fs', rfl, hb4, hf1, hf2⟩
      have HB4 : Hid (Below w.heap.size w w4) := HBr.out.trans (hb4.mono HBr.out.size)
      have HS4 : Hid (MasterAt w4 w1.heap.size w1.heap.size M) := HSr.out.below hb4
      have HRd4 : Hid (ReadsB w4 (.slice A m cp) bl) := HRd.out.below hb4
      have hc4 : ∀ o, (w4.alloc o).cell? (x1.add (k * 8)) = some (.int .i64 kd) := fun o => by
        have h4 : w4.cell? (x1.add (k * 8)) = some (.int .i64 kd) := (hb4.cell hpb).trans c0
        rw [World.cell?_alloc_lt _ _ _ (World.block_lt_of_cell? w4 _ h4)]
        exact h4
      have HX4 := Lib.hid (blk_below' HXr.out hb4)
      have hl4 : w1.heap.size < w4.heap.size := HS4.out.lt
      clear hb4 c0 c1 c2 c3 c4 c5 c6 c7 e1 e2 e3 e4 e5 e6 e7 HI HSr HRow HRd HXr
      by_cases k0 : kd = 0 ∨ kd = 1
      · obtain ⟨nn, M1, hF⟩ : ∃ n M1, M.sendF bl = (n, M1) := ⟨_, _, rfl⟩
        have hK := send_keeps hF
        have HF := Lib.hid hF
        clear hF
        rcases k0 with rfl | rfl
        all_goals
          go_wp2_with fail
          refine (masterK_send _ w1.heap.size w1.heap.size M M1 (.slice A m cp) bl nn (HS4.out.below (by go_grown)) (HRd4.out.below (by go_grown)) HF.out).mono ?_
          rintro e w5 ⟨rfl, hk5, hs5⟩
          have HB5 : Hid (Below w.heap.size w w5) := stepK HB4.out (by have := HB4.out.size; omega) (by go_grown) hk5 hg
          have HS5 := Lib.hid hs5
          have HX5 := Lib.hid (boxK HX4.out (by go_grown) hk5 (by decide))
          clear hk5 hs5
          go_wp2_with fail
          go_roundw
          case rel => exact ⟨k + 1, M1, by omega, by go_num, HB5.out, HS5.out, hK.1.trans HM0.out, by rw [hK.2]; exact hM1, by rw [hK.2]; omega, by omega, HX5.out⟩
          case measure => simp [intOf]; omega
      · by_cases k15 : 2 ≤ kd ∧ kd ≤ 5
        · obtain ⟨l, okb, M1, hF⟩ : ∃ l okb M1, M.heardF ⟨fa', fk, fs', fq, fc, bl⟩ = (l, okb, M1) := ⟨_, _, _, rfl⟩
          have hK := heard_keeps hF
          have HF := Lib.hid hF
          clear hF
          have hkk : kd = 2 ∨ kd = 3 ∨ kd = 4 ∨ kd = 5 := by omega
          rcases hkk with rfl | rfl | rfl | rfl
          all_goals
            go_wp2_with fail
            refine (masterK_heard _ w1.heap.size w1.heap.size M M1 ⟨fa', fk, fs', fq, fc, bl⟩ A m cp l okb HBM.out.symm (HS4.out.below (by go_grown)) (HRd4.out.below (by go_grown)) HNg.out hM1 (by omega) HF.out).mono ?_
            rintro e w5 ⟨v5, rfl, ho5, hk5, hs5⟩
            obtain ⟨A5, c5, rfl⟩ := own_slice ho5
            have HB5 : Hid (Below w.heap.size w w5) := stepK HB4.out (by have := HB4.out.size; omega) (by go_grown) hk5 hg
            have HS5 := Lib.hid hs5
            have HX5 := Lib.hid (boxK HX4.out (by go_grown) hk5 (by decide))
            clear ho5 hk5 hs5
            go_wp2_with fail
            go_roundw
            case rel => exact ⟨k + 1, M1, by omega, by go_num, HB5.out, HS5.out, hK.1.trans HM0.out, by omega, by omega, by omega, HX5.out⟩
            case measure => simp [intOf]; omega
        · by_cases k6 : kd = 6
          · subst k6
            obtain ⟨d, M1, hF⟩ : ∃ d M1, M.missedF = (d, M1) := ⟨_, _, rfl⟩
            have hK := missed_keeps hF
            have HF := Lib.hid hF
            clear hF
            go_wp2_with fail
            refine (masterK_missed _ w1.heap.size w1.heap.size M M1 d (HS4.out.below (by go_grown)) HF.out).mono ?_
            rintro e w5 ⟨rfl, hk5, hs5⟩
            have HB5 : Hid (Below w.heap.size w w5) := stepK HB4.out (by have := HB4.out.size; omega) (by go_grown) hk5 hg
            have HS5 := Lib.hid hs5
            have HX5 := Lib.hid (boxK HX4.out (by go_grown) hk5 (by decide))
            clear hk5 hs5
            go_wp2_with fail
            go_roundw
            case rel => exact ⟨k + 1, M1, by omega, by go_num, HB5.out, HS5.out, hK.1.trans HM0.out, by rw [hK.2]; exact hM1, by rw [hK.2]; omega, by omega, HX5.out⟩
            case measure => simp [intOf]; omega
          · have e0 : (kd == 0) = false := by simp; omega
            have e1 : (kd == 1) = false := by simp; omega
            have e2 : (kd == 2) = false := by simp; omega
            have e3 : (kd == 3) = false := by simp; omega
            have e4 : (kd == 4) = false := by simp; omega
            have e5 : (kd == 5) = false := by simp; omega
            have e6 : (kd == 6) = false := by simpa using k6
            go_wp2_with fail
            go_roundw
            case rel => exact ⟨k + 1, M, by omega, by go_num, HB4.out.trans (Below.mono (by go_grown) HB4.out.size), HS4.out.below (by go_grown), HM0.out, hM1, by omega, by omega, blk_alloc HX4.out _⟩
            case measure => simp [intOf]; omega
    · have hkk : k = len1 ∨ (k = 100 ∧ k < len1) := by omega
      obtain ⟨gk', hgk, hgno⟩ : ∃ gk' : Int, gk' = (if ga = a0 ∧ (gk = 4 ∨ gk = 5) then 3 else gk) ∧ ¬ (ga = a0 ∧ (gk' = 4 ∨ gk' = 5)) := by
        refine ⟨_, rfl, ?_⟩
        by_cases h : ga = a0 ∧ (gk = 4 ∨ gk = 5)
        · rw [if_pos h]; omega
        · rw [if_neg h]; exact h
      have HGK := Lib.hid hgk
      have HGN := Lib.hid hgno
      clear hgk hgno
      obtain ⟨x0, x1, x2, x3, x4, x5⟩ := blk6 HXr.out
      obtain ⟨z0, z1, z2, z3, z4, z5⟩ := frz6 HXr.out
      have hd2 : k < len1 → decide ((k : Int) < (len1 : Int)) = true := fun h => by simp; omega
      rcases hkk with rfl | ⟨rfl, hk1⟩
      rotate_left
      have hd3 := hd2 hk1
      rotate_left
      all_goals
        clear hd2
        go_upto_region 20 with fail
        go_cut [75] (fun s w' => s = .bool (decide (ga = a0 ∧ (gk = 4 ∨ gk = 5))) ∧ w' = wr)
        case first =>
          by_cases h1 : ga = a0
          · have e1 : (ga == a0) = true := by simpa using h1
            by_cases h4 : gk = 4
            · have e2 : (gk == 4) = true := by simpa using h4
              go_wp2_with fail
              go_meet
              case rel => exact ⟨by simp [h1, h4], rfl⟩
            · have e2 : (gk == 4) = false := by simpa using h4
              by_cases h5 : gk = 5
              · have e3 : (gk == 5) = true := by simpa using h5
                go_wp2_with fail
                go_meet
                case rel => exact ⟨by simp [h1, h5], rfl⟩
              · have e3 : (gk == 5) = false := by simpa using h5
                go_wp2_with fail
                go_meet
                case rel => exact ⟨by simp [h1, h4, h5], rfl⟩
          · have e1 : (ga == a0) = false := by simpa using h1
            go_wp2_with fail
            go_meet
            case rel => exact ⟨by simp [h1], rfl⟩
        case rest =>
         obtain ⟨rfl, rfl⟩ := hcut
         go_step
         go_cut [] (fun wc => Below w.heap.size w wc ∧ MasterAt wc w1.heap.size w1.heap.size M ∧ wc.heap[w.heap.size]? = some (.cells #[.int .u8 ga, .int .u8 gk', .int .u8 gs, .int .u8 gq, .int .u8 gc, .slice gA gn gcp] 30 (0, 0)))
         case first =>
          by_cases hb : ga = a0 ∧ (gk = 4 ∨ gk = 5)
          · have e1 : decide (ga = a0 ∧ (gk = 4 ∨ gk = 5)) = true := by simpa using hb
            have HB := Lib.hid hb
            clear hb
            rw [e1]
            go_wp2_with fail
            go_meet
            case rel =>
              have hx := blk_set HXr.out 1 (.int .u8 3)
              rw [if_pos HB.out] at HGK
              rw [HGK.out]
              exact ⟨HBr.out.setCell (Nat.le_refl _) _, HSr.out.far (grown_set (grown_refl _ _) _ _) hgf, hx⟩
          · have e1 : decide (ga = a0 ∧ (gk = 4 ∨ gk = 5)) = false := by simpa using hb
            have HB := Lib.hid hb
            clear hb
            rw [e1]
            go_wp2_with fail
            go_meet
            case rel =>
              rw [if_neg HB.out] at HGK
              rw [HGK.out]
              exact ⟨HBr.out, HSr.out, HXr.out⟩
         case rest =>
          obtain ⟨hbc, hsc, hxc⟩ := hcut
          have HBc := Lib.hid hbc
          have HSc := Lib.hid hsc
          have HXc := Lib.hid hxc
          have hlc : w1.heap.size < wc.heap.size := hsc.lt
          have hnl := nextF_len hsc.ok
          obtain ⟨nf, hnf⟩ : ∃ nf, M.nextF = nf := ⟨_, rfl⟩
          have HNF := Lib.hid hnf
          rw [hnf] at hnl
          clear hbc hsc hxc hnf x0 x1 x2 x3 x4 x5 z0 z1 z2 z3 z4 z5 HXr HSr HBr
          go_wp2_with fail
          refine (master_next _ w1.heap.size w1.heap.size M HSc.out).mono ?_
          rw [HNF.out]
          rintro e w5 ⟨v5, rfl, ho, hb5⟩
          obtain ⟨A5, c5, rfl⟩ := own_slice ho
          have HO5 := Lib.hid (own_reads ho (by omega))
          have HB5 : Hid (Below w.heap.size w w5) := HBc.out.trans (hb5.mono HBc.out.size)
          have HS5 := Lib.hid (HSc.out.below hb5)
          have HX5 := Lib.hid (blk_below' HXc.out hb5)
          clear ho hb5
          go_wp2_with fail
          refine (of_any _ nf.addr nf.kind nf.sess nf.seq nf.ack (.slice A5 nf.b.length c5) nf.b HO5.out).mono ?_
          rintro e w6 ⟨rfl, hb6⟩
          have HB6 : Hid (Below w.heap.size w w6) := HB5.out.trans (hb6.mono HB5.out.size)
          have HS6 := Lib.hid (HS5.out.below hb6)
          have HX6 := Lib.hid (blk_below' HX5.out hb6)
          have hl6 : w1.heap.size < w6.heap.size := HS6.out.lt
          obtain ⟨y0, y1, y2, y3, y4, y5⟩ := blk6 (blk_alloc HX6.out (.cells #[.int .u8 nf.addr, .int .u8 nf.kind, .int .u8 nf.sess, .int .u8 nf.seq, .int .u8 nf.ack, .string ⟨nf.b.toArray⟩] 46))
          clear hb6
          go_wp2_with (first
            | (go_at_call 13; refine (master_state _ w1.heap.size w1.heap.size M (HS6.out.below (by go_grown))).mono ?_; rintro e w7 ⟨rfl, rfl⟩)
            | (go_at_call 25; refine (master_len _ w1.heap.size w1.heap.size M (HS6.out.below (by go_grown))).mono ?_; rintro e w7 ⟨rfl, rfl⟩))
          refine (master_none _ w1.heap.size w1.heap.size M ga gk' gs gq gc gA gn gcp (HS6.out.below (by go_grown)) (by rw [HM0.out]; exact HGN.out)).mono ?_
          rintro e w8 ⟨rfl, hb8⟩
          have hs8 : StrH w w1.heap.size nf M w6.heap.size w8 := ⟨(HS6.out.below (by go_grown)).below hb8, blk_below' (blk_new _ _) hb8, HB6.out.trans (Below.trans (by go_grown) (hb8.mono (by simp; have := HB6.out.size; omega)))⟩
          have HS8 := Lib.hid hs8
          clear hb8 hs8 y0 y1 y2 y3 y4 y5
          have keq := eq46
          have kgd := guard46
          go_wp2_with fail
          go_region_held3 (fun w' => StrH w w1.heap.size nf M w6.heap.size w' ∧ w'.cell? ⟨w6.heap.size, 0, none⟩ = some (.int .u8 nf.addr) ∧ w'.cell? ⟨w6.heap.size, 1, none⟩ = some (.int .u8 nf.kind) ∧ w'.cell? ⟨w6.heap.size, 2, none⟩ = some (.int .u8 nf.sess) ∧ w'.cell? ⟨w6.heap.size, 3, none⟩ = some (.int .u8 nf.seq) ∧ w'.cell? ⟨w6.heap.size, 4, none⟩ = some (.int .u8 nf.ack) ∧ w'.cell? ⟨w6.heap.size, 5, none⟩ = some (.string ⟨nf.b.toArray⟩))
            ((first
              | exact str_all (str_below HS8.out ((Below.refl _ _).drew))
              | assumption
              | exact str_step (by assumption) (by assumption)))
            ((first
              | (go_at_call 14; refine (master_next _ w1.heap.size w1.heap.size M ?_).mono ?_; (exact (‹StrH w w1.heap.size nf M w6.heap.size _ ∧ _›).1.1); rw [HNF.out]; rintro e w9 ⟨v9, rfl, ho, hb9⟩; obtain ⟨A9, c9, rfl⟩ := own_slice ho; have HO9 := Lib.hid (own_reads ho (by omega)))
              | (go_at_call 21; refine (of_any _ nf.addr nf.kind nf.sess nf.seq nf.ack (.slice A9 nf.b.length c9) nf.b HO9.out).mono ?_; rintro e w10 ⟨rfl, hb10⟩)
              | (go_at_call 13; refine (master_state _ w1.heap.size w1.heap.size M ?_).mono ?_; (exact (‹StrH w w1.heap.size nf M w6.heap.size _ ∧ _›).1.1); rintro e w7 ⟨rfl, rfl⟩)
              | (go_at_call 25; refine (master_len _ w1.heap.size w1.heap.size M ?_).mono ?_; (exact (‹StrH w w1.heap.size nf M w6.heap.size _ ∧ _›).1.1); rintro e w7 ⟨rfl, rfl⟩)))
          go_wp2_with fail
          go_ret
          exact ⟨rfl, (‹StrH w w1.heap.size nf M w6.heap.size _ ∧ _›).1.2.2⟩
end Go.Proofs.Ytdgbmiobfehpdaa
