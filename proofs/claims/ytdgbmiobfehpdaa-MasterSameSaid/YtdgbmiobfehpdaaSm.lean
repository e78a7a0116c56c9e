/- The walk of lamplightlaw07.MasterSame. Written by gen_steps7.py. -/
import Derived.Test.YtdgbmiobfehpdaaFm
import Derived.Test.YtdgbmiobfehpdaaKp
import Derived.Test.YtdgbmiobfehpdaaSr
set_option linter.unusedVariables false
set_option linter.unusedSimpArgs false
namespace Go.Proofs.Ytdgbmiobfehpdaa
open Go.RowKit


/-- A row that is written over in a block of its own. -/
def RowLeft (wx w : World) (bx : Nat) (a k s q c : Int) (A : Option Addr) (n cp : Nat) : Prop :=
  Below wx.heap.size wx w ∧ w.heap[bx]? = some (.cells #[.int .u8 a, .int .u8 k, .int .u8 s, .int .u8 q, .int .u8 c, .slice A n cp] 30 (0, 0)) ∧
    (0 < n → ∃ g, A = some ⟨g, 0, none⟩ ∧ wx.heap.size ≤ g ∧ g ≠ bx ∧ ∃ cs : Array Value, n ≤ cs.size ∧ w.heap[g]? = some (.cells cs 5 (0, 0)))
/-- What lies at a frame and a master, told again. -/
def SmH (wx : World) (w : World) (g : Nat) (nf : FR) (M : MS) (ay bx : Nat) (v : Value) (w' : World) : Prop :=
  StrH w g nf M ay w' ∧ w'.heap[bx]? = some (.cells #[.int .u8 nf.addr, .int .u8 nf.kind, .int .u8 nf.sess, .int .u8 nf.seq, .int .u8 nf.ack, v] 30 (0, 0)) ∧ w'.ownsRow wx.heap.size 5 1 v nf.b.length (bytesV nf.b) ∧ Below wx.heap.size wx w'
theorem sm_below {wx w : World} {g : Nat} {nf : FR} {M : MS} {ay bx : Nat} {v : Value} {w' w2 : World} (h : SmH wx w g nf M ay bx v w') (hk : Below w'.heap.size w' w2) : SmH wx w g nf M ay bx v w2 :=
  ⟨str_below h.1 hk, blk_below' h.2.1 hk, own_below h.2.2.1 hk, h.2.2.2.trans (hk.mono h.2.2.2.size)⟩
theorem sm_all {wx w : World} {g : Nat} {nf : FR} {M : MS} {ay bx : Nat} {v : Value} {w' : World} (h : SmH wx w g nf M ay bx v w') : SmH wx w g nf M ay bx v w' ∧
    w'.cell? ⟨ay, 0, none⟩ = some (.int .u8 nf.addr) ∧ w'.cell? ⟨ay, 1, none⟩ = some (.int .u8 nf.kind) ∧ w'.cell? ⟨ay, 2, none⟩ = some (.int .u8 nf.sess) ∧ w'.cell? ⟨ay, 3, none⟩ = some (.int .u8 nf.seq) ∧ w'.cell? ⟨ay, 4, none⟩ = some (.int .u8 nf.ack) ∧ w'.cell? ⟨ay, 5, none⟩ = some (.string ⟨nf.b.toArray⟩) ∧
    w'.cell? ⟨bx, 0, none⟩ = some (.int .u8 nf.addr) ∧ w'.cell? ⟨bx, 1, none⟩ = some (.int .u8 nf.kind) ∧ w'.cell? ⟨bx, 2, none⟩ = some (.int .u8 nf.sess) ∧ w'.cell? ⟨bx, 3, none⟩ = some (.int .u8 nf.seq) ∧ w'.cell? ⟨bx, 4, none⟩ = some (.int .u8 nf.ack) ∧ w'.cell? ⟨bx, 5, none⟩ = some v :=
  ⟨h, blk_cell h.1.2.1 0, blk_cell h.1.2.1 1, blk_cell h.1.2.1 2, blk_cell h.1.2.1 3, blk_cell h.1.2.1 4, blk_cell h.1.2.1 5, blk_cell h.2.1 0, blk_cell h.2.1 1, blk_cell h.2.1 2, blk_cell h.2.1 3, blk_cell h.2.1 4, blk_cell h.2.1 5⟩
theorem sm_step {wx w : World} {g : Nat} {nf : FR} {M : MS} {ay bx : Nat} {v : Value} {w' w2 : World} {X : Prop} (h : SmH wx w g nf M ay bx v w' ∧ X) (hk : Below w'.heap.size w' w2) : SmH wx w g nf M ay bx v w2 ∧
    w2.cell? ⟨ay, 0, none⟩ = some (.int .u8 nf.addr) ∧ w2.cell? ⟨ay, 1, none⟩ = some (.int .u8 nf.kind) ∧ w2.cell? ⟨ay, 2, none⟩ = some (.int .u8 nf.sess) ∧ w2.cell? ⟨ay, 3, none⟩ = some (.int .u8 nf.seq) ∧ w2.cell? ⟨ay, 4, none⟩ = some (.int .u8 nf.ack) ∧ w2.cell? ⟨ay, 5, none⟩ = some (.string ⟨nf.b.toArray⟩) ∧
    w2.cell? ⟨bx, 0, none⟩ = some (.int .u8 nf.addr) ∧ w2.cell? ⟨bx, 1, none⟩ = some (.int .u8 nf.kind) ∧ w2.cell? ⟨bx, 2, none⟩ = some (.int .u8 nf.sess) ∧ w2.cell? ⟨bx, 3, none⟩ = some (.int .u8 nf.seq) ∧ w2.cell? ⟨bx, 4, none⟩ = some (.int .u8 nf.ack) ∧ w2.cell? ⟨bx, 5, none⟩ = some v := sm_all (sm_below h.1 hk)
theorem row_left {wx w : World} {bx n cp : Nat} {a k s q c : Int} {A : Option Addr} {xs : List Value} (hb : Below wx.heap.size wx w) (hx : w.heap[bx]? = some (.cells #[.int .u8 a, .int .u8 k, .int .u8 s, .int .u8 q, .int .u8 c, .slice A n cp] 30 (0, 0)))
    (ho : w.ownsRow wx.heap.size 5 1 (.slice A n cp) n xs) : RowLeft wx w bx a k s q c A n cp := by
  refine ⟨hb, hx, fun hn => ?_⟩
  rcases ho.2 with ⟨_, h0⟩ | ⟨g, cap, cur, he, hbg, hh, hle, _, hcs, _⟩
  · omega
  · injection he with e1 e2 e3
    refine ⟨g, e1, hbg, ?_, cur, by omega, hh⟩
    rintro rfl
    rw [hh] at hx
    injection hx with hx
    injection hx with _ h2 _
    exact absurd h2 (by decide)
theorem row_left_set {wx w : World} {bx n cp g j : Nat} {a k s q c : Int} {u : Value} (h : RowLeft wx w bx a k s q c (some ⟨g, 0, none⟩) n cp) (hn : 0 < n) : RowLeft wx (w.setCell ⟨g, j, none⟩ u) bx a k s q c (some ⟨g, 0, none⟩) n cp := by
  obtain ⟨hb, hx, hr⟩ := h
  obtain ⟨g', he, hbg, hne, cs, hcs, hh⟩ := hr hn
  cases he
  exact ⟨hb.setCell hbg u, blk_far hx (Ne.symm hne) u, fun _ => ⟨g, rfl, hbg, hne, _, by simpa using hcs, blk_set hh j u⟩⟩

set_option maxHeartbeats 4000000 in
set_option maxRecDepth 100000 in
theorem same_walk (a0 : Int) (a1 : Option Addr) (len1 cap1 : Nat) (w : World) (w0 : (Lit.int .u8 a0).wf = true) (r1 : StepsIn w a1 len1 cap1) :
    Calls Try.prog 7 #[.int .u8 a0, .slice a1 len1 cap1] w fun e w' => e = .returned (.bool true) ∧ Below w.heap.size w w' := by
  go_enter Try.func7, Try.ntmps7
  go_wp2_with fail
  refine (shown_any _).mono ?_
  rintro e w1 ⟨rfl, hb1⟩
  have HB1 := Lib.hid hb1
  have hg : w.heap.size ≤ w1.heap.size := hb1.size
  clear hb1
  go_wp2_with fail
  refine (master_new _ a0 3 (by decide)).mono ?_
  rintro e w2 ⟨rfl, hb2, hs2⟩
  have HB2 : Hid (Below w.heap.size w w2) := HB1.out.trans (hb2.mono HB1.out.size)
  have HS2 := Lib.hid hs2
  clear hb2 hs2
  go_wp2_with fail
  go_loopw [7] (fun i wr => ∃ (k : Nat) (M : MS), k ≤ len1 ∧ i = .int .i64 k ∧ Below w.heap.size w wr ∧ MasterAt wr w1.heap.size w1.heap.size M ∧ M.addr = a0 ∧ 0 ≤ M.epoch ∧ M.epoch ≤ k ∧ k ≤ 100) (fun i _ => len1 - (intOf i).toNat)
  case atStart => exact ⟨0, MS.new a0 3, Nat.zero_le _, rfl, HB2.out, HS2.out, rfl, Int.le_refl _, Int.le_refl _, by omega⟩
  case round =>
    obtain ⟨k, M, hk, rfl, hbr, hsr, hM0, hM1, hM2, hk100⟩ := hrel
    have HBr := Lib.hid hbr
    have HSr := Lib.hid hsr
    have HM0 := Lib.hid hM0
    have hgw : w1.heap.size < wr.heap.size := hsr.lt
    clear hbr hsr hM0 HS2 HB2 HB1
    have hmax : len1 ≤ 9223372036854775807 := by
      rcases r1 with ⟨_, h1, _⟩ | ⟨_, _, h1, h2, _⟩
      · omega
      · unfold maxLen at h2; omega
    by_cases hlt : k < len1 ∧ k < 100
    · obtain ⟨hlt, h100⟩ := hlt
      have hd : (decide ((k : Int) < 100)) = true := by simp; omega
      obtain ⟨x1, rfl, hlc1, _, hst⟩ := r1.resolve_left (by rintro ⟨_, h, _⟩; omega)
      obtain ⟨kd, fa, fk, fs, fq, fc, A, n, cp, z, own, hst⟩ := hst k hlt
      have HI := Lib.hid (hst.below HBr.out)
      have HJ := Lib.hid hst
      obtain ⟨c0, c1, c2, c3, c4, c5, c6, c7, hrow, hs1, hs2⟩ := HI.out
      have HRow := Lib.hid hrow
      have e1 : wr.cell? ⟨(x1.add (k * 8)).block, (x1.add (k * 8)).off + 1, none⟩ = some (.int .u8 fa) := by simpa [Addr.add] using c1
      have e2 : wr.cell? ⟨(x1.add (k * 8)).block, (x1.add (k * 8)).off + 2, none⟩ = some (.int .u8 fk) := by simpa [Addr.add] using c2
      have e3 : wr.cell? ⟨(x1.add (k * 8)).block, (x1.add (k * 8)).off + 3, none⟩ = some (.int .u8 fs) := by simpa [Addr.add] using c3
      have e4 : wr.cell? ⟨(x1.add (k * 8)).block, (x1.add (k * 8)).off + 4, none⟩ = some (.int .u8 fq) := by simpa [Addr.add] using c4
      have e5 : wr.cell? ⟨(x1.add (k * 8)).block, (x1.add (k * 8)).off + 5, none⟩ = some (.int .u8 fc) := by simpa [Addr.add] using c5
      have e6 : wr.cell? ⟨(x1.add (k * 8)).block, (x1.add (k * 8)).off + 6, none⟩ = some (.slice A n cp) := by simpa [Addr.add] using c6
      have e7 : wr.cell? ⟨(x1.add (k * 8)).block, (x1.add (k * 8)).off + 7, none⟩ = some (.bool own) := by simpa [Addr.add] using c7
      have hpb : (x1.add (k * 8)).block < wr.heap.size := World.block_lt_of_cell? wr _ c0
      obtain ⟨m, hm1, hm2, -, hmin⟩ := min_nat n 40
      have hncp := HRow.out.cap.1
      have hcpm := HRow.out.cap.2
      obtain ⟨bl, hbl⟩ : ∃ bl, bl = toB (z.take m) := ⟨_, rfl⟩
      have hrd : ReadsB wr (.slice A m cp) bl := by rw [hbl]; exact row_reads (HRow.out.cut hm1) (by omega)
      have hbm : bl.length = m := by
        obtain ⟨_, _, he, _⟩ := hrd
        injection he with _ e2 _
        exact e2.symm
      have hng : NotIn w1.heap.size (.slice A m cp) bl := by rw [hbl]; exact HJ.out.row.notIn hg
      have HRd := Lib.hid hrd
      have HNg := Lib.hid hng
      have HBM := Lib.hid hbm
      have HMIN := Lib.hid hmin
      clear hst hrow hrd hng hbl hbm hmin r1
      go_wp2_with fail
      refine (frame_any _ w1.heap.size w1.heap.size M HSr.out kd fa fk fs fq fc a0 A n cp m own hncp hcpm hm1 HMIN.out ⟨hs1, hs2⟩).mono ?_
      rintro e w4 ⟨fa', fs', rfl, hb4, hf1, hf2⟩
      have HB4 : Hid (Below w.heap.size w w4) := HBr.out.trans (hb4.mono HBr.out.size)
      have HS4 : Hid (MasterAt w4 w1.heap.size w1.heap.size M) := HSr.out.below hb4
      have HRd4 : Hid (ReadsB w4 (.slice A m cp) bl) := HRd.out.below hb4
      have hc4 : ∀ o, (w4.alloc o).cell? (x1.add (k * 8)) = some (.int .i64 kd) := fun o => by
        have h4 : w4.cell? (x1.add (k * 8)) = some (.int .i64 kd) := (hb4.cell hpb).trans c0
        rw [World.cell?_alloc_lt _ _ _ (World.block_lt_of_cell? w4 _ h4)]
        exact h4
      have hl4 : w1.heap.size < w4.heap.size := HS4.out.lt
      clear hb4 c0 c1 c2 c3 c4 c5 c6 c7 e1 e2 e3 e4 e5 e6 e7 HI HSr HRow HRd
      by_cases k0 : kd = 0 ∨ kd = 1
      · obtain ⟨nn, M1, hF⟩ : ∃ n M1, M.sendF bl = (n, M1) := ⟨_, _, rfl⟩
        have hK := send_keeps hF
        have HF := Lib.hid hF
        clear hF
        rcases k0 with rfl | rfl
        all_goals
          go_wp2_with fail
          refine (masterK_send _ w1.heap.size w1.heap.size M M1 (.slice A m cp) bl nn (HS4.out.below (by go_grown)) (HRd4.out.below (by go_grown)) HF.out).mono ?_
          rintro e w5 ⟨rfl, hk5, hs5⟩
          have HB5 : Hid (Below w.heap.size w w5) := stepK HB4.out (by have := HB4.out.size; omega) (by go_grown) hk5 hg
          have HS5 := Lib.hid hs5
          clear hk5 hs5
          go_wp2_with fail
          go_roundw
          case rel => exact ⟨k + 1, M1, by omega, by go_num, HB5.out, HS5.out, hK.1.trans HM0.out, by rw [hK.2]; exact hM1, by rw [hK.2]; omega, by omega⟩
          case measure => simp [intOf]; omega
      · by_cases k15 : 2 ≤ kd ∧ kd ≤ 5
        · obtain ⟨l, okb, M1, hF⟩ : ∃ l okb M1, M.heardF ⟨fa', fk, fs', fq, fc, bl⟩ = (l, okb, M1) := ⟨_, _, _, rfl⟩
          have hK := heard_keeps hF
          have HF := Lib.hid hF
          clear hF
          have hkk : kd = 2 ∨ kd = 3 ∨ kd = 4 ∨ kd = 5 := by omega
          rcases hkk with rfl | rfl | rfl | rfl
          all_goals
            go_wp2_with fail
            refine (masterK_heard _ w1.heap.size w1.heap.size M M1 ⟨fa', fk, fs', fq, fc, bl⟩ A m cp l okb HBM.out.symm (HS4.out.below (by go_grown)) (HRd4.out.below (by go_grown)) HNg.out hM1 (by omega) HF.out).mono ?_
            rintro e w5 ⟨v5, rfl, ho5, hk5, hs5⟩
            obtain ⟨A5, c5, rfl⟩ := own_slice ho5
            have HB5 : Hid (Below w.heap.size w w5) := stepK HB4.out (by have := HB4.out.size; omega) (by go_grown) hk5 hg
            have HS5 := Lib.hid hs5
            clear ho5 hk5 hs5
            go_wp2_with fail
            go_roundw
            case rel => exact ⟨k + 1, M1, by omega, by go_num, HB5.out, HS5.out, hK.1.trans HM0.out, by omega, by omega, by omega⟩
            case measure => simp [intOf]; omega
        · by_cases k6 : kd = 6
          · subst k6
            obtain ⟨d, M1, hF⟩ : ∃ d M1, M.missedF = (d, M1) := ⟨_, _, rfl⟩
            have hK := missed_keeps hF
            have HF := Lib.hid hF
            clear hF
            go_wp2_with fail
            refine (masterK_missed _ w1.heap.size w1.heap.size M M1 d (HS4.out.below (by go_grown)) HF.out).mono ?_
            rintro e w5 ⟨rfl, hk5, hs5⟩
            have HB5 : Hid (Below w.heap.size w w5) := stepK HB4.out (by have := HB4.out.size; omega) (by go_grown) hk5 hg
            have HS5 := Lib.hid hs5
            clear hk5 hs5
            go_wp2_with fail
            go_roundw
            case rel => exact ⟨k + 1, M1, by omega, by go_num, HB5.out, HS5.out, hK.1.trans HM0.out, by rw [hK.2]; exact hM1, by rw [hK.2]; omega, by omega⟩
            case measure => simp [intOf]; omega
          · have e0 : (kd == 0) = false := by simp; omega
            have e1 : (kd == 1) = false := by simp; omega
            have e2 : (kd == 2) = false := by simp; omega
            have e3 : (kd == 3) = false := by simp; omega
            have e4 : (kd == 4) = false := by simp; omega
            have e5 : (kd == 5) = false := by simp; omega
            have e6 : (kd == 6) = false := by simpa using k6
            go_wp2_with fail
            go_roundw
            case rel => exact ⟨k + 1, M, by omega, by go_num, HB4.out.trans (Below.mono (by go_grown) HB4.out.size), HS4.out.below (by go_grown), HM0.out, hM1, by omega, by omega⟩
            case measure => simp [intOf]; omega
    · have hkk : k = len1 ∨ (k = 100 ∧ k < len1) := by omega
      have hd2 : k < len1 → decide ((k : Int) < (len1 : Int)) = true := fun h => by simp; omega
      have hnl := nextF_len HSr.out.ok
      have hna := (nextF_addr M).trans HM0.out
      have hkn := nextF_kinds M
      obtain ⟨nf, hnf⟩ : ∃ nf, M.nextF = nf := ⟨_, rfl⟩
      have HNF := Lib.hid hnf
      rw [hnf] at hnl hna hkn
      have HNA := Lib.hid hna
      have HKN := Lib.hid hkn
      clear hna hnf hkn
      rcases hkk with rfl | ⟨rfl, hk1⟩
      rotate_left
      have hd3 := hd2 hk1
      rotate_left
      all_goals
        clear hd2
        go_wp2_with fail
        refine (master_next _ w1.heap.size w1.heap.size M HSr.out).mono ?_
        rw [HNF.out]
        rintro e w5 ⟨v5, rfl, ho, hb5⟩
        obtain ⟨A5, c5, rfl⟩ := own_slice ho
        have HO5 := Lib.hid (own_reads ho (by omega))
        have HB5 : Hid (Below w.heap.size w w5) := HBr.out.trans (hb5.mono HBr.out.size)
        have HS5 := Lib.hid (HSr.out.below hb5)
        clear ho hb5
        go_wp2_with fail
        refine (of_any _ nf.addr nf.kind nf.sess nf.seq nf.ack (.slice A5 nf.b.length c5) nf.b HO5.out).mono ?_
        rintro e w6 ⟨rfl, hb6⟩
        have HS6 : Hid (StrH w w1.heap.size nf M w6.heap.size (w6.alloc (.cells #[.int .u8 nf.addr, .int .u8 nf.kind, .int .u8 nf.sess, .int .u8 nf.seq, .int .u8 nf.ack, .string ⟨nf.b.toArray⟩] 46))) :=
          ⟨(HS5.out.below hb6).below ((Below.refl _ _).alloc (Nat.le_refl _) _), blk_new _ _, (HB5.out.trans (hb6.mono HB5.out.size)).alloc (by have h1 := hb6.size; have h2 := HB5.out.size; omega) _⟩
        clear hb6 HS5 HB5 HO5 HSr HBr
        have keq := neq46
        have kgd := nguard46
        go_wp2_with fail
        go_loopw [10] (fun i wr => ∃ (j : Nat), j ≤ 10 ∧ i = .int .i64 j ∧ StrH w w1.heap.size nf M w6.heap.size wr) (fun i _ => 10 - (intOf i).toNat)
        case atStart => exact ⟨0, Nat.zero_le _, rfl, HS6.out⟩
        case round =>
          obtain ⟨j, hj, rfl, hsr⟩ := hrel
          obtain ⟨wo, rfl⟩ : ∃ wo : World, wo = wr := ⟨_, rfl⟩
          have HSo := Lib.hid hsr
          clear hsr HS6
          by_cases hj10 : j < 10
          · go_wp2_with fail
            refine (master_next _ w1.heap.size w1.heap.size M HSo.out.1).mono ?_
            rw [HNF.out]
            rintro e w9 ⟨v9, rfl, ho, hb9⟩
            obtain ⟨A9, c9, rfl⟩ := own_slice ho
            have HSm : Hid (SmH wo w w1.heap.size nf M w6.heap.size w9.heap.size (.slice A9 nf.b.length c9) (w9.alloc (.cells #[.int .u8 nf.addr, .int .u8 nf.kind, .int .u8 nf.sess, .int .u8 nf.seq, .int .u8 nf.ack, .slice A9 nf.b.length c9] 30))) :=
              ⟨str_below (str_below HSo.out hb9) ((Below.refl _ _).alloc (Nat.le_refl _) _), blk_new _ _, own_below ho ((Below.refl _ _).alloc (Nat.le_refl _) _), hb9.alloc hb9.size _⟩
            clear ho hb9
            go_wp2_with fail
            go_region_held3 (fun w' => SmH wo w w1.heap.size nf M w6.heap.size w9.heap.size (.slice A9 nf.b.length c9) w' ∧ w'.cell? ⟨w6.heap.size, 0, none⟩ = some (.int .u8 nf.addr) ∧ w'.cell? ⟨w6.heap.size, 1, none⟩ = some (.int .u8 nf.kind) ∧ w'.cell? ⟨w6.heap.size, 2, none⟩ = some (.int .u8 nf.sess) ∧ w'.cell? ⟨w6.heap.size, 3, none⟩ = some (.int .u8 nf.seq) ∧ w'.cell? ⟨w6.heap.size, 4, none⟩ = some (.int .u8 nf.ack) ∧ w'.cell? ⟨w6.heap.size, 5, none⟩ = some (.string ⟨nf.b.toArray⟩) ∧
                w'.cell? ⟨w9.heap.size, 0, none⟩ = some (.int .u8 nf.addr) ∧ w'.cell? ⟨w9.heap.size, 1, none⟩ = some (.int .u8 nf.kind) ∧ w'.cell? ⟨w9.heap.size, 2, none⟩ = some (.int .u8 nf.sess) ∧ w'.cell? ⟨w9.heap.size, 3, none⟩ = some (.int .u8 nf.seq) ∧ w'.cell? ⟨w9.heap.size, 4, none⟩ = some (.int .u8 nf.ack) ∧ w'.cell? ⟨w9.heap.size, 5, none⟩ = some (.slice A9 nf.b.length c9))
              ((first
                | exact sm_all (sm_below HSm.out ((Below.refl _ _).drew))
                | assumption
                | exact sm_step (by assumption) (by assumption)))
              ((first
                | (go_at_call 21; refine (of_any _ nf.addr nf.kind nf.sess nf.seq nf.ack (.slice A9 nf.b.length c9) nf.b ?_).mono ?_; (exact own_reads (‹SmH wo w w1.heap.size nf M w6.heap.size w9.heap.size (.slice A9 nf.b.length c9) _ ∧ _›).1.2.2.1 (by omega)); rintro e w10 ⟨rfl, hb10⟩)))
            all_goals
              have hSm := (‹SmH wo w w1.heap.size nf M w6.heap.size w9.heap.size (.slice A9 nf.b.length c9) _ ∧ _›).1
              have HRL := Lib.hid (row_left hSm.2.2.2 hSm.2.1 hSm.2.2.1)
              clear hSm
              go_wp2_with fail
              go_loopw [12] (fun i wr => ∃ (p : Nat), p ≤ nf.b.length ∧ i = .int .i64 p ∧ RowLeft wo wr w9.heap.size nf.addr nf.kind nf.sess nf.seq nf.ack A9 nf.b.length c9) (fun i _ => nf.b.length - (intOf i).toNat)
              case atStart => exact ⟨0, Nat.zero_le _, rfl, HRL.out⟩
              case round =>
                obtain ⟨p, hp, rfl, hrl⟩ := hrel
                have HRp := Lib.hid hrl
                have b5 := blk_cell hrl.2.1 5
                simp at b5
                clear hrl
                by_cases hpn : p < nf.b.length
                · obtain ⟨g, hA, hbg, hne, cs, hcs, hh⟩ := HRp.out.2.2 (by omega)
                  subst hA
                  have hcell : wr.cell? ⟨g, p, none⟩ = some (cs[p]'(by omega)) := by rw [blk_cell hh, Array.getElem?_eq_getElem (by omega)]
                  have hfrz := blk_frozen hh p
                  clear hh
                  go_wp2_with fail
                  go_roundw
                  case rel => exact ⟨p + 1, by omega, by go_num, row_left_set HRp.out (by omega)⟩
                  case measure => simp [intOf]; omega
                · go_wp2_with fail
                  go_roundw
                  case rel => exact ⟨j + 1, by omega, by go_num, HSo.out.1.below HRp.out.1, blk_below' HSo.out.2.1 HRp.out.1, HSo.out.2.2.trans (HRp.out.1.mono HSo.out.2.2.size)⟩
                  case measure => simp [intOf]; omega
          · have e0 : (nf.addr == a0) = true := by have := HNA.out; simpa using this
            rcases HKN.out with ⟨k1, k2, k3, k4, k5⟩ | ⟨k1, k2, k3, k4, k5⟩ | ⟨k1, k2, k3, k4, k5⟩
            all_goals
              obtain ⟨_, y0, y1, y2, y3, y4, y5⟩ := str_all HSo.out
              go_wp2_with fail
              go_quiet ((first
                | (go_at_call 13; refine quiet_left (master_state _ w1.heap.size w1.heap.size M ?_); exact HSo.out.1.below (below_drewN (Below.refl _ _) _))
                | (go_at_call 13; refine quiet_add_left (master_state _ w1.heap.size w1.heap.size M ?_); exact HSo.out.1.below (below_drewN (Below.refl _ _) _))
                | (go_at_call 25; refine quiet_left (master_len _ w1.heap.size w1.heap.size M ?_); exact HSo.out.1.below (below_drewN (Below.refl _ _) _))
                | (go_at_call 25; refine quiet_add_left (master_len _ w1.heap.size w1.heap.size M ?_); exact HSo.out.1.below (below_drewN (Below.refl _ _) _))))
              go_wp2_with fail
              go_ret
              exact ⟨rfl, by first | exact below_drewN HSo.out.2.2 _ | exact HSo.out.2.2⟩
end Go.Proofs.Ytdgbmiobfehpdaa
