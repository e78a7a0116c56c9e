/- The walk of lamplightlaw08.SlaveQuiet. -/
import Derived.Test.YtmhdckpmkgkglaaE1
set_option linter.unusedVariables false
set_option linter.unusedSimpArgs false
namespace Go.Proofs.Ytmhdckpmkgkglaa
open Go.RowKit

/-- A frame that is handed in by value. -/
def FrameV (w : World) (v : Value) : Prop :=
  ∃ a k s q c A n cp z, v = .agg #[.int .u8 a, .int .u8 k, .int .u8 s, .int .u8 q, .int .u8 c, .slice A n cp] ∧ IsRow8 w A n cp z ∧ 0 ≤ s ∧ s ≤ 255

def QuietH (w : World) (g : Nat) (S : SS) (bx : Nat) (A : Option Addr) (c : Nat) (w' : World) : Prop :=
  Below w.heap.size w w' ∧ SlaveAt w' g g S ∧ w'.heap[bx]? = some (.cells #[.int .u8 S.addr, .int .u8 5, .int .u8 S.num, .int .u8 0, .int .u8 0, .slice A 0 c] 29)
theorem quiet_all {w w' : World} {g bx c : Nat} {S : SS} {A : Option Addr} (h : QuietH w g S bx A c w') : QuietH w g S bx A c w' ∧ w'.cell? ⟨g, 0, none⟩ = some (.int .u8 S.num) ∧ w'.cell? ⟨g, 1, none⟩ = some (.int .u8 S.tells) ∧ w'.cell? ⟨g, 2, none⟩ = some (.int .u8 S.next) ∧
      w'.cell? ⟨bx, 1, none⟩ = some (.int .u8 5) ∧ w'.cell? ⟨bx, 2, none⟩ = some (.int .u8 S.num) ∧ w'.cell? ⟨bx, 5, none⟩ = some (.slice A 0 c) := by
  obtain ⟨v, hv, _⟩ := h.2.1.ex
  exact ⟨h, blk_cell hv 0, blk_cell hv 1, blk_cell hv 2, blk_cell h.2.2 1, blk_cell h.2.2 2, blk_cell h.2.2 5⟩
theorem quiet_below {w w' w2 : World} {g bx c : Nat} {S : SS} {A : Option Addr} (h : QuietH w g S bx A c w') (hk : Below w'.heap.size w' w2) : QuietH w g S bx A c w2 :=
  ⟨h.1.trans (hk.mono h.1.size), h.2.1.below hk, blk_below' h.2.2 hk⟩
theorem quiet_step {w w' w2 : World} {g bx c : Nat} {S : SS} {A : Option Addr} {X : Prop} (h : QuietH w g S bx A c w' ∧ X) (hk : Below w'.heap.size w' w2) :
    QuietH w g S bx A c w2 ∧ w2.cell? ⟨g, 0, none⟩ = some (.int .u8 S.num) ∧ w2.cell? ⟨g, 1, none⟩ = some (.int .u8 S.tells) ∧ w2.cell? ⟨g, 2, none⟩ = some (.int .u8 S.next) ∧
      w2.cell? ⟨bx, 1, none⟩ = some (.int .u8 5) ∧ w2.cell? ⟨bx, 2, none⟩ = some (.int .u8 S.num) ∧ w2.cell? ⟨bx, 5, none⟩ = some (.slice A 0 c) := quiet_all (quiet_below h.1 hk)

set_option maxHeartbeats 4000000 in
set_option maxRecDepth 100000 in
theorem quiet_walk (a0 : Int) (a1 : Option Addr) (len1 cap1 : Nat) (vf : Value) (w : World) (w0 : (Lit.int .u8 a0).wf = true) (r1 : StepsIn w a1 len1 cap1) (r2 : FrameV w vf) :
    Calls Try.prog 6 #[.int .u8 a0, .slice a1 len1 cap1, vf] w fun e w' => e = .returned (.bool true) ∧ Below w.heap.size w w' := by
  obtain ⟨ha0, ha1⟩ := wf_u8 w0
  obtain ⟨ga, gk, gs, gq, gc, gA, gn, gcp, gz, rfl, gr, gs1, gs2⟩ := r2
  go_enter Try.func6, Try.ntmps6
  go_wp2_with fail
  refine (shown_any _).mono ?_
  rintro e w1 ⟨rfl, hb1⟩
  have hF1 := blk_below' (blk_new w _) hb1
  have hbel1 : Below w.heap.size w w1 := ((Below.refl _ _).alloc (Nat.le_refl _) _).trans (hb1.mono (by simp))
  have HB1 := Lib.hid hbel1
  have HF1 := Lib.hid hF1
  have hgf : w.heap.size < w1.heap.size := blk_lt hF1
  clear hb1 hF1 hbel1
  go_wp2_with fail
  refine (slave_new _ a0).mono ?_
  rintro e w2 ⟨rfl, hb2, hs2⟩
  have HB2 : Hid (Below w.heap.size w w2) := HB1.out.trans (hb2.mono HB1.out.size)
  have HF2 := Lib.hid (blk_below' HF1.out hb2)
  have HS2 : Hid (SlaveAt w2 w1.heap.size w1.heap.size (SS.new a0)) := hs2
  have hg : w.heap.size ≤ w1.heap.size := HB1.out.size
  have hz : w1.heap.size < w2.heap.size := hs2.lt
  clear hb2 hs2
  go_wp2_with fail
  go_loopw [9] (fun i wr => ∃ (k : Nat) (S : SS), k ≤ len1 ∧ i = .int .i64 k ∧ Below w.heap.size w wr ∧ SlaveAt wr w1.heap.size w1.heap.size S ∧ S.addr = a0 ∧ 0 ≤ S.num ∧ S.num ≤ 255 ∧
    wr.heap[w.heap.size]? = some (.cells #[.int .u8 ga, .int .u8 gk, .int .u8 gs, .int .u8 gq, .int .u8 gc, .slice gA gn gcp] 29)) (fun i _ => len1 - (intOf i).toNat)
  case atStart => exact ⟨0, SS.new a0, Nat.zero_le _, rfl, HB2.out, HS2.out, rfl, by simp [SS.new], by simp [SS.new], HF2.out⟩
  case round =>
    obtain ⟨k, S, hk, rfl, hbr, hsr, hS0, hS1, hS2, hfr⟩ := hrel
    have HBr := Lib.hid hbr
    have HSr := Lib.hid hsr
    have HFr := Lib.hid hfr
    have hgw : w1.heap.size < wr.heap.size := hsr.lt
    clear hbr hsr hfr HF2 HF1 HS2 HB2 HB1
    have hmax : len1 ≤ 9223372036854775807 := by
      rcases r1 with ⟨_, h1, _⟩ | ⟨_, _, h1, h2, _⟩
      · omega
      · unfold maxLen at h2; omega
    by_cases hgo : k < len1 ∧ k < 100
    · obtain ⟨hlt, h100⟩ := hgo
      have hd : (decide ((k : Int) < 100)) = true := by simp; omega
      obtain ⟨x1, rfl, hlc1, _, hst⟩ := r1.resolve_left (by rintro ⟨_, h, _⟩; omega)
      obtain ⟨kd, fa, fk, fs, fq, fc, A, n, cp, z, own, hst⟩ := hst k hlt
      have HI := Lib.hid (hst.below HBr.out)
      have HJ := Lib.hid hst
      obtain ⟨c0, c1, c2, c3, c4, c5, c6, c7, hrow, hs1, hs2⟩ := HI.out
      have HRow := Lib.hid hrow
      have d1 : wr.cell? ⟨(x1.add (k * 8)).block, (x1.add (k * 8)).off + 1, none⟩ = some (.int .u8 fa) := by simpa [Addr.add] using c1
      have d2 : wr.cell? ⟨(x1.add (k * 8)).block, (x1.add (k * 8)).off + 1 + 1, none⟩ = some (.int .u8 fk) := by simpa [Addr.add] using c2
      have d3 : wr.cell? ⟨(x1.add (k * 8)).block, (x1.add (k * 8)).off + 1 + 2, none⟩ = some (.int .u8 fs) := by simpa [Addr.add] using c3
      have d4 : wr.cell? ⟨(x1.add (k * 8)).block, (x1.add (k * 8)).off + 1 + 3, none⟩ = some (.int .u8 fq) := by simpa [Addr.add] using c4
      have d5 : wr.cell? ⟨(x1.add (k * 8)).block, (x1.add (k * 8)).off + 1 + 4, none⟩ = some (.int .u8 fc) := by simpa [Addr.add] using c5
      have d6 : wr.cell? ⟨(x1.add (k * 8)).block, (x1.add (k * 8)).off + 1 + 5, none⟩ = some (.slice A n cp) := by simpa [Addr.add] using c6
      have d7 : wr.cell? ⟨(x1.add (k * 8)).block, (x1.add (k * 8)).off + 7, none⟩ = some (.bool own) := by simpa [Addr.add] using c7
      have hpb : (x1.add (k * 8)).block < wr.heap.size := World.block_lt_of_cell? wr _ c0
      clear hst hrow c1 c2 c3 c4 c5 c6 c7 r1
      obtain ⟨m, hm1, hm2, hmin⟩ : ∃ m : Nat, m ≤ n ∧ m ≤ 40 ∧ (if (40 : Int) < (n : Int) then (40 : Int) else (n : Int)) = (m : Int) := by
        by_cases h : 40 < n
        · exact ⟨40, by omega, by omega, by rw [if_pos (by omega)]; rfl⟩
        · exact ⟨n, by omega, by omega, by rw [if_neg (by omega)]⟩
      have hncp := HRow.out.cap.1
      have hcpm := HRow.out.cap.2
      go_upto_if 52 with fail
      go_cut [] (fun wc => Below wr.heap.size wr wc ∧ ∃ fa' fs', wc.heap[wr.heap.size]? = some (.cells #[.int .u8 fa', .int .u8 fk, .int .u8 fs', .int .u8 fq, .int .u8 fc, .slice A m cp] 29) ∧ 0 ≤ fs' ∧ fs' ≤ 255)
      case first =>
        cases own with
        | true =>
          obtain ⟨vv, hblk, _⟩ := HSr.out.ex
          have q0 : ∀ o, (wr.alloc o).cell? ⟨w1.heap.size, 0, none⟩ = some (.int .u8 S.num) := fun o => blk_cell (blk_alloc hblk o) 0
          have q1 : ∀ o, (wr.alloc o).cell? ⟨w1.heap.size, 1, none⟩ = some (.int .u8 S.tells) := fun o => blk_cell (blk_alloc hblk o) 1
          have q2 : ∀ o, (wr.alloc o).cell? ⟨w1.heap.size, 2, none⟩ = some (.int .u8 S.next) := fun o => blk_cell (blk_alloc hblk o) 2
          clear hblk
          go_wp2_with fail
          refine (session_any _ S.num S.tells S.next).mono ?_
          rintro e w5 ⟨rfl, hb5⟩
          have hw5 : w5.heap[wr.heap.size]? = some (.cells #[.int .u8 a0, .int .u8 fk, .int .u8 fs, .int .u8 fq, .int .u8 fc, .slice A m cp] 29) := blk_below' (blk_new _ _) hb5
          have hbl5 : Below wr.heap.size wr w5 := ((Below.refl _ _).alloc (Nat.le_refl _) _).trans (hb5.mono (by simp))
          have p2 := blk_cell hw5 2
          have p2' := blk_frozen hw5 2
          simp at p2
          have HW5 := Lib.hid hw5
          have HBL5 := Lib.hid hbl5
          clear hw5 hbl5 hb5
          go_wp2_with fail
          go_meet
          case rel => exact ⟨HBL5.out.setCell (Nat.le_refl _) _, a0, S.num, by have := blk_set HW5.out 2 (.int .u8 S.num); simpa using this, hS1, hS2⟩
        | false =>
          go_wp2_with fail
          go_meet
          case rel => exact ⟨(Below.refl _ _).alloc (Nat.le_refl _) _, fa, fs, blk_new _ _, hs1, hs2⟩
      case rest =>
        obtain ⟨hbc, fa', fs', hbox, hf1, hf2⟩ := hcut
        have c0' : wc.cell? (x1.add (k * 8)) = some (.int .i64 kd) := (hbc.cell hpb).trans c0
        have HB2 : Hid (Below w.heap.size w wc) := HBr.out.trans (hbc.mono HBr.out.size)
        have HS2 : Hid (SlaveAt wc w1.heap.size w1.heap.size S) := HSr.out.below hbc
        have HF2 := Lib.hid (blk_below' HFr.out hbc)
        have HRow2 : Hid (IsRow8 wc A n cp z) := HRow.out.below hbc (B := 0)
        obtain ⟨bl, hbl⟩ : ∃ bl, bl = toB (z.take m) := ⟨_, rfl⟩
        have hrd : ReadsB wc (.slice A m cp) bl := by rw [hbl]; exact row_reads (HRow2.out.cut hm1) (by omega)
        have hng : NotIn w1.heap.size (.slice A m cp) bl := by rw [hbl]; exact HJ.out.row.notIn hg
        obtain ⟨b0, b1, b2, b3, b4, b5⟩ := blk6 hbox
        have HRd := Lib.hid hrd
        have HNg := Lib.hid hng
        have hfne : w.heap.size ≠ w1.heap.size := Nat.ne_of_lt hgf
        clear hrd hng hbl hbc hbox d1 d2 d3 d4 d5 d6 d7 HSr HFr HRow c0 HI
        by_cases k0 : kd = 0
        · subst k0
          obtain ⟨nn, S1, hF⟩ : ∃ n S1, offerF S bl = (n, S1) := ⟨_, _, rfl⟩
          have hK := offer_keeps hF
          go_wp2_with fail
          refine (slave_offer _ w1.heap.size w1.heap.size S S1 (.slice A m cp) bl nn HS2.out HRd.out hF).mono ?_
          rintro e w4 ⟨rfl, hgr4, hs4⟩
          have HB4 : Hid (Below w.heap.size w w4) := HB2.out.trans (below_grown hgr4 HB2.out.size (by rintro _ ⟨⟩; exact hg))
          have HF4 := Lib.hid (blk_grown HF2.out hgr4 (by simpa using hfne))
          have HS4 := Lib.hid hs4
          clear hgr4 hs4 hF
          go_wp2_with fail
          go_roundw
          case rel => exact ⟨k + 1, S1, by omega, by go_num, HB4.out, HS4.out, hK.1.trans hS0, by rw [hK.2]; exact hS1, by rw [hK.2]; exact hS2, HF4.out⟩
          case measure => simp [intOf]; omega
        · by_cases k15 : 1 ≤ kd ∧ kd ≤ 5
          · obtain ⟨r, cmd, okb, S1, hF⟩ : ∃ r cmd okb S1, takeF S ⟨fa', fk, fs', fq, fc, bl⟩ = (r, cmd, okb, S1) := ⟨_, _, _, _, rfl⟩
            have hK := take_keeps hF hS1 hS2 hf1 hf2
            have HF := Lib.hid hF
            clear hF
            have hkk : kd = 1 ∨ kd = 2 ∨ kd = 3 ∨ kd = 4 ∨ kd = 5 := by omega
            rcases hkk with rfl | rfl | rfl | rfl | rfl
            all_goals
              go_wp2_with fail
              refine (slave_take _ w1.heap.size w1.heap.size S S1 ⟨fa', fk, fs', fq, fc, bl⟩ r cmd okb A m cp HS2.out HRd.out HNg.out HF.out).mono ?_
              rintro e w4 ⟨v1, v2, rfl, ho1, ho2, hgr4, hs4⟩
              have HB4 : Hid (Below w.heap.size w w4) := HB2.out.trans (below_grown hgr4 HB2.out.size (by rintro _ ⟨⟩; exact hg))
              have HF4 := Lib.hid (blk_grown HF2.out hgr4 (by simpa using hfne))
              have HS4 := Lib.hid hs4
              clear hgr4 hs4 ho1 ho2
              go_wp2_with fail
              go_roundw
              case rel => exact ⟨k + 1, S1, by omega, by go_num, HB4.out, HS4.out, hK.1.trans hS0, hK.2.1, hK.2.2, HF4.out⟩
              case measure => simp [intOf]; omega
          · by_cases k6 : kd = 6
            · subst k6
              go_wp2_with fail
              refine (slave_reset _ w1.heap.size w1.heap.size S HS2.out).mono ?_
              rintro e w4 ⟨rfl, hgr4, hs4⟩
              have HB4 : Hid (Below w.heap.size w w4) := HB2.out.trans (below_grown hgr4 HB2.out.size (by rintro _ ⟨⟩; exact hg))
              have HF4 := Lib.hid (blk_grown HF2.out hgr4 (by simpa using hfne))
              have HS4 := Lib.hid hs4
              clear hgr4 hs4
              go_wp2_with fail
              go_roundw
              case rel => exact ⟨k + 1, SS.new S.addr, by omega, by go_num, HB4.out, HS4.out, hS0, by simp [SS.new], by simp [SS.new], HF4.out⟩
              case measure => simp [intOf]; omega
            · have e0 : (kd == 0) = false := by simpa using k0
              have e1 : (kd == 1) = false := by simp; omega
              have e2 : (kd == 2) = false := by simp; omega
              have e3 : (kd == 3) = false := by simp; omega
              have e4 : (kd == 4) = false := by simp; omega
              have e5 : (kd == 5) = false := by simp; omega
              have e6 : (kd == 6) = false := by simpa using k6
              go_wp2_with fail
              go_roundw
              case rel => exact ⟨k + 1, S, by omega, by go_num, HB2.out, HS2.out, hS0, hS1, hS2, HF2.out⟩
              case measure => simp [intOf]; omega
    · have HS0 := Lib.hid hS0
      clear hS0
      obtain ⟨vv, hblk, hov⟩ := HSr.out.ex
      obtain ⟨q0, q1, q2, q3, q4⟩ := blk5 hblk
      obtain ⟨f0, f1, f2, f3, f4, f5⟩ := blk6 HFr.out
      have hx : ¬ k < len1 ∨ (k < len1 ∧ ¬ k < 100) := by omega
      rcases hx with hx | ⟨hx, hy⟩
      all_goals
        try have hd : (decide ((k : Int) < 100)) = false := by (simp; omega)
        go_wp2_with fail
        refine (slave_pending _ w1.heap.size w1.heap.size S HSr.out).mono ?_
        rintro e w4 ⟨rfl, rfl⟩
        go_wp2_with fail
        refine (session_any _ S.num S.tells S.next).mono ?_
        rintro e w5 ⟨rfl, hb5⟩
        have HS5 := Lib.hid (HSr.out.below hb5)
        have HF5 := Lib.hid (blk_below' HFr.out hb5)
        have HB5 : Hid (Below w.heap.size w w5) := HBr.out.trans (hb5.mono HBr.out.size)
        clear hb5 hblk hov q0 q1 q2 q3 q4 f0 f1 f2 f3 f4 f5 HSr HFr HBr
        obtain ⟨f0, f1, f2, f3, f4, f5⟩ := blk6 HF5.out
        go_upto_region 26 with fail
        go_cut [105] (fun s w' => Below w5.heap.size w5 w' ∧ s = .bool (decide (ga = a0 ∧ 1 ≤ gk ∧ gk ≤ 3)))
        case first =>
          by_cases g1 : ga = a0
          · have e1 : (ga == a0) = true := by simpa using g1
            have G1 := Lib.hid g1
            clear g1
            by_cases g2 : 1 ≤ gk
            · have e2 : decide (1 ≤ gk) = true := by simpa using g2
              by_cases g3 : gk ≤ 3
              · have e3 : decide (gk ≤ 3) = true := by simpa using g3
                first | go_quiet (fail) | skip
                go_wp2_with fail
                go_meet
                case rel => exact ⟨Below.refl _ _, by simp [G1.out, g2, g3]⟩
              · have e3 : decide (gk ≤ 3) = false := by simpa using g3
                first | go_quiet (fail) | skip
                go_wp2_with fail
                go_meet
                case rel => exact ⟨Below.refl _ _, by simp [G1.out, g2, g3]⟩
            · have e2 : decide (1 ≤ gk) = false := by simpa using g2
              first | go_quiet (fail) | skip
              go_wp2_with fail
              go_meet
              case rel => exact ⟨Below.refl _ _, by simp [G1.out]; omega⟩
          · have e1 : (ga == a0) = false := by simpa using g1
            have G1 := Lib.hid g1
            clear g1
            first | go_quiet (fail) | skip
            go_wp2_with fail
            go_meet
            case rel => exact ⟨Below.refl _ _, by simp [G1.out]⟩
        case rest =>
          obtain ⟨hbc, rfl⟩ := hcut
          have HS6 := Lib.hid (HS5.out.below hbc)
          have HF6 := Lib.hid (blk_below' HF5.out hbc)
          have HB6 : Hid (Below w.heap.size w wc) := HB5.out.trans (hbc.mono HB5.out.size)
          clear hbc HS5 HF5 HB5 f0 f1 f2 f3 f4 f5
          obtain ⟨f0, f1, f2, f3, f4, f5⟩ := blk6 HF6.out
          obtain ⟨p0, p1, p2, p3, p4, p5⟩ := frz6 HF6.out
          go_step
          go_cut [] (fun w' => SlaveAt w' w1.heap.size w1.heap.size S ∧ Below w.heap.size w w' ∧ ∃ gk', (ga ≠ a0 ∨ gk' < 1 ∨ 3 < gk') ∧ w'.heap[w.heap.size]? = some (.cells #[.int .u8 ga, .int .u8 gk', .int .u8 gs, .int .u8 gq, .int .u8 gc, .slice gA gn gcp] 29))
          case first =>
            by_cases g : ga = a0 ∧ 1 ≤ gk ∧ gk ≤ 3
            · have e1 : (decide (ga = a0 ∧ 1 ≤ gk ∧ gk ≤ 3)) = true := by simpa using g
              go_wp2_with fail
              go_meet
              case rel => exact ⟨HS6.out.keep (fun k h1 h2 _ => Below.heap_setCell _ _ _ _ (by simp; omega)), HB6.out.setCell (Nat.le_refl _) _, 4, by omega, by have := blk_set HF6.out 1 (.int .u8 4); simpa using this⟩
            · have e1 : (decide (ga = a0 ∧ 1 ≤ gk ∧ gk ≤ 3)) = false := by simpa using g
              go_wp2_with fail
              go_meet
              case rel => exact ⟨HS6.out, HB6.out, gk, by omega, HF6.out⟩
          case rest =>
            obtain ⟨hs7, hb7, gk', hno, hf7⟩ := hcut
            clear f0 f1 f2 f3 f4 f5 p0 p1 p2 p3 p4 p5 HS6 HF6 HB6
            have HS7 := Lib.hid hs7
            have HB7 := Lib.hid hb7
            have HF7 := Lib.hid hf7
            clear hs7 hb7 hf7
            obtain ⟨f0, f1, f2, f3, f4, f5⟩ := blk6 HF7.out
            go_wp2_with fail
            obtain ⟨vv, hblk, hov⟩ := HS7.out.ex
            refine (take_none _ w1.heap.size S.addr S.num S.tells S.next ga gk' gs gq gc vv gA gn gcp hblk (by rw [HS0.out]; exact hno)).mono ?_
            rintro e w8 ⟨rfl, hb8⟩
            have HS8 := Lib.hid (HS7.out.below hb8)
            have HF8 := Lib.hid (blk_below' HF7.out hb8)
            have HB8 : Hid (Below w.heap.size w w8) := HB7.out.trans (hb8.mono HB7.out.size)
            clear hb8 hblk hov f0 f1 f2 f3 f4 f5 HS7 HF7 HB7
            have f3 : ∀ o, (w8.alloc o).cell? ⟨w.heap.size, 3, none⟩ = some (.int .u8 gq) := fun o => blk_cell (blk_alloc HF8.out o) 3
            have f4 : ∀ o, (w8.alloc o).cell? ⟨w.heap.size, 4, none⟩ = some (.int .u8 gc) := fun o => blk_cell (blk_alloc HF8.out o) 4
            have kc := conv_const
            go_wp2_with fail
            have hwr : (S.num + 1) % 256 ≠ S.num := by omega
            have hF : takeF S ⟨a0, 2, (S.num + 1) % 256, gq, gc, [120]⟩ = (⟨S.addr, 5, S.num, 0, 0, []⟩, [], true, S) := by
              unfold takeF
              rw [if_neg (by simp [HS0.out]), if_neg (by simp), if_pos (.inr hwr)]
            have HFF := Lib.hid hF
            have hgw8 : w1.heap.size < w8.heap.size := HS8.out.lt
            clear hF hwr f3 f4
            refine (slave_take _ w1.heap.size w1.heap.size S S ⟨a0, 2, (S.num + 1) % 256, gq, gc, [120]⟩ ⟨S.addr, 5, S.num, 0, 0, []⟩ [] true (some ⟨w8.heap.size + 1, 0, none⟩) 1 1 ?hS ?hR ?hN HFF.out).mono ?_
            case hS => exact HS8.out.below ((((Below.refl _ _).alloc (Nat.le_refl _) _).alloc (by simp) _).alloc (by simp; omega) _)
            case hR => exact reads_lit (t := 5) (fr := (1, 2)) (cs := #[.int .u8 120]) (blk_alloc (blk_new' _ _ _ (by simp)) _) [120] rfl (by decide)
            case hN => intro ad n c h _; cases h; simp; omega
            rintro e w9 ⟨v1, v2, rfl, ho1, ho2, hgr9, hs9⟩
            obtain ⟨A9, c9, rfl⟩ := own_slice ho1
            obtain ⟨A8, c8, rfl⟩ := own_slice ho2
            have hb9 : Below w.heap.size w w9 := law_step HB8.out HB8.out.size ((((Below.refl _ _).alloc (Nat.le_refl _) _).alloc (by simp) _).alloc (by simp; omega) _) hgr9 hg
            have hT : QuietH w w1.heap.size S w9.heap.size A9 c9 (w9.alloc (.cells #[.int .u8 S.addr, .int .u8 5, .int .u8 S.num, .int .u8 0, .int .u8 0, .slice A9 0 c9] 29)) :=
              ⟨hb9.alloc hb9.size _, hs9.below ((Below.refl _ _).alloc (Nat.le_refl _) _), blk_new _ _⟩
            have HT := Lib.hid hT
            obtain ⟨uu, hg9, _⟩ := hs9.ex
            have q0 : ∀ o, (w9.alloc o).cell? ⟨w1.heap.size, 0, none⟩ = some (.int .u8 S.num) := fun o => blk_cell (blk_alloc hg9 o) 0
            have q1 : ∀ o, (w9.alloc o).cell? ⟨w1.heap.size, 1, none⟩ = some (.int .u8 S.tells) := fun o => blk_cell (blk_alloc hg9 o) 1
            have q2 : ∀ o, (w9.alloc o).cell? ⟨w1.heap.size, 2, none⟩ = some (.int .u8 S.next) := fun o => blk_cell (blk_alloc hg9 o) 2
            clear hb9 hT hgr9 hs9 ho1 ho2 HS8 HF8 HB8 hg9
            go_wp2_with fail
            refine (slave_pending _ w1.heap.size w1.heap.size S HT.out.2.1).mono ?_
            rintro e w10 ⟨rfl, rfl⟩
            go_wp2_with fail
            refine (session_any _ S.num S.tells S.next).mono ?_
            rintro e w11 ⟨rfl, hb11⟩
            go_wp2_with fail
            go_ret
            exact ⟨by simp, (quiet_below HT.out hb11).1⟩

end Go.Proofs.Ytmhdckpmkgkglaa
