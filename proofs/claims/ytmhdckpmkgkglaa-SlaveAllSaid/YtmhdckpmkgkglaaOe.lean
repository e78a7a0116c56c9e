/- The walk of lamplightlaw08.SlaveAll. -/
import Derived.Test.YtmhdckpmkgkglaaOa
import Derived.Test.YtmhdckpmkgkglaaOb
import Derived.Test.YtmhdckpmkgkglaaSh
import Derived.BigQuiet
import Derived.LoopTactic
set_option linter.unusedVariables false
set_option linter.unusedSimpArgs false
namespace Go.Proofs.Ytmhdckpmkgkglaa
open Go.RowKit

theorem LineL.next {w wr w2 : World} {B x gm gs k : Nat} {L : LS} {e : Ending} (h : LineL w wr B x gm gs L k) (hB : w.heap.size ≤ B) (hd : DoesEnd wr B x gm gs true (L.doesF 2).2 e w2) : e = .returned (.bool true) ∧ LineL w w2 B x gm gs L.nextF k := by
  obtain ⟨h1, h2⟩ := h.does hB hd
  rw [doesF_2] at h2
  have h3 := nextF_same L
  have h4 := h.sent
  have h5 := h.offered
  exact ⟨h1, h2.be, h2.at_, h2.fine, by omega, by omega⟩
theorem LineL.take {w wr w2 : World} {B x gm gs k : Nat} {L : LS} {e : Ending} (h : LineL w wr B x gm gs L k) (hB : w.heap.size ≤ B) (hd : DoesEnd wr B x gm gs true (L.doesF 4).2 e w2) : e = .returned (.bool true) ∧ LineL w w2 B x gm gs (L.takeF).2 k := by
  obtain ⟨h1, h2⟩ := h.does hB hd
  rw [doesF_4] at h2
  have h3 := take_same h.fine
  have h4 := h.sent
  have h5 := h.offered
  exact ⟨h1, h2.be, h2.at_, h2.fine, by omega, by omega⟩
theorem LineL.heard {w wr w2 : World} {B x gm gs k : Nat} {L : LS} {e : Ending} (h : LineL w wr B x gm gs L k) (hB : w.heap.size ≤ B) (hd : DoesEnd wr B x gm gs true (L.doesF 7).2 e w2) : e = .returned (.bool true) ∧ LineL w w2 B x gm gs (L.heardF).2 k := by
  obtain ⟨h1, h2⟩ := h.does hB hd
  rw [doesF_7] at h2
  have h3 := heard_same h.fine
  have h4 := h.sent
  have h5 := h.offered
  exact ⟨h1, h2.be, h2.at_, h2.fine, by omega, by omega⟩

set_option maxHeartbeats 4000000 in
set_option maxRecDepth 100000 in
theorem all_walk (a0 : Option Addr) (len0 cap0 : Nat) (w : World) (w0 : OpsIn w a0 len0 cap0) :
    Calls Try.prog 9 #[.slice a0 len0 cap0] w fun e w' => e = .returned (.bool true) ∧ Below w.heap.size w w' := by
  have hlen := w0.len
  have W0 := Lib.hid w0
  clear w0
  go_enter Try.func9, Try.ntmps9
  go_wp2_with fail
  refine (shown_any _).mono ?_
  rintro e w1 ⟨rfl, hb1⟩
  have HB1 := Lib.hid hb1
  clear hb1
  go_wp2_with fail
  refine (line_opened _ LS.start rfl).mono ?_
  rintro e w2 ⟨x, gm, gs, rfl, hb2, hl2⟩
  have hB : w.heap.size ≤ w1.heap.size := HB1.out.size
  have HL2 : Hid (LineL w w2 w1.heap.size x gm gs LS.start 0) := ⟨HB1.out.trans (hb2.mono HB1.out.size), hl2, start_fine, Nat.le_refl _, Nat.le_refl _⟩
  clear hb2 hl2 HB1
  go_upto_block 0 with fail
  go_cut [] (fun w' => ∃ L, LineL w w' w1.heap.size x gm gs L 200)
  case first =>
    go_wp2_with fail
    go_loopw [5] (fun i wr => ∃ (k : Nat) (L : LS), k ≤ len0 ∧ k ≤ 200 ∧ i = .int .i64 k ∧ LineL w wr w1.heap.size x gm gs L k) (fun i _ => len0 - (intOf i).toNat)
    case atStart => exact ⟨0, LS.start, Nat.zero_le _, Nat.zero_le _, rfl, HL2.out⟩
    case round =>
      obtain ⟨k, L, hk, hk4, rfl, hlr⟩ := hrel
      have HLr := Lib.hid (hlr.up (j := 200) hk4)
      have HLk := Lib.hid hlr
      clear hlr HL2
      by_cases hlt : k < len0
      · by_cases h4 : k < 200
        · have hd : (decide ((k : Int) < 200)) = true := by simp; omega
          obtain ⟨x1, rfl, hlc1, hcm1, hst⟩ := W0.out.resolve_left (by rintro ⟨_, h, _⟩; omega)
          obtain ⟨kd, hkd⟩ := hst k hlt
          have hcell : wr.cell? (x1.add k) = some (.int .i64 kd) := (HLr.out.be.cell (World.block_lt_of_cell? w _ hkd)).trans hkd
          clear hst hkd
          go_wp2_with fail
          refine (line_does _ w1.heap.size x gm gs L kd HLr.out.at_ HLr.out.fine (by have := HLr.out.sent; omega) (by have := HLr.out.offered; omega)).mono ?_
          intro e w3 hd3
          obtain ⟨rfl, hl3⟩ := HLk.out.does hB hd3
          have HL3 := Lib.hid hl3
          clear hd3 hl3
          go_wp2_with fail
          go_roundw
          case rel => exact ⟨k + 1, _, by omega, by omega, by go_num, HL3.out⟩
          case measure => simp [intOf]; omega
        · have hd : (decide ((k : Int) < 200)) = false := by simp; omega
          go_wp2_with fail
          go_meet
          case rel => exact ⟨L, HLr.out⟩
      · go_wp2_with fail
        go_meet
        case rel => exact ⟨L, HLr.out⟩
  case rest =>
  obtain ⟨w3, rfl⟩ : ∃ w3, w3 = wc := ⟨wc, rfl⟩
  obtain ⟨L1, hl1⟩ := hcut
  have HL1 := Lib.hid hl1
  clear hl1 HL2
  go_wp2_with fail
  go_loopw [7] (fun i wr => ∃ n : Nat, n ≤ 40 ∧ i = .int .i64 n ∧ LineL w wr w1.heap.size x gm gs (LS.xchgs n L1) 200) (fun i _ => 40 - (intOf i).toNat)
  case atStart => exact ⟨0, Nat.zero_le _, rfl, HL1.out⟩
  case round =>
    obtain ⟨n, hn, rfl, hlr⟩ := hrel
    have HLr := Lib.hid hlr
    clear hlr
    by_cases h40 : n < 40
    · go_wp2_with fail
      refine (line_does _ w1.heap.size x gm gs (LS.xchgs n L1) 2 HLr.out.at_ HLr.out.fine (by have := HLr.out.sent; omega) (by have := HLr.out.offered; omega)).mono ?_
      intro e w4 hd4
      obtain ⟨rfl, hl4⟩ := HLr.out.next hB hd4
      have HL4 := Lib.hid hl4
      obtain ⟨L2, hL2⟩ : ∃ L2, L2 = (LS.xchgs n L1).nextF := ⟨_, rfl⟩
      have hx : (LS.xchgs (n + 1) L1) = LS.turns L2.busy L2 := by rw [hL2]; rfl
      rw [← hL2] at HL4
      have HX := Lib.hid hx
      clear hd4 hl4 hL2 hx
      go_wp2_with fail
      go_loopw [9] (fun i wr => ∃ j : Nat, j ≤ L2.busy ∧ i = .int .i64 j ∧ LineL w wr w1.heap.size x gm gs (LS.turns j L2) 200) (fun i _ => L2.busy - (intOf i).toNat)
      case atStart => exact ⟨0, Nat.zero_le _, rfl, HL4.out⟩
      case round =>
        obtain ⟨j, hj, rfl, hlj⟩ := hrel
        have hb40 := HL4.out.fine.busy
        have htu := HL4.out.fine.turns j hj
        have hj50 : (decide ((j : Int) < 50)) = true := by simp; omega
        obtain ⟨vd, vu, ds, us, hin⟩ := hlj.at_
        obtain ⟨Ad, cd, rfl⟩ := hin.d.row.slice
        obtain ⟨Au, cu, rfl⟩ := hin.u.row.slice
        have hdl := hin.dlen
        have hul := hin.ulen
        have hsum : ds.length + us.length + j = L2.busy := by have := htu.2.1; unfold LS.busy at this ⊢; omega
        obtain ⟨dn, hdn⟩ : ∃ z, z = ds.length := ⟨_, rfl⟩
        obtain ⟨un, hun⟩ : ∃ z, z = us.length := ⟨_, rfl⟩
        have x2 := blk_cell hin.blk 2
        have x3 := blk_cell hin.blk 3
        simp at x2 x3
        rw [← hdn] at x2 hsum
        rw [← hun] at x3 hsum
        have bd : dn ≤ 40 := by omega
        have bu : un ≤ 40 := by omega
        have HLj := Lib.hid hlj
        have HTU := Lib.hid htu
        clear hlj htu hin hdl hul hdn hun
        by_cases hmore : j < L2.busy
        · have d1 : decide ((0 : Int) < (dn : Int) + (un : Int)) = true := by simp; omega
          have d2 : decide (0 < dn + un) = true := by simp; omega
          have d3 : (0 : Int) < (dn : Int) + (un : Int) := by omega
          go_upto_region 18 with fail
          go_quiet (fail)
          have HLq : Hid (LineL w (wr.drewN nq) w1.heap.size x gm gs (LS.turns j L2) 200) := HLj.out.below (below_drewN (Below.refl _ _) _)
          clear HLj x2 x3
          go_wp2_with fail
          refine (line_does _ w1.heap.size x gm gs (LS.turns j L2) 4 HLq.out.at_ HLq.out.fine (by have := HLq.out.sent; omega) (by have := HLq.out.offered; omega)).mono ?_
          intro e w5 hd5
          obtain ⟨rfl, hl5⟩ := HLq.out.take hB hd5
          have HL5 := Lib.hid hl5
          clear hl5 hd5
          go_wp2_with fail
          refine (line_does _ w1.heap.size x gm gs _ 7 HL5.out.at_ HL5.out.fine (by have := HL5.out.sent; omega) (by have := HL5.out.offered; omega)).mono ?_
          intro e w6 hd6
          obtain ⟨rfl, hl6⟩ := HL5.out.heard hB hd6
          have HL6 := Lib.hid hl6
          clear hl6 hd6
          go_wp2_with fail
          go_roundw
          case rel => exact ⟨j + 1, by omega, by go_num, HL6.out⟩
          case measure => simp [intOf]; omega
        · have d1 : decide ((0 : Int) < (dn : Int) + (un : Int)) = false := by simp; omega
          have d2 : decide (0 < dn + un) = false := by simp; omega
          have d3 : ¬ (0 : Int) < (dn : Int) + (un : Int) := by omega
          go_upto_region 18 with fail
          go_quiet (fail)
          have HLq : Hid (LineL w (wr.drewN nq) w1.heap.size x gm gs (LS.xchgs (n + 1) L1) 200) := by
            rw [HX.out, show L2.busy = j by omega]
            exact HLj.out.below (below_drewN (Below.refl _ _) _)
          clear HLj x2 x3
          go_wp2_with fail
          go_roundw
          case rel => exact ⟨n + 1, by omega, by go_num, HLq.out⟩
          case measure => simp [intOf]; omega
    · obtain rfl : n = 40 := by omega
      obtain ⟨vd, vu, ds, us, hin⟩ := HLr.out.at_
      obtain ⟨L3, hL3⟩ : ∃ L3, L3 = LS.xchgs 40 L1 := ⟨_, rfl⟩
      obtain ⟨f1, f2, f3, f4⟩ := HL1.out.fine.forty
      rw [← hL3] at hin f1 f2 f3 f4
      have HE := Lib.hid HLr.out.be
      have x0 := blk_cell hin.blk 0
      have x1 := blk_cell hin.blk 1
      have x4 := blk_cell hin.blk 4
      have x5 := blk_cell hin.blk 5
      have x6 := blk_cell hin.blk 6
      have x7 := blk_cell hin.blk 7
      simp at x0 x1 x4 x5 x6 x7
      rw [f1] at x5
      rw [f2] at x7
      obtain ⟨sN, hsN⟩ : ∃ z, z = L3.sent := ⟨_, rfl⟩
      obtain ⟨oN, hoN⟩ : ∃ z, z = L3.offered := ⟨_, rfl⟩
      rw [← hsN] at x4 x5
      rw [← hoN] at x6 x7
      have S3 : ∀ W, MasterAt W w1.heap.size gm L3.M → Calls Try.prog 25 #[.pointer (some ⟨gm, 0, none⟩)] W fun e w' => e = .returned (.int .i64 0) ∧ W = w' := by
        intro W hW
        have := master_len W w1.heap.size gm L3.M hW
        rw [f3] at this
        exact this
      have S4 : ∀ W, SlaveAt W w1.heap.size gs L3.S → Calls Try.prog 14 #[.pointer (some ⟨gs, 0, none⟩)] W fun e w' => e = .returned (.bool false) ∧ W = w' := by
        intro W hW
        have := slave_pending W w1.heap.size gs L3.S hW
        rw [f4] at this
        exact this
      have HM := Lib.hid hin.m
      have HS := Lib.hid hin.s
      clear hin f1 f2 f3 f4 hsN hoN hL3 HLr HL1
      go_upto_region 24 with fail
      go_quiet ((first
        | (go_at_call 25; refine quiet_left (S3 _ ?_); exact HM.out.below (below_drewN (Below.refl _ _) _))
        | (go_at_call 25; refine quiet_add_left (S3 _ ?_); exact HM.out.below (below_drewN (Below.refl _ _) _))
        | (go_at_call 14; refine quiet_left (S4 _ ?_); exact HS.out.below (below_drewN (Below.refl _ _) _))
        | (go_at_call 14; refine quiet_add_left (S4 _ ?_); exact HS.out.below (below_drewN (Below.refl _ _) _))))
      go_wp2_with fail
      go_ret
      exact ⟨rfl, by first | exact below_drewN HE.out _ | exact HE.out⟩
end Go.Proofs.Ytmhdckpmkgkglaa
