/- The walk of lamplightlaw08.SlaveOrder. -/
import Derived.Test.YtmhdckpmkgkglaaOa
import Derived.Test.YtmhdckpmkgkglaaOb
import Derived.Test.YtmhdckpmkgkglaaSh
import Derived.BigQuiet
import Derived.LoopTactic
set_option linter.unusedVariables false
set_option linter.unusedSimpArgs false
namespace Go.Proofs.Ytmhdckpmkgkglaa
open Go.RowKit

set_option maxHeartbeats 4000000 in
set_option maxRecDepth 100000 in
theorem order_walk (a0 : Option Addr) (len0 cap0 : Nat) (w : World) (w0 : OpsIn w a0 len0 cap0) :
    Calls Try.prog 7 #[.slice a0 len0 cap0] w fun e w' => e = .returned (.bool true) ∧ Below w.heap.size w w' := by
  have hlen := w0.len
  have W0 := Lib.hid w0
  clear w0
  go_enter Try.func7, Try.ntmps7
  go_wp2_with fail
  refine (shown_any _).mono ?_
  rintro e w1 ⟨rfl, hb1⟩
  have HB1 := Lib.hid hb1
  clear hb1
  go_wp2_with fail
  refine (line_opened _ LS.start rfl).mono ?_
  rintro e w2 ⟨x, gm, gs, rfl, hb2, hl2⟩
  have hB : w.heap.size ≤ w1.heap.size := HB1.out.size
  have HL2 : Hid (LineL w w2 w1.heap.size x gm gs LS.start 0) := ⟨HB1.out.trans (hb2.mono HB1.out.size), hl2, start_fine, Nat.le_refl _, Nat.le_refl _⟩
  clear hb2 hl2 HB1
  go_wp2_with fail
  go_loopw [5] (fun i wr => ∃ (k : Nat) (L : LS), k ≤ len0 ∧ k ≤ 400 ∧ i = .int .i64 k ∧ LineL w wr w1.heap.size x gm gs L k) (fun i _ => len0 - (intOf i).toNat)
  case atStart => exact ⟨0, LS.start, Nat.zero_le _, Nat.zero_le _, rfl, HL2.out⟩
  case round =>
    obtain ⟨k, L, hk, hk4, rfl, hlr⟩ := hrel
    have HLr := Lib.hid hlr
    clear hlr HL2
    by_cases hlt : k < len0
    · by_cases h4 : k < 400
      · have hd : (decide ((k : Int) < 400)) = true := by simp; omega
        obtain ⟨x1, rfl, hlc1, hcm1, hst⟩ := W0.out.resolve_left (by rintro ⟨_, h, _⟩; omega)
        obtain ⟨kd, hkd⟩ := hst k hlt
        have hcell : wr.cell? (x1.add k) = some (.int .i64 kd) := (HLr.out.be.cell (World.block_lt_of_cell? w _ hkd)).trans hkd
        clear hst hkd
        go_wp2_with fail
        refine (line_does _ w1.heap.size x gm gs L kd HLr.out.at_ HLr.out.fine (by have := HLr.out.sent; omega) (by have := HLr.out.offered; omega)).mono ?_
        intro e w3 hd3
        obtain ⟨rfl, hl3⟩ := HLr.out.does hB hd3
        obtain ⟨L1, hL1⟩ : ∃ L1, L1 = (L.doesF kd).2 := ⟨_, rfl⟩
        rw [← hL1] at hl3
        have HL3 := Lib.hid hl3
        obtain ⟨vd, vu, ds, us, hin⟩ := hl3.at_
        obtain ⟨A, T, hi⟩ := hl3.fine
        have x0 := blk_cell hin.blk 0
        have x4 := blk_cell hin.blk 4
        have x5 := blk_cell hin.blk 5
        have x6 := blk_cell hin.blk 6
        have x7 := blk_cell hin.blk 7
        have S1 : ∀ W, MasterAt W w1.heap.size gm L1.M → Calls Try.prog 23 #[.pointer (some ⟨gm, 0, none⟩)] W fun e w' => e = .returned (.int .i64 1) ∧ W = w' := by
          intro W hW
          have := master_state W w1.heap.size gm L1.M hW
          rw [hi.mst] at this
          exact this
        have S2 : ∀ W, MasterAt W w1.heap.size gm L1.M → Calls Try.prog 24 #[.pointer (some ⟨gm, 0, none⟩)] W fun e w' => e = .returned (.int .i64 1) ∧ W = w' := by
          intro W hW
          have := master_epoch W w1.heap.size gm L1.M hW
          rw [hi.mep] at this
          exact this
        obtain ⟨n, hn⟩ : ∃ n, n = L1.M.queue.length := ⟨_, rfl⟩
        have S3 : ∀ W, MasterAt W w1.heap.size gm L1.M → Calls Try.prog 25 #[.pointer (some ⟨gm, 0, none⟩)] W fun e w' => e = .returned (.int .i64 (n : Int)) ∧ W = w' := by
          intro W hW
          rw [hn]
          exact master_len W w1.heap.size gm L1.M hW
        obtain ⟨sN, hsN⟩ : ∃ z, z = L1.sent := ⟨_, rfl⟩
        obtain ⟨cN, hcN⟩ : ∃ z, z = L1.came := ⟨_, rfl⟩
        obtain ⟨oN, hoN⟩ : ∃ z, z = L1.offered := ⟨_, rfl⟩
        obtain ⟨hN, hhN⟩ : ∃ z, z = L1.heard := ⟨_, rfl⟩
        simp at x0 x4 x5 x6 x7
        rw [← hsN] at x4
        rw [← hcN] at x5
        rw [← hoN] at x6
        rw [← hhN] at x7
        have hq := hi.q
        have hc0 := hi.c0
        have hc1 := hi.c1
        have hc2 := hi.c2
        have hh0 := hi.h0
        have hh1 := hi.h1
        have hp : oN = T ∧ hN = T ∨ oN = T + 1 := by rcases hi.p with ⟨_, p2, p3⟩ | ⟨_, p2⟩ <;> omega
        have hs3 := hl3.sent
        have ho3 := hl3.offered
        have b1 : sN ≤ 401 := by omega
        have b2 : oN ≤ 401 := by omega
        have b3 : hN ≤ 401 := by omega
        have b4 : cN ≤ 401 := by omega
        have b5 : n ≤ sN := by omega
        have d1 : decide (sN < cN) = false := by simp; omega
        have d1' : decide ((sN : Int) < (cN : Int)) = false := by simp; omega
        have d2 : decide ((cN : Int) < (sN : Int) - (n : Int)) = false := by simp; omega
        have d3 : decide ((sN : Int) - (n : Int) + 1 < (cN : Int)) = false := by simp; omega
        have d4 : decide (oN < hN) = false := by simp; omega
        have d4' : decide ((oN : Int) < (hN : Int)) = false := by simp; omega
        have d5 : decide ((hN : Int) + 1 < (oN : Int)) = false := by simp; omega
        have d5' : decide (hN + 1 < oN) = false := by simp; omega
        have HM3 := Lib.hid hin.m
        clear hl3 hin hi hn hsN hcN hoN hhN hL1 hq hc0 hc1 hc2 hh0 hh1 hp hs3 ho3 hd3
        go_wp2_with fail
        refine (S1 _ HM3.out).mono ?_
        rintro e w4 ⟨rfl, rfl⟩
        go_wp2_with fail
        refine (S2 _ HM3.out).mono ?_
        rintro e w4 ⟨rfl, rfl⟩
        go_upto_region 11 with fail
        simp only [List.append_eq, List.cons_append, List.nil_append]
        go_quiet ((first
          | (go_at_call 25; refine quiet_left (S3 _ ?_); exact HM3.out.below (below_drewN (Below.refl _ _) _))
          | (go_at_call 25; refine quiet_add_left (S3 _ ?_); exact HM3.out.below (below_drewN (Below.refl _ _) _))))
        go_wp2_with fail
        go_roundw
        case rel => exact ⟨k + 1, L1, by omega, by omega, by go_num, HL3.out.below (below_drewN (Below.refl _ _) _)⟩
        case measure => simp [intOf]; omega
      · have hd : (decide ((k : Int) < 400)) = false := by simp; omega
        go_wp2_with fail
        go_ret
        exact ⟨rfl, HLr.out.be⟩
    · go_wp2_with fail
      go_ret
      exact ⟨rfl, HLr.out.be⟩
end Go.Proofs.Ytmhdckpmkgkglaa
