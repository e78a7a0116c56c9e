/- The line: any other op does nothing. -/
import Derived.Test.YtmhdckpmkgkglaaNg
set_option linter.unusedVariables false
set_option linter.unusedSimpArgs false
namespace Go.Proofs.Ytmhdckpmkgkglaa
open Go.RowKit

set_option maxHeartbeats 4000000 in
set_option maxRecDepth 100000 in
theorem does_other (w : World) (B x gm gs : Nat) (L : LS) (k : Int) (hk : k < 0 ∨ 13 < k) (h : LineAt w B x gm gs L) :
    Calls Try.prog 22 #[.pointer (some ⟨x, 0, none⟩), .agg #[.int .i64 k]] w (DoesEnd w B x gm gs true L) := by
  obtain ⟨vd, vu, ds, us, hl⟩ := h
  have hal : Below w.heap.size w (w.alloc (.cells #[.int .i64 k] 59)) := (Below.refl _ _).alloc (Nat.le_refl _) _
  have HAL := Lib.hid hal
  have HL := Lib.hid (hl.below hal)
  have k0 : (k == 0) = false := by simp; omega
  have k1 : (k == 1) = false := by simp; omega
  have k2 : (k == 2) = false := by simp; omega
  have k3 : (k == 3) = false := by simp; omega
  have k4 : (k == 4) = false := by simp; omega
  have k5 : (k == 5) = false := by simp; omega
  have k6 : (k == 6) = false := by simp; omega
  have k7 : (k == 7) = false := by simp; omega
  have k8 : (k == 8) = false := by simp; omega
  have k9 : (k == 9) = false := by simp; omega
  have k10 : (k == 10) = false := by simp; omega
  have k11 : (k == 11) = false := by simp; omega
  have k12 : (k == 12) = false := by simp; omega
  have k13 : (k == 13) = false := by simp; omega
  clear hal hl hk
  go_enter Try.func22, Try.ntmps22
  go_wp2_with fail
  go_ret
  exact ⟨rfl, Kept.of_below HAL.out, _, _, _, _, HL.out⟩
end Go.Proofs.Ytmhdckpmkgkglaa
