/- Slave.Take: a frame that is not for it. -/
import Derived.Test.YtmhdckpmkgkglaaSb
set_option linter.unusedVariables false
set_option linter.unusedSimpArgs false
namespace Go.Proofs.Ytmhdckpmkgkglaa
open Go.RowKit

set_option maxHeartbeats 2000000 in
theorem take_none (w : World) (g : Nat) (a n t x fa fk fs fq fc : Int) (v : Value) (A : Option Addr) (m c : Nat) (h : w.heap[g]? = some (.cells #[.int .u8 n, .int .u8 t, .int .u8 x, .int .u8 a, v] 43 (0, 0)))
    (hno : fa ≠ a ∨ fk < 1 ∨ 3 < fk) :
    Calls Try.prog 13 #[.pointer (some ⟨g, 0, none⟩), .agg #[.int .u8 fa, .int .u8 fk, .int .u8 fs, .int .u8 fq, .int .u8 fc, .slice A m c]] w fun e w' =>
      e = .returned (.tuple #[.agg #[.int .u8 0, .int .u8 0, .int .u8 0, .int .u8 0, .int .u8 0, .slice none 0 0], .slice none 0 0, .bool false]) ∧ Below w.heap.size w w' := by
  obtain ⟨h0, h1, h2, h3, h4⟩ := blk5 h
  have hlt := blk_lt h
  clear h
  by_cases k1 : fa = a
  · subst k1
    have e1 : (fa != fa) = false := by simp
    by_cases k2 : fk < 1
    · have e2 : decide (fk < 1) = true := by simpa using k2
      go_enter Try.func13, Try.ntmps13
      go_wp2_with fail
      go_quiet (fail)
      go_wp2
      refine bodyPost_ret (v := .tuple #[.agg #[.int .u8 0, .int .u8 0, .int .u8 0, .int .u8 0, .int .u8 0, .slice none 0 0], .slice none 0 0, .bool false]) (by simp [results, Try.results13, go_sem]) rfl ⟨rfl, ?_⟩
      repeat' (first | (with_reducible exact Below.refl _ _) | (with_reducible refine below_drewN ?_ _) | (with_reducible refine Below.setCell ?_ ?_ _) | (with_reducible refine Below.alloc ?_ ?_ _) | (simp; done) | (simp; omega))
    · have k3 : 3 < fk := by omega
      have e2 : decide (fk < 1) = false := by simpa using k2
      have e3 : decide (3 < fk) = true := by simpa using k3
      go_enter Try.func13, Try.ntmps13
      go_wp2_with fail
      go_quiet (fail)
      go_wp2
      refine bodyPost_ret (v := .tuple #[.agg #[.int .u8 0, .int .u8 0, .int .u8 0, .int .u8 0, .int .u8 0, .slice none 0 0], .slice none 0 0, .bool false]) (by simp [results, Try.results13, go_sem]) rfl ⟨rfl, ?_⟩
      repeat' (first | (with_reducible exact Below.refl _ _) | (with_reducible refine below_drewN ?_ _) | (with_reducible refine Below.setCell ?_ ?_ _) | (with_reducible refine Below.alloc ?_ ?_ _) | (simp; done) | (simp; omega))
  · have e1 : (fa != a) = true := by simpa using k1
    go_enter Try.func13, Try.ntmps13
    go_wp2_with fail
    go_quiet (fail)
    go_wp2
    refine bodyPost_ret (v := .tuple #[.agg #[.int .u8 0, .int .u8 0, .int .u8 0, .int .u8 0, .int .u8 0, .slice none 0 0], .slice none 0 0, .bool false]) (by simp [results, Try.results13, go_sem]) rfl ⟨rfl, ?_⟩
    repeat' (first | (with_reducible exact Below.refl _ _) | (with_reducible refine below_drewN ?_ _) | (with_reducible refine Below.setCell ?_ ?_ _) | (with_reducible refine Below.alloc ?_ ?_ _) | (simp; done) | (simp; omega))
end Go.Proofs.Ytmhdckpmkgkglaa
