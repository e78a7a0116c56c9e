/- The master's inner calls: sent, heard, opens, close. -/
import Derived.Test.YtmhdckpmkgkglaaMb
set_option linter.unusedVariables false
set_option linter.unusedSimpArgs false
namespace Go.Proofs.Ytmhdckpmkgkglaa
open Go.RowKit

theorem blk9 {w : World} {g t : Nat} {c0 c1 c2 c3 c4 c5 c6 c7 c8 : Value} {fr : Nat × Nat} (h : w.heap[g]? = some (.cells #[c0, c1, c2, c3, c4, c5, c6, c7, c8] t fr)) :
    w.cell? ⟨g, 0, none⟩ = some c0 ∧ w.cell? ⟨g, 1, none⟩ = some c1 ∧ w.cell? ⟨g, 2, none⟩ = some c2 ∧ w.cell? ⟨g, 3, none⟩ = some c3 ∧ w.cell? ⟨g, 4, none⟩ = some c4 ∧ w.cell? ⟨g, 5, none⟩ = some c5 ∧ w.cell? ⟨g, 6, none⟩ = some c6 ∧ w.cell? ⟨g, 7, none⟩ = some c7 ∧ w.cell? ⟨g, 8, none⟩ = some c8 :=
  ⟨blk_cell h 0, blk_cell h 1, blk_cell h 2, blk_cell h 3, blk_cell h 4, blk_cell h 5, blk_cell h 6, blk_cell h 7, blk_cell h 8⟩
theorem frz9 {w : World} {g t : Nat} {cs : Array Value} (h : w.heap[g]? = some (.cells cs t (0, 0))) :
    w.frozen? ⟨g, 0, none⟩ = false ∧ w.frozen? ⟨g, 1, none⟩ = false ∧ w.frozen? ⟨g, 2, none⟩ = false ∧ w.frozen? ⟨g, 3, none⟩ = false ∧ w.frozen? ⟨g, 4, none⟩ = false ∧ w.frozen? ⟨g, 5, none⟩ = false ∧ w.frozen? ⟨g, 6, none⟩ = false ∧ w.frozen? ⟨g, 7, none⟩ = false ∧ w.frozen? ⟨g, 8, none⟩ = false :=
  ⟨blk_frozen h 0, blk_frozen h 1, blk_frozen h 2, blk_frozen h 3, blk_frozen h 4, blk_frozen h 5, blk_frozen h 6, blk_frozen h 7, blk_frozen h 8⟩

set_option maxHeartbeats 1000000 in
theorem m_sent (w : World) (g : Nat) (s h a n t st ep ms : Int) (v : Value) (hs : s = 0 ∨ s = 1)
    (hg : w.heap[g]? = some (.cells #[.int .u8 s, .int .u8 h, .int .u8 a, .int .u8 n, .int .i64 t, .int .i64 st, .int .i64 ep, v, .int .i64 ms] 77 (0, 0))) :
    Calls Try.prog 37 #[.pointer (some ⟨g, 0, none⟩)] w fun e w' => e = .returned (.tuple #[]) ∧ w.grownBy w' (some g) ∧
      w'.heap[g]? = some (.cells #[.int .u8 (1 - s), .int .u8 h, .int .u8 a, .int .u8 n, .int .i64 t, .int .i64 st, .int .i64 ep, v, .int .i64 ms] 77 (0, 0)) := by
  obtain ⟨h0, h1, h2, h3, h4, h5, h6, h7, h8⟩ := blk9 hg
  obtain ⟨f0, f1, f2, f3, f4, f5, f6, f7, f8⟩ := frz9 hg
  have H := Lib.hid hg
  clear hg
  rcases hs with rfl | rfl
  all_goals
    go_enter Try.func37, Try.ntmps37
    go_wp2
    go_end0
    refine ⟨rfl, grown_set (grown_refl _ _) _ _, ?_⟩
    rw [blk_set H.out _ _]
    rfl

set_option maxHeartbeats 1000000 in
theorem m_heard (w : World) (g : Nat) (s h a n t st ep ms : Int) (v : Value) (hs : h = 0 ∨ h = 1)
    (hg : w.heap[g]? = some (.cells #[.int .u8 s, .int .u8 h, .int .u8 a, .int .u8 n, .int .i64 t, .int .i64 st, .int .i64 ep, v, .int .i64 ms] 77 (0, 0))) :
    Calls Try.prog 38 #[.pointer (some ⟨g, 0, none⟩)] w fun e w' => e = .returned (.tuple #[]) ∧ w.grownBy w' (some g) ∧
      w'.heap[g]? = some (.cells #[.int .u8 s, .int .u8 (1 - h), .int .u8 a, .int .u8 n, .int .i64 t, .int .i64 st, .int .i64 ep, v, .int .i64 ms] 77 (0, 0)) := by
  obtain ⟨h0, h1, h2, h3, h4, h5, h6, h7, h8⟩ := blk9 hg
  obtain ⟨f0, f1, f2, f3, f4, f5, f6, f7, f8⟩ := frz9 hg
  have H := Lib.hid hg
  clear hg
  rcases hs with rfl | rfl
  all_goals
    go_enter Try.func38, Try.ntmps38
    go_wp2
    go_end0
    refine ⟨rfl, grown_set (grown_refl _ _) _ _, ?_⟩
    rw [blk_set H.out _ _]
    rfl

set_option maxHeartbeats 2000000 in
theorem m_opens (w : World) (g : Nat) (s h a n t st ep ms : Int) (v : Value) (he0 : 0 ≤ ep) (he1 : ep ≤ 1000000000)
    (hg : w.heap[g]? = some (.cells #[.int .u8 s, .int .u8 h, .int .u8 a, .int .u8 n, .int .i64 t, .int .i64 st, .int .i64 ep, v, .int .i64 ms] 77 (0, 0))) :
    Calls Try.prog 34 #[.pointer (some ⟨g, 0, none⟩)] w fun e w' => e = .returned (.tuple #[]) ∧ w.grownBy w' (some g) ∧
      w'.heap[g]? = some (.cells #[.int .u8 0, .int .u8 0, .int .u8 a, .int .u8 n, .int .i64 t, .int .i64 1, .int .i64 (ep + 1), v, .int .i64 ms] 77 (0, 0)) := by
  obtain ⟨h0, h1, h2, h3, h4, h5, h6, h7, h8⟩ := blk9 hg
  obtain ⟨f0, f1, f2, f3, f4, f5, f6, f7, f8⟩ := frz9 hg
  have H := Lib.hid hg
  clear hg
  go_enter Try.func34, Try.ntmps34
  go_wp2
  go_end0
  refine ⟨rfl, ?_, ?_⟩
  · exact grown_set (grown_set (grown_set (grown_set (grown_refl _ _) _ _) _ _) _ _) _ _
  · rw [blk_set (blk_set (blk_set (blk_set H.out _ _) _ _) _ _) _ _]
    rfl

set_option maxHeartbeats 2000000 in
theorem m_close (w : World) (g : Nat) (s h a n t st ep ms x : Int) (v : Value) (hn0 : 1 ≤ n) (hn1 : n ≤ 255)
    (hg : w.heap[g]? = some (.cells #[.int .u8 s, .int .u8 h, .int .u8 a, .int .u8 n, .int .i64 t, .int .i64 st, .int .i64 ep, v, .int .i64 ms] 77 (0, 0))) :
    Calls Try.prog 35 #[.pointer (some ⟨g, 0, none⟩), .int .i64 x] w fun e w' => e = .returned (.tuple #[]) ∧ w.grownBy w' (some g) ∧
      w'.heap[g]? = some (.cells #[.int .u8 s, .int .u8 h, .int .u8 a, .int .u8 (n % 255 + 1), .int .i64 t, .int .i64 x, .int .i64 ep, .slice none 0 0, .int .i64 0] 77 (0, 0)) := by
  obtain ⟨h0, h1, h2, h3, h4, h5, h6, h7, h8⟩ := blk9 hg
  obtain ⟨f0, f1, f2, f3, f4, f5, f6, f7, f8⟩ := frz9 hg
  have H := Lib.hid hg
  clear hg
  go_enter Try.func35, Try.ntmps35
  go_wp2
  go_end0
  refine ⟨rfl, ?_, ?_⟩
  · exact grown_set (grown_set (grown_set (grown_set (grown_refl _ _) _ _) _ _) _ _) _ _
  · rw [blk_set (blk_set (blk_set (blk_set H.out _ _) _ _) _ _) _ _]
    rfl
end Go.Proofs.Ytmhdckpmkgkglaa
