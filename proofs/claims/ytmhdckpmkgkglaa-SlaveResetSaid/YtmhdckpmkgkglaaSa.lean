/- Contracts of the small functions of package slave. -/
import Derived.Test.YtmhdckpmkgkglaaProg
import Derived.Test.YtmhdckpmkgkglaaBase
import Derived.WalkKit
import Derived.Deep.QuietTactic
import Derived.BigQuiet
import Derived.StillTailTactics
import Derived.KernelRfl
import Derived.Lib.Hide
import Derived.WalkSpells
import Derived.Handy
import Derived.Deep.RegionHeld3
set_option linter.unusedVariables false
set_option linter.unusedSimpArgs false
namespace Go.Proofs.Ytmhdckpmkgkglaa
open Go.RowKit

theorem session_any (w : World) (n t x : Int) :
    Calls Try.prog 16 #[.agg #[.int .u8 n, .int .u8 t, .int .u8 x]] w fun e w' => e = .returned (.int .u8 n) ∧ Below w.heap.size w w' := by
  go_enter Try.func16, Try.ntmps16
  go_wp2
  go_returns
  exact ⟨rfl, by go_grown⟩

theorem pending_any (w : World) (g : Nat) (A : Option Addr) (n c : Nat) (h : w.cell? ⟨g, 4, none⟩ = some (.slice A n c)) :
    Calls Try.prog 14 #[.pointer (some ⟨g, 0, none⟩)] w fun e w' => e = .returned (.bool (decide (0 < n))) ∧ w = w' := by
  go_enter Try.func14, Try.ntmps14
  go_wp2
  go_returns
  exact ⟨rfl, rfl⟩

theorem pending_yes (w : World) (g : Nat) (A : Option Addr) (n c : Nat) (h : w.cell? ⟨g, 4, none⟩ = some (.slice A n c)) (hn : 0 < n) :
    Calls Try.prog 14 #[.pointer (some ⟨g, 0, none⟩)] w fun e w' => e = .returned (.bool true) ∧ w = w' :=
  (pending_any w g A n c h).mono fun e w' ⟨he, hw⟩ => ⟨by rw [he]; simp [hn], hw⟩
theorem pending_no (w : World) (g : Nat) (A : Option Addr) (n c : Nat) (h : w.cell? ⟨g, 4, none⟩ = some (.slice A n c)) (hn : n = 0) :
    Calls Try.prog 14 #[.pointer (some ⟨g, 0, none⟩)] w fun e w' => e = .returned (.bool false) ∧ w = w' :=
  (pending_any w g A n c h).mono fun e w' ⟨he, hw⟩ => ⟨by rw [he]; simp [hn], hw⟩

theorem new_any (w : World) (a : Int) :
    Calls Try.prog 11 #[.int .u8 a] w fun e w' => e = .returned (.pointer (some ⟨w.heap.size, 0, none⟩)) ∧
      w' = w.alloc (.cells #[.int .u8 0, .int .u8 0, .int .u8 0, .int .u8 a, .slice none 0 0] 43) := by
  go_enter Try.func11, Try.ntmps11
  go_wp2
  go_returns
  exact ⟨rfl, rfl⟩

theorem is_any (w : World) (n t x fa fk fs fq fc : Int) (A : Option Addr) (m c : Nat) :
    Calls Try.prog 30 #[.agg #[.int .u8 n, .int .u8 t, .int .u8 x], .agg #[.int .u8 fa, .int .u8 fk, .int .u8 fs, .int .u8 fq, .int .u8 fc, .slice A m c]] w fun e w' =>
      e = .returned (.bool (decide (n ≠ 0 ∧ fs = n))) ∧ Below w.heap.size w w' := by
  by_cases h : n = 0
  · subst h
    go_enter Try.func30, Try.ntmps30
    go_wp2
    go_returns
    exact ⟨by simp, by go_grown⟩
  · have h1 : (n != 0) = true := by simp [h]
    by_cases h2 : fs = n
    · subst h2
      go_enter Try.func30, Try.ntmps30
      go_wp2
      go_returns
      exact ⟨by simp [h], by go_grown⟩
    · have h3 : (fs == n) = false := by simp [h2]
      go_enter Try.func30, Try.ntmps30
      go_wp2
      go_returns
      exact ⟨by simp [h2], by go_grown⟩

theorem is_yes (w : World) (n t x fa fk fs fq fc : Int) (A : Option Addr) (m c : Nat) (hn : n ≠ 0) (hs : fs = n) :
    Calls Try.prog 30 #[.agg #[.int .u8 n, .int .u8 t, .int .u8 x], .agg #[.int .u8 fa, .int .u8 fk, .int .u8 fs, .int .u8 fq, .int .u8 fc, .slice A m c]] w fun e w' =>
      e = .returned (.bool true) ∧ Below w.heap.size w w' :=
  (is_any w n t x fa fk fs fq fc A m c).mono fun e w' ⟨he, hw⟩ => ⟨by rw [he]; simp [hn, hs], hw⟩
theorem is_no (w : World) (n t x fa fk fs fq fc : Int) (A : Option Addr) (m c : Nat) (hn : n = 0 ∨ fs ≠ n) :
    Calls Try.prog 30 #[.agg #[.int .u8 n, .int .u8 t, .int .u8 x], .agg #[.int .u8 fa, .int .u8 fk, .int .u8 fs, .int .u8 fq, .int .u8 fc, .slice A m c]] w fun e w' =>
      e = .returned (.bool false) ∧ Below w.heap.size w w' :=
  (is_any w n t x fa fk fs fq fc A m c).mono fun e w' ⟨he, hw⟩ => ⟨by rw [he]; rcases hn with h | h <;> simp [h], hw⟩

theorem heard_any (w : World) (g : Nat) (a n t x : Int) (v : Value) (ht : t = 0 ∨ t = 1) (h : w.heap[g]? = some (.cells #[.int .u8 n, .int .u8 t, .int .u8 x, .int .u8 a, v] 43 (0, 0))) :
    Calls Try.prog 31 #[.pointer (some ⟨g, 0, none⟩)] w fun e w' => e = .returned (.tuple #[]) ∧ 
      w.grownBy w' (some g) ∧ w'.heap[g]? = some (.cells #[.int .u8 n, .int .u8 (1 - t), .int .u8 x, .int .u8 a, .slice none 0 0] 43 (0, 0)) := by
  obtain ⟨h0, h1, h2, h3, h4⟩ := blk5 h
  obtain ⟨f0, f1, f2, f3, f4⟩ := frz5 h
  have H := Lib.hid h
  clear h
  rcases ht with rfl | rfl
  all_goals
    go_enter Try.func31, Try.ntmps31
    go_wp2
    go_end0
    refine ⟨rfl, grown_set (grown_set (grown_refl _ _) _ _) _ _, ?_⟩
    rw [blk_set (blk_set H.out _ _)]
    rfl

theorem reset_any (w : World) (g : Nat) (a n t x : Int) (v : Value) (h : w.heap[g]? = some (.cells #[.int .u8 n, .int .u8 t, .int .u8 x, .int .u8 a, v] 43 (0, 0))) :
    Calls Try.prog 20 #[.pointer (some ⟨g, 0, none⟩)] w fun e w' => e = .returned (.tuple #[]) ∧ 
      w.grownBy w' (some g) ∧ w'.heap[g]? = some (.cells #[.int .u8 0, .int .u8 0, .int .u8 0, .int .u8 a, .slice none 0 0] 43 (0, 0)) := by
  obtain ⟨h0, h1, h2, h3, h4⟩ := blk5 h
  obtain ⟨f0, f1, f2, f3, f4⟩ := frz5 h
  have H := Lib.hid h
  clear h
  go_enter Try.func20, Try.ntmps20
  go_wp2
  go_end0
  refine ⟨rfl, ?_, ?_⟩
  · exact grown_set (grown_set (grown_set (grown_set (grown_set (grown_refl _ _) _ _) _ _) _ _) _ _) _ _
  · rw [blk_set (blk_set (blk_set (blk_set (blk_set H.out _ _) _ _) _ _) _ _)]
    rfl

theorem answer_any (w : World) (g : Nat) (a n t x k : Int) (v : Value) (h : w.heap[g]? = some (.cells #[.int .u8 n, .int .u8 t, .int .u8 x, .int .u8 a, v] 43 (0, 0))) :
    Calls Try.prog 29 #[.pointer (some ⟨g, 0, none⟩), .int .u8 k] w fun e w' => e = .returned (.agg #[.int .u8 a, .int .u8 k, .int .u8 n, .int .u8 0, .int .u8 0, .slice none 0 0]) ∧ 
      Below w.heap.size w w' ∧ w'.heap[g]? = some (.cells #[.int .u8 n, .int .u8 t, .int .u8 x, .int .u8 a, v] 43 (0, 0)) := by
  obtain ⟨h0, h1, h2, h3, h4⟩ := blk5 h
  have hne := World.new_ne w ⟨g, 0, none⟩ h0
  simp only [] at hne
  have H := Lib.hid h
  clear h h1 h2 h4
  go_enter Try.func29, Try.ntmps29
  go_wp2
  go_region_held3 (fun w' => w'.cell? ⟨g, 0, none⟩ = some (.int .u8 n) ∧ w'.cell? ⟨g, 3, none⟩ = some (.int .u8 a)) (go_keep) (fail)
  go_wp2
  refine bodyPost_ret (v := .agg #[.int .u8 a, .int .u8 k, .int .u8 n, .int .u8 0, .int .u8 0, .slice none 0 0]) (by simp [results, Try.results29, go_sem]) rfl ⟨rfl, ?_⟩
  refine (fun hb => ⟨hb, blk_below' H.out hb⟩) ?_
  go_grown
end Go.Proofs.Ytmhdckpmkgkglaa
