/- The contracts of the reference lamplightref08: New, Offer; lamplightref07.Of. -/
import Derived.Test.YtmhdckpmkgkglaaLw
import Derived.Deep.RegionHeld3
set_option linter.unusedVariables false
set_option linter.unusedSimpArgs false
namespace Go.Proofs.Ytmhdckpmkgkglaa
open Go.RowKit

/-- The reference's slave S lies at block g of w. -/
def RefAt (w : World) (g : Nat) (S : SS) : Prop := w.heap[g]? = some (.cells #[.int .u8 S.addr, .int .u8 S.num, .int .u8 S.tells, .int .u8 S.next, .string ⟨S.pend.toArray⟩] 51 (0, 0))

theorem ref_new (w : World) (a : Int) :
    Calls Try.prog 15 #[.int .u8 a] w fun e w' => e = .returned (.pointer (some ⟨w.heap.size, 0, none⟩)) ∧ Below w.heap.size w w' ∧ RefAt w' w.heap.size (SS.new a) := by
  go_enter Try.func15, Try.ntmps15
  go_wp2
  go_ret
  exact ⟨rfl, (Below.refl _ _).alloc (Nat.le_refl _) _, blk_new _ _⟩

set_option maxHeartbeats 2000000 in
theorem ref_offer (w : World) (g : Nat) (S S' : SS) (b : List UInt8) (n : Int) (h : RefAt w g S) (hF : offerF S b = (n, S')) :
    Calls Try.prog 17 #[.pointer (some ⟨g, 0, none⟩), .string ⟨b.toArray⟩] w fun e w' => e = .returned (.int .i64 n) ∧ w.grownBy w' (some g) ∧ RefAt w' g S' := by
  obtain ⟨h0, h1, h2, h3, h4⟩ := blk5 h
  obtain ⟨f0, f1, f2, f3, f4⟩ := frz5 h
  have H := Lib.hid h
  clear h
  unfold offerF at hF
  split at hF
  · rename_i hl
    cases hF
    rcases hl with hl | hl
    · obtain rfl := List.eq_nil_of_length_eq_zero hl
      go_enter Try.func17, Try.ntmps17
      go_wp2
      go_ret
      exact ⟨rfl, grown_refl _ _, H.out⟩
    · have e1 : b.isEmpty = false := by cases b with | nil => simp at hl | cons _ _ => rfl
      have e2 : decide ((24 : Int) < (b.length : Int)) = true := by simp; omega
      go_enter Try.func17, Try.ntmps17
      go_wp2
      go_ret
      exact ⟨rfl, grown_refl _ _, H.out⟩
  · rename_i hl
    have e1 : b.isEmpty = false := by cases b with | nil => simp at hl | cons _ _ => rfl
    have e2 : decide ((24 : Int) < (b.length : Int)) = false := by simp; omega
    split at hF
    · rename_i hp
      cases hF
      have e3 : S.pend.isEmpty = false := by cases hS : S.pend with | nil => simp [hS] at hp | cons _ _ => rfl
      go_enter Try.func17, Try.ntmps17
      go_wp2
      go_ret
      exact ⟨rfl, grown_refl _ _, H.out⟩
    · rename_i hp
      cases hF
      have e3 : S.pend.isEmpty = true := by cases hS : S.pend with | nil => rfl | cons _ _ => simp [hS] at hp
      go_enter Try.func17, Try.ntmps17
      go_wp2
      go_ret
      exact ⟨rfl, grown_set (grown_refl _ _) _ _, blk_set H.out _ _⟩

theorem res19 (tmps : Array Value) (W : World) (b : Nat) (c0 c1 c2 c3 c4 c5 : Value) (h2 : tmps.getD 2 undef = .pointer (some ⟨b, 0, none⟩))
    (hb : W.heap[b]? = some (.cells #[c0, c1, c2, c3, c4, c5] 46 (0, 0))) :
    (results Try.f19 tmps).run Try.prog W = .ok (.agg #[c0, c1, c2, c3, c4, c5]) W := by
  obtain ⟨a0, a1, a2, a3, a4, a5⟩ := blk6 hb
  simp only [Array.getD_eq_getD_getElem?] at h2
  simp [results, Try.results19, go_sem, h2, a0, a1, a2, a3, a4, a5]

set_option maxHeartbeats 2000000 in
theorem of_any (w : World) (a k s q c : Int) (v : Value) (b : List UInt8) (h : ReadsB w v b) :
    Calls Try.prog 19 #[.agg #[.int .u8 a, .int .u8 k, .int .u8 s, .int .u8 q, .int .u8 c, v]] w fun e w' =>
      e = .returned (.agg #[.int .u8 a, .int .u8 k, .int .u8 s, .int .u8 q, .int .u8 c, .string ⟨b.toArray⟩]) ∧ Below w.heap.size w w' := by
  have kc : ∀ o o', (convert 22 9 v).run Try.prog ((w.alloc o).alloc o') = .ok (.string ⟨b.toArray⟩) ((w.alloc o).alloc o') := fun o o' => conv_bytes _ _ b (h.below (((Below.refl _ _).alloc (Nat.le_refl _) _).alloc (by simp) _))
  obtain ⟨A, c', rfl, _⟩ := h
  go_enter Try.func19, Try.ntmps19
  go_wp2
  exact bodyPost_ret (res19 _ _ (w.heap.size + 1) (.int .u8 a) (.int .u8 k) (.int .u8 s) (.int .u8 q) (.int .u8 c) (.string ⟨b.toArray⟩) rfl (blk_new' _ _ _ (by simp))) rfl ⟨rfl, ((Below.refl _ _).alloc (Nat.le_refl _) _).alloc (by simp) _⟩
end Go.Proofs.Ytmhdckpmkgkglaa
