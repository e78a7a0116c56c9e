/- The line: each op, whatever its kind. -/
import Derived.Test.YtmhdckpmkgkglaaNe
import Derived.Test.YtmhdckpmkgkglaaNn
import Derived.Test.YtmhdckpmkgkglaaNl
import Derived.Test.YtmhdckpmkgkglaaNh
import Derived.Test.YtmhdckpmkgkglaaNg
set_option linter.unusedVariables false
set_option linter.unusedSimpArgs false
namespace Go.Proofs.Ytmhdckpmkgkglaa
open Go.RowKit

theorem line_does (w : World) (B x gm gs : Nat) (L : LS) (k : Int) (h : LineAt w B x gm gs L) (hf : Fine L) (hs : L.sent ≤ 100000) (ho : L.offered ≤ 100000) :
    Calls Try.prog 22 #[.pointer (some ⟨x, 0, none⟩), .agg #[.int .i64 k]] w (DoesEnd w B x gm gs true (L.doesF k).2) := by
  obtain ⟨A, T, hi⟩ := hf
  unfold LS.doesF
  by_cases k0 : k = 0
  · subst k0
    exact does_0 w B x gm gs L h hs
  rw [if_neg k0]
  by_cases k1 : k = 1
  · subst k1
    exact does_1 w B x gm gs L h ho
  rw [if_neg k1]
  by_cases k2 : k = 2 ∨ k = 3
  · rw [if_pos k2]
    exact does_2 w B x gm gs L k k2 h hi.d20
  rw [if_neg k2]
  by_cases k4 : k = 4 ∨ k = 5 ∨ k = 6
  · rw [if_pos k4]
    obtain ⟨vd, vu, ds, us, hl⟩ := h
    have hdl := hl.dlen
    have hul := hl.ulen
    have h1 := hi.d20
    have h2 := hi.u20
    cases ds with
    | nil =>
      have e : (L.takeF).2 = L := by unfold LS.takeF; rw [← hl.de]; rfl
      rw [e]
      exact tk_no w B x gm gs vd vu us L k k4 hl
    | cons p ps =>
      obtain ⟨f, u⟩ := p
      simp only [List.length_cons] at hdl
      by_cases hu : 20 ≤ us.length
      · have e : (L.takeF).2 = L := by
          unfold LS.takeF
          rw [← hl.de]
          show (if 20 ≤ L.up.length then ((true, L) : Bool × LS) else _).2 = L
          rw [if_pos (by omega)]
        rw [e]
        exact tk_full w B x gm gs vd vu (f, u) ps us L k k4 hl hu (by omega) (by omega)
      · exact take_yes w B x gm gs vd vu f u ps us L A T k k4 hl hi hs (by omega)
  rw [if_neg k4]
  by_cases k7 : k = 7 ∨ k = 8 ∨ k = 9
  · rw [if_pos k7]
    obtain ⟨vd, vu, ds, us, hl⟩ := h
    cases us with
    | nil =>
      have e : (L.heardF).2 = L := by unfold LS.heardF; rw [← hl.ue]; rfl
      rw [e]
      exact heard_no w B x gm gs vd vu ds L k k7 hl
    | cons p ps =>
      obtain ⟨f, u⟩ := p
      exact heard_yes w B x gm gs vd vu f u ds ps L A T k k7 hl hi ho
  rw [if_neg k7]
  by_cases k10 : k = 10
  · subst k10
    exact does_10 w B x gm gs L h
  rw [if_neg k10]
  by_cases k11 : k = 11
  · subst k11
    exact does_11 w B x gm gs L h
  rw [if_neg k11]
  by_cases k12 : k = 12
  · subst k12
    exact does_12 w B x gm gs L h
  rw [if_neg k12]
  by_cases k13 : k = 13
  · subst k13
    exact does_13 w B x gm gs L h
  rw [if_neg k13]
  exact does_other w B x gm gs L k (by omega) h
theorem take_same {L : LS} (h : Fine L) : (L.takeF).2.sent = L.sent ∧ (L.takeF).2.offered = L.offered := by
  obtain ⟨A, T, hi⟩ := h
  cases hd : L.down with
  | nil => unfold LS.takeF; rw [hd]; exact ⟨rfl, rfl⟩
  | cons f ds =>
    by_cases hu : 20 ≤ L.up.length
    · unfold LS.takeF; rw [hd]; simp only []; rw [if_pos hu]; exact ⟨rfl, rfl⟩
    · obtain ⟨T', c', S', b, hF, hb, hj⟩ := hi.takes hd
      rw [takeF_is hd (by omega) hF hb]
      exact ⟨rfl, rfl⟩
theorem heard_same {L : LS} (h : Fine L) : (L.heardF).2.sent = L.sent ∧ (L.heardF).2.offered = L.offered := by
  obtain ⟨A, T, hi⟩ := h
  cases hu : L.up with
  | nil => unfold LS.heardF; rw [hu]; exact ⟨rfl, rfl⟩
  | cons f us =>
    obtain ⟨A', h', M', b, hF, hb, hj⟩ := hi.hears hu
    rw [heardF_is hu hF hb]
    exact ⟨rfl, rfl⟩
theorem doesF_2 (L : LS) : (L.doesF 2).2 = L.nextF := by unfold LS.doesF; rw [if_neg (by decide), if_neg (by decide), if_pos (by decide)]
theorem doesF_4 (L : LS) : (L.doesF 4).2 = (L.takeF).2 := by unfold LS.doesF; rw [if_neg (by decide), if_neg (by decide), if_neg (by decide), if_pos (by decide)]
theorem doesF_7 (L : LS) : (L.doesF 7).2 = (L.heardF).2 := by unfold LS.doesF; rw [if_neg (by decide), if_neg (by decide), if_neg (by decide), if_neg (by decide), if_pos (by decide)]
/-- How far the counts go. -/
theorem doesF_counts {L : LS} (h : Fine L) (k : Int) : (L.doesF k).2.sent ≤ L.sent + 1 ∧ (L.doesF k).2.offered ≤ L.offered + 1 := by
  obtain ⟨A, T, hi⟩ := h
  unfold LS.doesF
  split
  · refine ⟨?_, Nat.le_succ _⟩
    unfold LS.sendF
    dsimp only
    split
    · exact Nat.le_refl _
    · exact Nat.le_succ _
  split
  · refine ⟨Nat.le_succ _, ?_⟩
    unfold LS.offerF
    dsimp only
    split
    · exact Nat.le_refl _
    · exact Nat.le_succ _
  split
  · have := nextF_same L
    simp only []
    omega
  split
  · have e : (L.takeF).2.sent = L.sent ∧ (L.takeF).2.offered = L.offered := by
      cases hd : L.down with
      | nil => unfold LS.takeF; rw [hd]; exact ⟨rfl, rfl⟩
      | cons f ds =>
        by_cases hu : 20 ≤ L.up.length
        · unfold LS.takeF; rw [hd]; simp only []; rw [if_pos hu]; exact ⟨rfl, rfl⟩
        · obtain ⟨T', c', S', b, hF, hb, hj⟩ := hi.takes hd
          rw [takeF_is hd (by omega) hF hb]
          exact ⟨rfl, rfl⟩
    omega
  split
  · have e : (L.heardF).2.sent = L.sent ∧ (L.heardF).2.offered = L.offered := by
      cases hu : L.up with
      | nil => unfold LS.heardF; rw [hu]; exact ⟨rfl, rfl⟩
      | cons f us =>
        obtain ⟨A', h', M', b, hF, hb, hj⟩ := hi.hears hu
        rw [heardF_is hu hF hb]
        exact ⟨rfl, rfl⟩
    omega
  repeat' split
  all_goals exact ⟨Nat.le_succ _, Nat.le_succ _⟩
/-- The line when its session was opened. -/
def LS.start : LS := { M := ⟨0, 0, 3, 1, 100000, 1, 1, 0, []⟩, S := ⟨3, 1, 0, 0, []⟩, down := [], up := [], sent := 0, came := 0, offered := 0, heard := 0 }
theorem start_fine : Fine LS.start := by
  refine ⟨0, 0, rfl, rfl, rfl, rfl, by simp [LS.start], rfl, rfl, rfl, rfl, rfl, rfl, rfl, ?_, Nat.le_refl _, by simp [LS.start], Nat.le_refl _, Nat.le_refl _, by simp [LS.start], .inl ⟨rfl, rfl, rfl⟩, ⟨by simp [LS.start], by simp [LS.start]⟩, ⟨by simp [LS.start], by simp [LS.start]⟩, by simp [LS.start], by simp [LS.start]⟩
  intro i b h
  simp [LS.start] at h
/-- The line in a law's loop. -/
structure LineL (w wr : World) (B x gm gs : Nat) (L : LS) (k : Nat) : Prop where
  be : Below w.heap.size w wr
  at_ : LineAt wr B x gm gs L
  fine : Fine L
  sent : L.sent ≤ k
  offered : L.offered ≤ k
theorem LineL.does {w wr w2 : World} {B x gm gs k : Nat} {L : LS} {op : Int} {e : Ending} (h : LineL w wr B x gm gs L k) (hB : w.heap.size ≤ B) (hd : DoesEnd wr B x gm gs true (L.doesF op).2 e w2) : e = .returned (.bool true) ∧ LineL w w2 B x gm gs (L.doesF op).2 (k + 1) := by
  obtain ⟨h1, h2, h3⟩ := hd
  have h4 := doesF_counts h.fine op
  have h5 := h.sent
  have h6 := h.offered
  exact ⟨h1, stepK h.be h.be.size (Below.refl _ _) h2 hB, h3, (h.fine.does op).2, by omega, by omega⟩
theorem LineL.below {w wr w2 : World} {B x gm gs k : Nat} {L : LS} (h : LineL w wr B x gm gs L k) (hb : Below wr.heap.size wr w2) : LineL w w2 B x gm gs L k := by
  obtain ⟨vd, vu, ds, us, hl⟩ := h.at_
  exact ⟨h.be.trans (hb.mono h.be.size), ⟨_, _, _, _, hl.below hb⟩, h.fine, h.sent, h.offered⟩
theorem LineL.up {w wr : World} {B x gm gs k j : Nat} {L : LS} (h : LineL w wr B x gm gs L k) (hj : k ≤ j) : LineL w wr B x gm gs L j := ⟨h.be, h.at_, h.fine, Nat.le_trans h.sent hj, Nat.le_trans h.offered hj⟩

end Go.Proofs.Ytmhdckpmkgkglaa
