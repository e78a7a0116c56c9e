/- Plain laws of PollAgain. -/
import Derived.Test.YtmkbleeideddkaaPj
set_option linter.unusedVariables false
set_option linter.unusedSimpArgs false
namespace Go.Proofs.Ytmkbleeideddkaa
open Go.RowKit

theorem modify_self {l : List PP} {i : Nat} {p : PP} (f : PP → PP) (h : l[i]? = some p) : (l.modify i f)[i]? = some (f p) := by
  rw [List.getElem?_modify]
  simp [h]
theorem modify_twice (l : List PP) (i : Nat) (f g : PP → PP) : (l.modify i f).modify i g = l.modify i fun p => g (f p) := by
  apply List.ext_getElem?
  intro j
  by_cases h : i = j
  · subst h
    simp only [List.getElem?_modify]
    cases l[i]? <;> simp
  · rw [modify_ne _ _ _ _ h, modify_ne _ _ _ _ h, modify_ne _ _ _ _ h]
theorem modify_since {L : List PP} {i0 : Nat} {p0 : PP} (hfr : ∀ p ∈ L, p.dead = false) (hp : L[i0]? = some p0) (s : Int) {j : Nat} {q : PP} (hq : (L.modify i0 (deadP s))[j]? = some q) : (j = i0 ∧ q = deadP s p0) ∨ (j ≠ i0 ∧ L[j]? = some q ∧ q.dead = false) := by
  by_cases h : j = i0
  · subst h
    rw [modify_self _ hp] at hq
    cases hq
    exact .inl ⟨rfl, rfl⟩
  · rw [modify_ne _ _ _ _ (fun e => h e.symm)] at hq
    exact .inr ⟨h, hq, hfr q (List.mem_of_getElem? hq)⟩
theorem addrAt_of {l : List PP} {i : Nat} {p : PP} (h : l[i]? = some p) : addrAt l i = p.addr := by unfold addrAt; rw [h]; rfl
theorem again_due {L : List PP} {i0 t : Nat} {p0 : PP} (hfr : ∀ p ∈ L, p.dead = false) (hp : L[i0]? = some p0) {s now : Int} (h : 20 ≤ now - s) :
    PS.next ⟨L.modify i0 (deadP s), t⟩ now = (p0.addr, true, ⟨L.modify i0 (deadP now), t⟩) := by
  have hlt := (List.getElem?_eq_some_iff.1 hp).1
  have hd : dueB (deadP s p0) now = true := by
    unfold dueB deadP
    simp
    omega
  have hb : bestF (L.modify i0 (deadP s)) now (L.modify i0 (deadP s)).length = some i0 := by
    refine (bestF_is (modify_self _ hp) hd (fun j q hq hdq => ?_) _).2 (by simpa using hlt)
    rcases modify_since hfr hp s hq with ⟨rfl, rfl⟩ | ⟨h1, h2, h3⟩
    · exact ⟨fun hh => by omega, Int.le_refl _⟩
    · unfold dueB at hdq
      rw [h3] at hdq
      simp at hdq
  unfold PS.next
  rw [hb]
  simp only [modify_twice]
  rw [addrAt_of (modify_self _ hp)]
  rfl
theorem again_not {L : List PP} {i0 t : Nat} {p0 : PP} (hfr : ∀ p ∈ L, p.dead = false) (hn : (L.map PP.addr).Nodup) (hp : L[i0]? = some p0) {s now : Int} (h : now - s < 20) (ht : t ≤ L.length) :
    ∃ (a : Int) (ok : Bool) (t' : Nat), PS.next ⟨L.modify i0 (deadP s), t⟩ now = (a, ok, ⟨L.modify i0 (deadP s), t'⟩) ∧ t' ≤ L.length ∧ (ok = true → a ≠ p0.addr) ∧ (ok = true ↔ 1 < L.length) := by
  have hlt := (List.getElem?_eq_some_iff.1 hp).1
  have hdue : ∀ p ∈ L.modify i0 (deadP s), dueB p now = false := by
    intro q hq
    obtain ⟨j, hj, rfl⟩ := List.getElem_of_mem hq
    rcases modify_since hfr hp s (List.getElem?_eq_getElem hj) with ⟨h1, h2⟩ | ⟨h1, h2, h3⟩
    · rw [h2]
      unfold dueB deadP
      simp
      omega
    · unfold dueB
      rw [h3]
      rfl
  have hex : ownF (L.modify i0 (deadP s)) ≠ [] → 1 < L.length := by
    intro hne
    apply Decidable.byContradiction
    intro hc
    apply hne
    refine own_nil fun x q hq => ?_
    have hx := (List.getElem?_eq_some_iff.1 hq).1
    simp at hx
    rcases modify_since hfr hp s hq with ⟨h1, h2⟩ | ⟨h1, h2, h3⟩
    · rw [h2]
      rfl
    · omega
  have hne : 1 < L.length → ownF (L.modify i0 (deadP s)) ≠ [] := by
    intro h1 h0
    obtain ⟨j, hj, hji⟩ : ∃ j, j < L.length ∧ i0 ≠ j := by
      by_cases h : i0 = 0
      · exact ⟨1, h1, by omega⟩
      · exact ⟨0, by omega, h⟩
    have h2 : (L.modify i0 (deadP s))[j]? = some L[j] := by rw [modify_ne _ _ _ _ hji]; exact List.getElem?_eq_getElem hj
    have h3 := own_get h2 (hfr _ (List.getElem_mem _))
    rw [h0] at h3
    simp at h3
  rcases next_alive ⟨L.modify i0 (deadP s), t⟩ now hdue (by simpa using ht) with ⟨h1, h2⟩ | ⟨a, t', h1, h2, h3, h4, h5⟩
  · exact ⟨0, false, t, h2, ht, fun h => (by cases h), ⟨fun h => (by cases h), fun h => absurd h1 (hne h)⟩⟩
  · refine ⟨a, true, t', h3, by simpa using h4, fun _ => ?_, ⟨fun _ => hex h1, fun _ => rfl⟩⟩
    have hm := List.mem_of_getElem? h2
    unfold ownF at hm
    obtain ⟨q, hq, rfl⟩ := List.mem_map.1 hm
    obtain ⟨hq1, hq2⟩ := List.mem_filter.1 hq
    obtain ⟨j, hj, rfl⟩ := List.getElem_of_mem hq1
    rcases modify_since hfr hp s (List.getElem?_eq_getElem hj) with ⟨h1, h2⟩ | ⟨h1, h2, h3⟩
    · rw [h2] at hq2
      simp [aliveB, deadP] at hq2
    · intro he
      exact h1 (nodup_inj' hn (i := j) (j := i0) (a := p0.addr) (by simp only [List.getElem?_map, h2, Option.map_some, he]) (by simp [hp]))
def sinceK (T k : Nat) : Nat := T + 20 * ((k - 1) / 20)
def backP (p : PP) : PP := { p with dead := false }
theorem back_fresh {L : List PP} {i0 : Nat} (hfr : ∀ p ∈ L, p.dead = false) (s : Int) : ∀ p ∈ (L.modify i0 (deadP s)).modify i0 backP, p.dead = false := by
  intro q hq
  obtain ⟨j, hj, rfl⟩ := List.getElem_of_mem hq
  rw [List.getElem_modify]
  split
  · rfl
  · rename_i h
    rw [List.getElem_modify, if_neg h]
    exact hfr _ (List.getElem_mem _)
theorem back_addr (L : List PP) (i0 : Nat) (s : Int) : ((L.modify i0 (deadP s)).modify i0 backP).map PP.addr = L.map PP.addr := by
  rw [modify_addr _ _ backP fun p => rfl, modify_addr _ _ (deadP s) fun p => rfl]
def seenF (c n i0 : Nat) : Nat → Bool
  | 0 => false
  | k + 1 => seenF c n i0 k || decide ((c + k) % n = i0)
theorem seenF_mono {c n i0 : Nat} : ∀ k j, j < k → (c + j) % n = i0 → seenF c n i0 k = true := by
  intro k
  induction k with
  | zero => intro j h; omega
  | succ k ih =>
    intro j h e
    simp only [seenF, Bool.or_eq_true]
    by_cases hj : j = k
    · subst hj
      exact .inr (by simpa using e)
    · exact .inl (ih j (by omega) e)
theorem seenF_all {c n i0 : Nat} (hc : c ≤ n) (hi : i0 < n) : seenF c n i0 n = true := by
  obtain ⟨j, hj, e⟩ := all_mod hc hi
  exact seenF_mono n j hj e
end Go.Proofs.Ytmkbleeideddkaa
