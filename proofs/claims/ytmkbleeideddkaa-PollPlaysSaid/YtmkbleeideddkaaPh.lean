/- Plain laws of the poll. -/
import Derived.Test.YtmkbleeideddkaaPg
set_option linter.unusedVariables false
set_option linter.unusedSimpArgs false
namespace Go.Proofs.Ytmkbleeideddkaa
open Go.RowKit

/-- Addresses are addresses, and no two are one. -/
def Good (l : List PP) : Prop := (∀ p ∈ l, 1 ≤ p.addr ∧ p.addr ≤ 31) ∧ (l.map PP.addr).Nodup
theorem findF_none_iff {l : List PP} {a : Int} : findF l a = none ↔ a ∉ l.map PP.addr := by
  constructor
  · intro h hm
    obtain ⟨p, hp, rfl⟩ := List.mem_map.1 hm
    exact findF_none h p hp rfl
  · intro h
    exact findF_all fun j q _ hq e => h (List.mem_map.2 ⟨q, List.mem_of_getElem? hq, e⟩)
theorem addF_good {l : List PP} (h : Good l) (a : Int) : Good (addF l a) := by
  unfold addF
  split
  · rename_i hc
    obtain ⟨h1, h2, h3⟩ := hc
    refine ⟨fun p hp => ?_, ?_⟩
    · rcases List.mem_append.1 hp with hp | hp
      · exact h.1 p hp
      · simp at hp
        subst hp
        exact ⟨h1, h2⟩
    · rw [List.map_append, List.nodup_append]
      refine ⟨h.2, by simp, fun x hx y hy => ?_⟩
      simp at hy
      subst hy
      rintro rfl
      exact findF_none_iff.1 h3 hx
  · exact h
theorem fold_good (us : List Int) : ∀ l, Good l → Good (us.foldl addF l) := by
  induction us with
  | nil => exact fun l h => h
  | cons a r ih => exact fun l h => ih _ (addF_good h a)
theorem newF_good (us : List Int) : Good (newF us).row := fold_good us [] ⟨fun p hp => by simp at hp, by simp⟩
theorem fold_fresh (us : List Int) : ∀ l : List PP, (∀ p ∈ l, p.dead = false ∧ p.since = 0) → ∀ p ∈ us.foldl addF l, p.dead = false ∧ p.since = 0 := by
  induction us with
  | nil => exact fun l h => h
  | cons a r ih =>
    refine fun l h => ih _ fun p hp => ?_
    unfold addF at hp
    split at hp
    · rcases List.mem_append.1 hp with hp | hp
      · exact h p hp
      · simp at hp
        subst hp
        exact ⟨rfl, rfl⟩
    · exact h p hp
theorem newF_fresh (us : List Int) : ∀ p ∈ (newF us).row, p.dead = false ∧ p.since = 0 := fold_fresh us [] (by simp)

theorem bestF_none {l : List PP} {now : Int} (h : ∀ p ∈ l, dueB p now = false) : ∀ k, bestF l now k = none := by
  intro k
  induction k with
  | zero => rfl
  | succ k ih =>
    simp only [bestF, ih]
    split
    · rfl
    · rename_i p hp
      rw [h p (List.mem_of_getElem? hp)]
      simp
theorem sinceAt_of {l : List PP} {b : Nat} {q : PP} (h : l[b]? = some q) : sinceAt l b = q.since := by unfold sinceAt; rw [h]; rfl
theorem bestF_is {l : List PP} {now : Int} {i : Nat} {p : PP} (hp : l[i]? = some p) (hd : dueB p now = true)
    (hmin : ∀ j q, l[j]? = some q → dueB q now = true → (j < i → p.since < q.since) ∧ p.since ≤ q.since) :
    ∀ k, (k ≤ i → ∀ b, bestF l now k = some b → ∃ q, l[b]? = some q ∧ p.since < q.since) ∧ (i < k → bestF l now k = some i) := by
  intro k
  induction k with
  | zero => exact ⟨fun _ b hb => (by simp [bestF] at hb), fun h => by omega⟩
  | succ k ih =>
    constructor
    · intro hk b hb
      simp only [bestF] at hb
      split at hb
      · exact ih.1 (by omega) b hb
      · rename_i q hq
        split at hb
        · rename_i hc
          cases hb
          simp only [Bool.and_eq_true] at hc
          exact ⟨q, hq, (hmin k q hq hc.1).1 (by omega)⟩
        · exact ih.1 (by omega) b hb
    · intro hk
      simp only [bestF]
      by_cases hki : k = i
      · subst hki
        rw [hp]
        simp only [hd, Bool.true_and]
        have hbt : betterB l p (bestF l now k) = true := by
          cases hb : bestF l now k with
          | none => rfl
          | some b =>
            obtain ⟨q, hq, hlt⟩ := ih.1 (Nat.le_refl _) b hb
            simp only [betterB, sinceAt_of hq]
            simpa using hlt
        rw [hbt]
        rfl
      · have hr := ih.2 (by omega)
        rw [hr]
        split
        · rfl
        · rename_i q hq
          have hbf : (dueB q now && betterB l q (some i)) = false := by
            simp only [betterB, sinceAt_of hp]
            cases hdq : dueB q now with
            | false => rfl
            | true =>
              have := (hmin k q hq hdq).2
              simp
              omega
          rw [hbf]
          rfl

def aliveB (p : PP) : Bool := !p.dead
/-- The addresses of those that are alive. -/
def ownF (l : List PP) : List Int := (l.filter aliveB).map PP.addr
/-- How many are alive ahead of a place. -/
def cnt (l : List PP) (t : Nat) : Nat := ((l.take t).filter aliveB).length
theorem cnt_all (l : List PP) : cnt l l.length = (ownF l).length := by unfold cnt ownF; rw [List.take_length, List.length_map]
theorem cnt_succ {l : List PP} {t : Nat} {p : PP} (h : l[t]? = some p) : cnt l (t + 1) = cnt l t + if p.dead then 0 else 1 := by
  obtain ⟨h1, h2⟩ := List.getElem?_eq_some_iff.1 h
  unfold cnt
  rw [List.take_succ_eq_append_getElem h1, List.filter_append, List.length_append, h2]
  cases hd : p.dead <;> simp [aliveB, hd]
theorem cnt_const {l : List PP} {a : Nat} : ∀ b, a ≤ b → b ≤ l.length → (∀ x p, a ≤ x → x < b → l[x]? = some p → p.dead = true) → cnt l b = cnt l a := by
  intro b
  induction b with
  | zero => intro h _ _; have : a = 0 := by omega
            rw [this]
  | succ b ih =>
    intro h1 h2 h3
    by_cases hab : a = b + 1
    · rw [hab]
    · have hb : l[b]? = some l[b] := List.getElem?_eq_getElem (by omega)
      rw [cnt_succ hb, h3 b _ (by omega) (by omega) hb, ih (by omega) (by omega) fun x p hx hx2 => h3 x p hx (by omega)]
      rfl
theorem own_get {l : List PP} {q : Nat} {p : PP} (h : l[q]? = some p) (hd : p.dead = false) : (ownF l)[cnt l q]? = some p.addr := by
  obtain ⟨h1, h2⟩ := List.getElem?_eq_some_iff.1 h
  have he : l = l.take q ++ p :: l.drop (q + 1) := by
    rw [← h2]
    simp
  have hf : ownF l = (l.take q |>.filter aliveB).map PP.addr ++ p.addr :: ((l.drop (q + 1)).filter aliveB).map PP.addr := by
    conv => lhs; rw [he]
    unfold ownF
    rw [List.filter_append, List.map_append, List.filter_cons]
    simp [aliveB, hd]
  rw [hf]
  unfold cnt
  rw [List.getElem?_append_right (by simp)]
  simp
theorem own_lt' {l : List PP} {q : Nat} {p : PP} (h : l[q]? = some p) (hd : p.dead = false) : cnt l q < (ownF l).length :=
  (List.getElem?_eq_some_iff.1 (own_get h hd)).1
theorem aliveF_some {l : List PP} {t : Nat} : ∀ k i j, aliveF l t k i = some j → i ≤ j ∧ j < i + k ∧ (((l[(t + j) % l.length]?).map PP.dead).getD true = false) ∧ ∀ x, i ≤ x → x < j → ((l[(t + x) % l.length]?).map PP.dead).getD true = true := by
  intro k
  induction k with
  | zero => intro i j h; simp [aliveF] at h
  | succ k ih =>
    intro i j h
    simp only [aliveF] at h
    split at h
    · rename_i hc
      cases h
      exact ⟨Nat.le_refl _, by omega, hc, fun x h1 h2 => by omega⟩
    · rename_i hc
      obtain ⟨h1, h2, h3, h4⟩ := ih (i + 1) j h
      refine ⟨by omega, by omega, h3, fun x hx1 hx2 => ?_⟩
      by_cases hxi : x = i
      · subst hxi
        simpa using hc
      · exact h4 x (by omega) hx2
theorem aliveF_none {l : List PP} {t : Nat} : ∀ k i, aliveF l t k i = none → ∀ x, i ≤ x → x < i + k → ((l[(t + x) % l.length]?).map PP.dead).getD true = true := by
  intro k
  induction k with
  | zero => intro i h x h1 h2; omega
  | succ k ih =>
    intro i h x h1 h2
    simp only [aliveF] at h
    split at h
    · cases h
    · rename_i hc
      by_cases hxi : x = i
      · subst hxi
        simpa using hc
      · exact ih (i + 1) h x (by omega) (by omega)
theorem own_nil {l : List PP} (h : ∀ (x : Nat) (p : PP), l[x]? = some p → p.dead = true) : ownF l = [] := by
  unfold ownF
  rw [List.filter_eq_nil_iff.2 fun p hp => ?_]
  · rfl
  · obtain ⟨i, hi, rfl⟩ := List.getElem_of_mem hp
    simp [aliveB, h i _ (List.getElem?_eq_getElem hi)]
theorem all_mod {n t : Nat} (ht : t ≤ n) {x : Nat} (hx : x < n) : ∃ j, j < n ∧ (t + j) % n = x := by
  by_cases h : t ≤ x
  · exact ⟨x - t, by omega, by rw [Nat.mod_eq_of_lt (by omega)]; omega⟩
  · refine ⟨x + n - t, by omega, ?_⟩
    have : t + (x + n - t) = x + n := by omega
    rw [this, Nat.add_mod_right, Nat.mod_eq_of_lt hx]
/-- When nobody is due: the next one of those that are alive. -/
theorem next_alive (P : PS) (now : Int) (hd : ∀ p ∈ P.row, dueB p now = false) (ht : P.turn ≤ P.row.length) :
    (ownF P.row = [] ∧ P.next now = (0, false, P)) ∨
    (∃ (a : Int) (t : Nat), ownF P.row ≠ [] ∧ (ownF P.row)[cnt P.row P.turn % (ownF P.row).length]? = some a ∧ P.next now = (a, true, { P with turn := t }) ∧ t ≤ P.row.length ∧ cnt P.row t = cnt P.row P.turn % (ownF P.row).length + 1) := by
  have hb := bestF_none hd P.row.length
  unfold PS.next
  rw [hb]
  cases ha : aliveF P.row P.turn P.row.length 0 with
  | none =>
    left
    refine ⟨own_nil fun x p hp => ?_, rfl⟩
    have hx := (List.getElem?_eq_some_iff.1 hp).1
    obtain ⟨j, hj, he⟩ := all_mod ht hx
    have := aliveF_none _ _ ha j (by omega) (by omega)
    rw [he, hp] at this
    simpa using this
  | some j =>
    right
    obtain ⟨-, h2, h3, h4⟩ := aliveF_some _ _ _ ha
    have hn : 0 < P.row.length := by omega
    have hq := Nat.mod_lt (P.turn + j) hn
    obtain ⟨p, hp⟩ : ∃ p, P.row[(P.turn + j) % P.row.length]? = some p := ⟨_, List.getElem?_eq_getElem hq⟩
    rw [hp] at h3
    simp at h3
    have hlt := own_lt' hp h3
    have hc : cnt P.row ((P.turn + j) % P.row.length) = cnt P.row P.turn % (ownF P.row).length := by
      by_cases hw : P.turn + j < P.row.length
      · rw [Nat.mod_eq_of_lt hw] at hlt ⊢
        have := cnt_const (l := P.row) (a := P.turn) (P.turn + j) (by omega) (by omega) fun x q hx1 hx2 hxq => by
          have h5 := h4 (x - P.turn) (by omega) (by omega)
          rw [show P.turn + (x - P.turn) = x by omega, Nat.mod_eq_of_lt (by omega), hxq] at h5
          simpa using h5
        rw [this] at hlt ⊢
        rw [Nat.mod_eq_of_lt hlt]
      · have he : (P.turn + j) % P.row.length = P.turn + j - P.row.length := by
          rw [Nat.mod_eq_sub_mod (by omega), Nat.mod_eq_of_lt (by omega)]
        rw [he]
        have h6 := cnt_const (l := P.row) (a := P.turn) P.row.length ht (Nat.le_refl _) fun x q hx1 hx2 hxq => by
          have h5 := h4 (x - P.turn) (by omega) (by omega)
          rw [show P.turn + (x - P.turn) = x by omega, Nat.mod_eq_of_lt hx2, hxq] at h5
          simpa using h5
        have h7 := cnt_const (l := P.row) (a := 0) (P.turn + j - P.row.length) (by omega) (by omega) fun x q hx1 hx2 hxq => by
          have h5 := h4 (x + P.row.length - P.turn) (by omega) (by omega)
          rw [show P.turn + (x + P.row.length - P.turn) = x + P.row.length by omega, Nat.add_mod_right, Nat.mod_eq_of_lt (by omega), hxq] at h5
          simpa using h5
        rw [h7, ← h6, cnt_all, Nat.mod_self]
        rfl
    have hg := own_get hp h3
    refine ⟨p.addr, (P.turn + j) % P.row.length + 1, ?_, ?_, ?_, by omega, ?_⟩
    · intro h0
      rw [h0] at hlt
      simp at hlt
    · rw [← hc]
      exact hg
    · have had : addrAt P.row ((P.turn + j) % P.row.length) = p.addr := by unfold addrAt; rw [hp]; rfl
      simp only [had]
    · rw [cnt_succ hp, h3, hc]
      rfl
end Go.Proofs.Ytmkbleeideddkaa
