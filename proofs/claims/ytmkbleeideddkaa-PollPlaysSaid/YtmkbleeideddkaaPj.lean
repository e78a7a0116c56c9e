/- lamplightlaw09.PollTurns. -/
import Derived.Test.YtmkbleeideddkaaPi
set_option linter.unusedVariables false
set_option linter.unusedSimpArgs false
namespace Go.Proofs.Ytmkbleeideddkaa
open Go.RowKit

theorem nodup_inj' {l : List Int} (h : l.Nodup) : ∀ {i j : Nat} {a : Int}, l[i]? = some a → l[j]? = some a → i = j := by
  intro i j a h1 h2
  obtain ⟨hi, e1⟩ := List.getElem?_eq_some_iff.1 h1
  obtain ⟨hj, e2⟩ := List.getElem?_eq_some_iff.1 h2
  rcases Nat.lt_trichotomy i j with hl | hl | hl
  · exact absurd (e1.trans e2.symm) (List.pairwise_iff_getElem.1 h i j hi hj hl)
  · exact hl
  · exact absurd (e2.trans e1.symm) (List.pairwise_iff_getElem.1 h j i hj hi hl)
theorem find_at {l : List PP} {k : Nat} {p : PP} (h : (l.map PP.addr).Nodup) (hp : l[k]? = some p) : findF l p.addr = some k :=
  findF_at hp rfl fun j q hj hq e => by
    have := nodup_inj' h (i := k) (j := j) (a := p.addr) (by simp [hp]) (by simp [hq, e])
    omega
theorem modify_addr (l : List PP) (k : Nat) (f : PP → PP) (hf : ∀ p, (f p).addr = p.addr) : (l.modify k f).map PP.addr = l.map PP.addr := by
  apply List.ext_getElem?
  intro j
  simp only [List.getElem?_map, List.getElem?_modify]
  by_cases h : k = j
  · subst h
    cases l[k]? <;> simp [hf]
  · simp [h]
theorem modify_ne (l : List PP) (k j : Nat) (f : PP → PP) (h : k ≠ j) : (l.modify k f)[j]? = l[j]? := by
  rw [List.getElem?_modify]
  simp [h]
theorem take_modify (l : List PP) (k : Nat) (f : PP → PP) : (l.modify k f).take k = l.take k := by
  apply List.ext_getElem?
  intro j
  simp only [List.getElem?_take]
  by_cases h : j < k
  · rw [if_pos h, if_pos h, modify_ne _ _ _ _ (by omega)]
  · rw [if_neg h, if_neg h]

def deadP (s : Int) (p : PP) : PP := { p with dead := true, since := s }
def deadRow (L : List PP) (dm : Nat → Bool) : Nat → List PP
  | 0 => L
  | k + 1 => if dm k then (deadRow L dm k).modify k (deadP 7) else deadRow L dm k
theorem deadRow_addr (L : List PP) (dm : Nat → Bool) (k : Nat) : (deadRow L dm k).map PP.addr = L.map PP.addr := by
  induction k with
  | zero => rfl
  | succ k ih =>
    simp only [deadRow]
    split
    · rw [modify_addr _ _ (deadP 7) fun p => rfl, ih]
    · exact ih
theorem deadRow_len (L : List PP) (dm : Nat → Bool) (k : Nat) : (deadRow L dm k).length = L.length := by
  have := congrArg List.length (deadRow_addr L dm k)
  simpa using this
theorem deadRow_get (L : List PP) (dm : Nat → Bool) (k j : Nat) (h : k ≤ j) : (deadRow L dm k)[j]? = L[j]? := by
  induction k with
  | zero => rfl
  | succ k ih =>
    simp only [deadRow]
    split
    · rw [modify_ne _ _ _ _ (by omega), ih (by omega)]
    · exact ih (by omega)
theorem deadRow_due {L : List PP} (hL : ∀ p ∈ L, p.dead = false) (dm : Nat → Bool) (k : Nat) : ∀ p ∈ deadRow L dm k, p.dead = true → p.since = 7 := by
  induction k with
  | zero => intro p hp hd; rw [hL p hp] at hd; cases hd
  | succ k ih =>
    intro p hp hd
    simp only [deadRow] at hp
    split at hp
    · obtain ⟨j, hj, rfl⟩ := List.getElem_of_mem hp
      rw [List.getElem_modify] at hd ⊢
      split
      · rfl
      · rename_i hne
        rw [if_neg hne] at hd
        exact ih _ (List.getElem_mem _) hd
    · exact ih p hp hd
def ownK (L : List PP) (dm : Nat → Bool) (k : Nat) : List Int := ownF ((deadRow L dm k).take k)
theorem ownK_succ {L : List PP} {dm : Nat → Bool} {k : Nat} {p : PP} (hL : ∀ p ∈ L, p.dead = false) (h : L[k]? = some p) : ownK L dm (k + 1) = if dm k then ownK L dm k else ownK L dm k ++ [p.addr] := by
  have hg : (deadRow L dm k)[k]? = some p := (deadRow_get L dm k k (Nat.le_refl _)).trans h
  obtain ⟨hk, hg'⟩ := List.getElem?_eq_some_iff.1 hg
  unfold ownK
  simp only [deadRow]
  by_cases hd : dm k = true
  · rw [if_pos hd, if_pos hd]
    have hk2 : k < ((deadRow L dm k).modify k (deadP 7)).length := by simpa using hk
    rw [List.take_succ_eq_append_getElem hk2, take_modify]
    unfold ownF
    rw [List.filter_append, List.getElem_modify]
    simp [aliveB, deadP]
  · rw [if_neg hd, if_neg hd, List.take_succ_eq_append_getElem hk, hg']
    unfold ownF
    rw [List.filter_append]
    simp [aliveB, hL p (List.mem_of_getElem? h)]
theorem own_fresh {L : List PP} (hL : ∀ p ∈ L, p.dead = false) : ownF L = L.map PP.addr := by
  unfold ownF
  rw [List.filter_eq_self.2 fun p hp => by simp [aliveB, hL p hp]]
theorem own_sub (l : List PP) (h : (l.map PP.addr).Nodup) : (ownF l).Nodup := List.Nodup.sublist (List.Sublist.map _ List.filter_sublist) h
theorem due_no {l : List PP} {now : Int} (h : ∀ p ∈ l, p.dead = true → p.since = 7) (hn : now ≤ 26) : ∀ p ∈ l, dueB p now = false := by
  intro p hp
  unfold dueB
  cases hd : p.dead with
  | false => rfl
  | true =>
    rw [h p hp hd]
    simp
    omega
theorem due_fresh {l : List PP} (h : ∀ p ∈ l, p.dead = false) (now : Int) : ∀ p ∈ l, dueB p now = false := by
  intro p hp
  unfold dueB
  rw [h p hp]
  rfl

/-- A poll, the row of its addresses, and a row of bytes behind. -/
structure TOwn (w wr : World) (g : Nat) (va : Value) (L : List PP) (P : PS) (C : Nat) (vo : Value) (xs : List Int) : Prop where
  pa : PAll w wr g va L P
  ow : wr.ownsRow C 5 1 vo xs.length (xs.map (Value.int .u8))
  ge : w.heap.size ≤ C
  sz : C ≤ wr.heap.size
  lo : ∀ b, va.ownBlock = some b → b < C
theorem TOwn.kept {w wr w2 : World} {g C : Nat} {va vo : Value} {L : List PP} {P P' : PS} {xs : List Int} (h : TOwn w wr g va L P C vo xs) (k : Kept w.heap.size [54, 58] wr w2) (hp : PollAt w2 w.heap.size g P') : TOwn w w2 g va L P' C vo xs :=
  ⟨h.pa.kept k hp, own_kept h.ow k (by decide), h.ge, Nat.le_trans h.sz k.size, h.lo⟩
theorem TOwn.below {w wr w2 : World} {g C : Nat} {va vo : Value} {L : List PP} {P : PS} {xs : List Int} (h : TOwn w wr g va L P C vo xs) (hb : Below wr.heap.size wr w2) : TOwn w w2 g va L P C vo xs :=
  ⟨h.pa.below hb, own_below h.ow hb, h.ge, Nat.le_trans h.sz hb.size, h.lo⟩
theorem TOwn.push {w wr w2 : World} {g C : Nat} {va vo v2 : Value} {L : List PP} {P : PS} {xs : List Int} {x : Int} (h : TOwn w wr g va L P C vo xs) (hg : wr.grownBy w2 vo.ownBlock) (ho : w2.ownsRow C 5 1 v2 (xs.length + 1) (xs.map (Value.int .u8) ++ [.int .u8 x])) : TOwn w w2 g va L P C v2 (xs ++ [x]) := by
  have hk : Kept C [5] wr w2 := Kept.of_row hg (off_of_own h.ow) (by decide)
  refine ⟨⟨h.pa.be.trans ((hk.below h.sz).mono h.ge), h.pa.po.kept hk (by decide) (by decide) (by decide), own_keep h.pa.al fun k hkk => hk.block k (own_lt h.pa.al k hkk).2 (.inl (h.lo k hkk))⟩, ?_, h.ge, Nat.le_trans h.sz hk.size, h.lo⟩
  simpa using ho
theorem xs_get {xs : List Int} {i : Nat} {x : Int} (h : xs[i]? = some x) : (xs.map (Value.int .u8))[i]? = some (.int .u8 x) := by simp [h]
end Go.Proofs.Ytmkbleeideddkaa
