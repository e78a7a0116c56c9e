/- The poll: its state in plain Lean, and in memory. -/
import Derived.Test.YtmkbleeideddkaaGn
set_option linter.unusedVariables false
set_option linter.unusedSimpArgs false
namespace Go.Proofs.Ytmkbleeideddkaa
open Go.RowKit

/-- An address. -/
structure PP where
  addr : Int
  dead : Bool
  since : Int
structure PS where
  row : List PP
  turn : Nat

def findF : List PP → Int → Option Nat
  | [], _ => none
  | p :: r, a => if p.addr = a then some 0 else (findF r a).map (· + 1)
theorem findF_some {l : List PP} {a : Int} {i : Nat} (h : findF l a = some i) : ∃ p, l[i]? = some p ∧ p.addr = a ∧ ∀ j q, j < i → l[j]? = some q → q.addr ≠ a := by
  induction l generalizing i with
  | nil => cases h
  | cons p r ih =>
    simp only [findF] at h
    split at h
    · rename_i hp
      cases h
      exact ⟨p, rfl, hp, fun j q hj => by omega⟩
    · rename_i hp
      cases hr : findF r a with
      | none => rw [hr] at h; cases h
      | some k =>
        rw [hr] at h
        simp at h
        subst h
        obtain ⟨q, h1, h2, h3⟩ := ih hr
        refine ⟨q, by simpa using h1, h2, fun j q' hj hq => ?_⟩
        cases j with
        | zero => simp at hq; subst hq; exact hp
        | succ j => exact h3 j q' (by omega) (by simpa using hq)
theorem findF_none {l : List PP} {a : Int} (h : findF l a = none) : ∀ p ∈ l, p.addr ≠ a := by
  induction l with
  | nil => intro p hp; simp at hp
  | cons p r ih =>
    simp only [findF] at h
    split at h
    · cases h
    · rename_i hp
      intro q hq
      rcases List.mem_cons.1 hq with rfl | hq
      · exact hp
      · exact ih (by cases hr : findF r a with | none => rfl | some k => rw [hr] at h; cases h) q hq
theorem findF_lt {l : List PP} {a : Int} {i : Nat} (h : findF l a = some i) : i < l.length := by
  obtain ⟨p, h1, _⟩ := findF_some h
  exact (List.getElem?_eq_some_iff.1 h1).1
/-- Where the search stands. -/
theorem findF_at {l : List PP} {a : Int} {i : Nat} {p : PP} (h1 : l[i]? = some p) (h2 : p.addr = a) (h3 : ∀ j q, j < i → l[j]? = some q → q.addr ≠ a) : findF l a = some i := by
  induction l generalizing i with
  | nil => simp at h1
  | cons q r ih =>
    cases i with
    | zero =>
      simp at h1
      subst h1
      simp [findF, h2]
    | succ i =>
      have hq := h3 0 q (by omega) rfl
      simp only [findF, if_neg hq]
      rw [ih (by simpa using h1) (fun j q' hj hq' => h3 (j + 1) q' (by omega) (by simpa using hq'))]
      rfl
theorem findF_all {l : List PP} {a : Int} (h : ∀ j q, j < l.length → l[j]? = some q → q.addr ≠ a) : findF l a = none := by
  cases hf : findF l a with
  | none => rfl
  | some i =>
    obtain ⟨p, h1, h2, _⟩ := findF_some hf
    exact absurd h2 (h i p (findF_lt hf) h1)

def PS.dead (P : PS) (a now : Int) : Int × PS :=
  match findF P.row a with
  | none => (6, P)
  | some i => (0, { P with row := P.row.modify i fun p => { p with dead := true, since := now } })
def PS.alive (P : PS) (a : Int) : Int × PS :=
  match findF P.row a with
  | none => (6, P)
  | some i => (0, { P with row := P.row.modify i fun p => { p with dead := false } })
def PS.is (P : PS) (a : Int) : Bool :=
  match findF P.row a with
  | none => false
  | some i => !((P.row[i]?).map PP.dead).getD true
def dueB (p : PP) (now : Int) : Bool := p.dead && decide (p.since ≤ now) && decide (20 ≤ now - p.since)
def sinceAt (l : List PP) (i : Nat) : Int := ((l[i]?).map PP.since).getD 0
def betterB (l : List PP) (p : PP) : Option Nat → Bool
  | none => true
  | some b => decide (p.since < sinceAt l b)
/-- Who is due first: the search behind k of them. -/
def bestF (l : List PP) (now : Int) : Nat → Option Nat
  | 0 => none
  | k + 1 =>
    match l[k]? with
    | none => bestF l now k
    | some p => if dueB p now && betterB l p (bestF l now k) then some k else bestF l now k
/-- Who is alive, from a place on: how many places further. -/
def aliveF (l : List PP) (turn : Nat) : Nat → Nat → Option Nat
  | 0, _ => none
  | k + 1, i => if ((l[(turn + i) % l.length]?).map PP.dead).getD true = false then some i else aliveF l turn k (i + 1)
def addrAt (l : List PP) (i : Nat) : Int := ((l[i]?).map PP.addr).getD 0
def PS.next (P : PS) (now : Int) : Int × Bool × PS :=
  match bestF P.row now P.row.length with
  | some i => (addrAt P.row i, true, { P with row := P.row.modify i fun p => { p with since := now } })
  | none =>
    match aliveF P.row P.turn P.row.length 0 with
    | some i => (addrAt P.row ((P.turn + i) % P.row.length), true, { P with turn := (P.turn + i) % P.row.length + 1 })
    | none => (0, false, P)
def addF (l : List PP) (a : Int) : List PP := if 1 ≤ a ∧ a ≤ 31 ∧ findF l a = none then l ++ [⟨a, false, 0⟩] else l
def newF (us : List Int) : PS := ⟨us.foldl addF [], 0⟩

/-- A peer in memory. -/
def PeerAt (w : World) (a : Nat) (p : PP) : Prop := w.heap[a]? = some (.cells #[.int .u8 p.addr, .bool p.dead, .int .i64 p.since] 58 (0, 0))
def ptrs (us : List Nat) : List Value := us.map fun a => .pointer (some ⟨a, 0, none⟩)
def I64 (n : Int) : Prop := -9223372036854775808 ≤ n ∧ n ≤ 9223372036854775807
/-- The poll in memory, laid open. -/
structure PollIn (w : World) (B g : Nat) (v : Value) (us : List Nat) (P : PS) : Prop where
  ge : B ≤ g
  blk : w.heap[g]? = some (.cells #[v, .int .i64 (P.turn : Int)] 54 (0, 0))
  row : w.ownsRow B 55 1 v P.row.length (ptrs us)
  len : us.length = P.row.length
  nd : us.Nodup
  lo : ∀ a ∈ us, B ≤ a
  pe : ∀ (i a : Nat) (p : PP), us[i]? = some a → P.row[i]? = some p → PeerAt w a p
  n40 : P.row.length ≤ 40
  tn : P.turn ≤ P.row.length
  sb : ∀ p ∈ P.row, I64 p.since
def PollAt (w : World) (B g : Nat) (P : PS) : Prop := ∃ v us, PollIn w B g v us P
theorem PollIn.lt {w : World} {B g : Nat} {v : Value} {us : List Nat} {P : PS} (h : PollIn w B g v us P) : g < w.heap.size := blk_lt h.blk
theorem PollIn.kept {w w1 : World} {B B' g : Nat} {v : Value} {us : List Nat} {P : PS} {ts : List TypeId} (h : PollIn w B g v us P) (hk : Kept B' ts w w1) (h1 : 54 ∉ ts) (h2 : 55 ∉ ts) (h3 : 58 ∉ ts) : PollIn w1 B g v us P :=
  ⟨h.ge, hk.blk h.blk h1, own_keep h.row fun k hkk => by
    obtain ⟨cs, fr, hh⟩ := own_ty h.row k hkk
    exact hk.block k (blk_lt hh) (.inr ⟨_, _, _, hh, h2⟩), h.len, h.nd, h.lo, fun i a p ha hp => hk.blk (h.pe i a p ha hp) h3, h.n40, h.tn, h.sb⟩
theorem PollIn.below {w w1 : World} {B g : Nat} {v : Value} {us : List Nat} {P : PS} (h : PollIn w B g v us P) (hb : Below w.heap.size w w1) : PollIn w1 B g v us P :=
  h.kept (Kept.of_below hb (B := 0) (ts := [])) (by simp) (by simp) (by simp)
theorem PollAt.kept {w w1 : World} {B B' g : Nat} {P : PS} {ts : List TypeId} (h : PollAt w B g P) (hk : Kept B' ts w w1) (h1 : 54 ∉ ts) (h2 : 55 ∉ ts) (h3 : 58 ∉ ts) : PollAt w1 B g P := by
  obtain ⟨v, us, h⟩ := h
  exact ⟨v, us, h.kept hk h1 h2 h3⟩
theorem PollAt.below {w w1 : World} {B g : Nat} {P : PS} (h : PollAt w B g P) (hb : Below w.heap.size w w1) : PollAt w1 B g P := by
  obtain ⟨v, us, h⟩ := h
  exact ⟨v, us, h.below hb⟩
theorem PollAt.lt {w : World} {B g : Nat} {P : PS} (h : PollAt w B g P) : g < w.heap.size := by
  obtain ⟨v, us, h⟩ := h
  exact h.lt
theorem PollAt.lower {w : World} {B B' g : Nat} {P : PS} (h : PollAt w B g P) (hB : B' ≤ B) : PollAt w B' g P := by
  obtain ⟨v, us, h⟩ := h
  exact ⟨v, us, Nat.le_trans hB h.ge, h.blk, own_lower h.row hB, h.len, h.nd, fun a ha => Nat.le_trans hB (h.lo a ha), h.pe, h.n40, h.tn, h.sb⟩
/-- The i-th of them. -/
theorem PollIn.at {w : World} {B g : Nat} {v : Value} {us : List Nat} {P : PS} (h : PollIn w B g v us P) {i : Nat} (hi : i < P.row.length) :
    ∃ (a gr c : Nat) (p : PP), us[i]? = some a ∧ P.row[i]? = some p ∧ PeerAt w a p ∧ v = .slice (some ⟨gr, 0, none⟩) P.row.length c ∧ P.row.length ≤ c ∧ c ≤ 9223372036854775807 ∧ w.cell? ⟨gr, i, none⟩ = some (.pointer (some ⟨a, 0, none⟩)) := by
  have hl := h.len
  obtain ⟨a, ha⟩ : ∃ a, us[i]? = some a := ⟨_, List.getElem?_eq_getElem (by omega)⟩
  obtain ⟨p, hp⟩ : ∃ p, P.row[i]? = some p := ⟨_, List.getElem?_eq_getElem hi⟩
  rcases h.row.2 with ⟨_, h0⟩ | ⟨gr, cap, cur, rfl, hb, hh, h1, h2, h3, h4⟩
  · omega
  · refine ⟨a, gr, cap, p, ha, hp, h.pe i a p ha hp, rfl, h1, by unfold maxLen at h2; omega, ?_⟩
    have h5 := h.row.cells (g := gr) rfl i (.pointer (some ⟨a, 0, none⟩)) (by simp [ptrs, ha])
    have h6 : (⟨gr, 0, none⟩ : Addr).add i = ⟨gr, i, none⟩ := by unfold Addr.add; split <;> simp_all
    rwa [h6] at h5
theorem nodup_inj {l : List Nat} (h : l.Nodup) : ∀ {i j a : Nat}, l[i]? = some a → l[j]? = some a → i = j := by
  induction l with
  | nil => intro i j a h1; simp at h1
  | cons x r ih =>
    intro i j a h1 h2
    have hx := (List.nodup_cons.1 h).1
    have hr := (List.nodup_cons.1 h).2
    cases i with
    | zero =>
      cases j with
      | zero => rfl
      | succ j =>
        simp at h1 h2
        subst h1
        exact absurd (List.mem_of_getElem? h2) hx
    | succ i =>
      cases j with
      | zero =>
        simp at h1 h2
        subst h2
        exact absurd (List.mem_of_getElem? h1) hx
      | succ j => exact congrArg (· + 1) (ih hr (by simpa using h1) (by simpa using h2))
/-- A peer is written. -/
theorem PollIn.write {w : World} {B g : Nat} {v : Value} {us : List Nat} {P : PS} {i a : Nat} {p p' : PP} (h : PollIn w B g v us P) (ha : us[i]? = some a) (hp : P.row[i]? = some p) {w1 : World} (hg : w.grownBy w1 (some a)) (hn : PeerAt w1 a p') (hsb : I64 p'.since) :
    PollIn w1 B g v us { P with row := P.row.modify i fun _ => p' } ∧ Kept B [58] w w1 := by
  have hpa := h.pe i a p ha hp
  have hk : Kept B [58] w w1 := Kept.of_grown hg hpa (by simp) (h.lo a (List.mem_of_getElem? ha))
  have hil := (List.getElem?_eq_some_iff.1 hp).1
  refine ⟨⟨h.ge, hk.blk h.blk (by decide), ?_, by simpa using h.len, h.nd, h.lo, fun j b q hb hq => ?_, by simpa using h.n40, by simpa using h.tn, fun q hq => ?_⟩, hk⟩
  · have : (P.row.modify i fun _ => p').length = P.row.length := by simp
    simp only [this]
    exact own_keep h.row fun k hkk => by
      obtain ⟨cs, fr, hh⟩ := own_ty h.row k hkk
      exact hk.block k (blk_lt hh) (.inr ⟨_, _, _, hh, by decide⟩)
  · simp only [List.getElem?_modify] at hq
    by_cases hij : i = j
    · subst hij
      rw [ha] at hb
      cases hb
      rw [hp] at hq
      simp at hq
      subst hq
      exact hn
    · simp [hij] at hq
      have hba : b ≠ a := by
        rintro rfl
        exact hij (nodup_inj h.nd ha hb)
      exact (hg.block b (blk_lt (h.pe j b q hb hq)) (by simpa using hba)).trans (h.pe j b q hb hq)
  · obtain ⟨j, hj, rfl⟩ := List.getElem_of_mem hq
    rw [List.getElem_modify]
    split
    · exact hsb
    · exact h.sb _ (List.getElem_mem _)
end Go.Proofs.Ytmkbleeideddkaa
