/- The document's answer: the reference's state in memory. -/
import Derived.Test.YtmkbleeideddkaaPs
import Derived.Laws.OwnMore
set_option linter.unusedVariables false
set_option linter.unusedSimpArgs false
namespace Go.Proofs.Ytmkbleeideddkaa
open Go.RowKit

/-- The cells of a row of peers. -/
def cells3 : List PP → List Value
  | [] => []
  | p :: r => .int .u8 p.addr :: .bool p.dead :: .int .i64 p.since :: cells3 r
theorem cells3_len (l : List PP) : (cells3 l).length = l.length * 3 := by
  induction l with
  | nil => rfl
  | cons p r ih => simp only [cells3, List.length_cons, ih]; omega
theorem cells3_get {l : List PP} {i : Nat} {p : PP} (h : l[i]? = some p) : (cells3 l)[i * 3]? = some (.int .u8 p.addr) ∧ (cells3 l)[i * 3 + 1]? = some (.bool p.dead) ∧ (cells3 l)[i * 3 + 2]? = some (.int .i64 p.since) := by
  induction l generalizing i with
  | nil => simp at h
  | cons q r ih =>
    cases i with
    | zero =>
      simp at h
      subst h
      exact ⟨rfl, rfl, rfl⟩
    | succ i =>
      have := ih (i := i) (by simpa using h)
      rw [show (i + 1) * 3 = i * 3 + 1 + 1 + 1 by omega]
      simpa [cells3] using this
theorem cells3_app (l : List PP) (p : PP) : cells3 (l ++ [p]) = cells3 l ++ [.int .u8 p.addr, .bool p.dead, .int .i64 p.since] := by
  induction l with
  | nil => rfl
  | cons q r ih => simp only [List.cons_append, cells3, ih]
theorem cells3_dead (l : List PP) (i : Nat) (b : Bool) : (cells3 l).set (i * 3 + 1) (.bool b) = cells3 (l.modify i fun p => { p with dead := b }) := by
  induction l generalizing i with
  | nil => simp [cells3]
  | cons q r ih =>
    cases i with
    | zero => rfl
    | succ i =>
      rw [show (i + 1) * 3 + 1 = i * 3 + 1 + 1 + 1 + 1 by omega]
      simp only [cells3, List.set_cons_succ, List.modify_succ_cons, ih]
theorem cells3_since (l : List PP) (i : Nat) (n : Int) : (cells3 l).set (i * 3 + 2) (.int .i64 n) = cells3 (l.modify i fun p => { p with since := n }) := by
  induction l generalizing i with
  | nil => simp [cells3]
  | cons q r ih =>
    cases i with
    | zero => rfl
    | succ i =>
      rw [show (i + 1) * 3 + 2 = i * 3 + 2 + 1 + 1 + 1 by omega]
      simp only [cells3, List.set_cons_succ, List.modify_succ_cons, ih]
/-- The reference in memory. -/
structure RefIn (w : World) (B h : Nat) (v : Value) (P : PS) : Prop where
  ge : B ≤ h
  blk : w.heap[h]? = some (.cells #[v, .int .i64 ((P.turn : Int) - 1)] 40 (0, 0))
  row : w.ownsRow B 42 3 v P.row.length (cells3 P.row)
  n40 : P.row.length ≤ 40
  tn : P.turn ≤ P.row.length
  sb : ∀ p ∈ P.row, I64 p.since
theorem RefIn.lt {w : World} {B h : Nat} {v : Value} {P : PS} (r : RefIn w B h v P) : h < w.heap.size := blk_lt r.blk
theorem RefIn.kept {w w1 : World} {B B' h : Nat} {v : Value} {P : PS} {ts : List TypeId} (r : RefIn w B h v P) (hk : Kept B' ts w w1) (h1 : 40 ∉ ts) (h2 : 42 ∉ ts) : RefIn w1 B h v P :=
  ⟨r.ge, hk.blk r.blk h1, own_keep r.row fun k hkk => by
    obtain ⟨cs, fr, hh⟩ := own_ty r.row k hkk
    exact hk.block k (blk_lt hh) (.inr ⟨_, _, _, hh, h2⟩), r.n40, r.tn, r.sb⟩
theorem RefIn.below {w w1 : World} {B h : Nat} {v : Value} {P : PS} (r : RefIn w B h v P) (hb : Below w.heap.size w w1) : RefIn w1 B h v P :=
  r.kept (Kept.of_below hb (B := 0) (ts := [])) (by simp) (by simp)
theorem RefIn.lower {w : World} {B B' h : Nat} {v : Value} {P : PS} (r : RefIn w B h v P) (hB : B' ≤ B) : RefIn w B' h v P :=
  ⟨Nat.le_trans hB r.ge, r.blk, own_lower r.row hB, r.n40, r.tn, r.sb⟩
/-- The i-th of them. -/
theorem RefIn.at {w : World} {B h : Nat} {v : Value} {P : PS} (r : RefIn w B h v P) {i : Nat} (hi : i < P.row.length) :
    ∃ (gr c : Nat) (p : PP), P.row[i]? = some p ∧ v = .slice (some ⟨gr, 0, none⟩) P.row.length c ∧ P.row.length ≤ c ∧ c ≤ 9223372036854775807 ∧
      w.cell? ⟨gr, i * 3, none⟩ = some (.int .u8 p.addr) ∧ w.cell? ⟨gr, i * 3 + 1, none⟩ = some (.bool p.dead) ∧ w.cell? ⟨gr, i * 3 + 2, none⟩ = some (.int .i64 p.since) ∧ (∀ j, w.frozen? ⟨gr, j, none⟩ = false) ∧ gr ≠ h := by
  obtain ⟨p, hp⟩ : ∃ p, P.row[i]? = some p := ⟨_, List.getElem?_eq_getElem hi⟩
  obtain ⟨h0, h1, h2⟩ := cells3_get hp
  rcases r.row.2 with ⟨_, hz⟩ | ⟨gr, cap, cur, rfl, hb, hh, h3, h4, h5, h6⟩
  · omega
  · have hc : ∀ j, j < P.row.length * 3 → w.cell? ⟨gr, j, none⟩ = (cells3 P.row)[j]? := fun j hj => r.row.cellAt j hj
    refine ⟨gr, cap, p, hp, rfl, h3, by unfold maxLen at h4; omega, ?_, ?_, ?_, fun j => blk_frozen hh j, ?_⟩
    · rw [hc _ (by omega)]; exact h0
    · rw [hc _ (by omega)]; exact h1
    · rw [hc _ (by omega)]; exact h2
    · rintro rfl
      rw [r.blk] at hh
      cases hh
/-- A peer is written. -/
theorem RefIn.store {w : World} {B h gr c n : Nat} {P : PS} {rows : List PP} {u : Value} {j : Nat} (r : RefIn w B h (.slice (some ⟨gr, 0, none⟩) n c) P) (hn : n = P.row.length) (hset : (cells3 P.row).set j u = cells3 rows) (hl : rows.length = P.row.length) (hsb : ∀ p ∈ rows, I64 p.since) :
    Kept B [40, 42] w (w.setCell ⟨gr, j, none⟩ u) ∧ RefIn (w.setCell ⟨gr, j, none⟩ u) B h (.slice (some ⟨gr, 0, none⟩) n c) ⟨rows, P.turn⟩ := by
  subst hn
  obtain ⟨h1, h2⟩ := r.row.stored j u
  obtain ⟨cs, fr, hh⟩ := own_ty r.row gr rfl
  have hge := (own_lt r.row gr rfl).1
  have hk : Kept B [42] w (w.setCell ⟨gr, j, none⟩ u) := Kept.of_grown h2 hh (by simp) hge
  refine ⟨hk.mono (by simp), r.ge, hk.blk r.blk (by decide), ?_, by show rows.length ≤ 40; rw [hl]; exact r.n40, by show P.turn ≤ rows.length; rw [hl]; exact r.tn, hsb⟩
  show World.ownsRow _ B 42 3 _ rows.length (cells3 rows)
  rw [hl, ← hset]
  exact h1
theorem RefIn.turn {w : World} {B h t : Nat} {v : Value} {P : PS} (r : RefIn w B h v P) (ht : t + 1 ≤ P.row.length) :
    Kept B [40, 42] w (w.setCell ⟨h, 1, none⟩ (.int .i64 (t : Int))) ∧ RefIn (w.setCell ⟨h, 1, none⟩ (.int .i64 (t : Int))) B h v { P with turn := t + 1 } := by
  have hk : Kept B [40] w (w.setCell ⟨h, 1, none⟩ (.int .i64 (t : Int))) := Kept.of_grown (grown_set (grown_refl _ _) _ _) r.blk (by simp) r.ge
  refine ⟨hk.mono (by simp), r.ge, ?_, own_kept r.row hk (by decide), r.n40, ht, r.sb⟩
  have := blk_set r.blk 1 (.int .i64 (t : Int))
  rw [show (((t + 1 : Nat) : Int) - 1) = (t : Int) by omega]
  simpa using this
theorem sb_modify {l : List PP} {i : Nat} {f : PP → PP} (h : ∀ p ∈ l, I64 p.since) (hf : ∀ p, I64 p.since → I64 (f p).since) : ∀ p ∈ l.modify i f, I64 p.since := by
  intro q hq
  obtain ⟨j, hj, rfl⟩ := List.getElem_of_mem hq
  rw [List.getElem_modify]
  have h1 := h _ (List.getElem_mem (l := l) (by simpa using hj))
  split
  · exact hf _ h1
  · exact h1
end Go.Proofs.Ytmkbleeideddkaa
