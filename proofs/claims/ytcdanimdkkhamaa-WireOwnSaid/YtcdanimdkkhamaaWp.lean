/- The wire: its state in plain Lean, and in memory. -/
import Derived.Test.YtcdanimdkkhamaaCo
set_option linter.unusedVariables false
set_option linter.unusedSimpArgs false
namespace Go.Proofs.Ytcdanimdkkhamaa
open Go.RowKit

/-- A fault. -/
structure FT where
  kind : Int
  n : Int
  x : Int
  b : List UInt8

def FT.pos (f : FT) : Nat := f.n.toNat
/-- One byte changed. -/
def editF (b : List UInt8) (k : Nat) (x : Int) : List UInt8 := b.set k (UInt8.ofNat (bits .xor .u8 ((b.getD k 0).toNat : Int) x).toNat)
/-- What becomes of bytes. -/
def FT.of (f : FT) (b : List UInt8) : List (List UInt8) :=
  if f.kind = 1 then []
  else if f.kind = 2 then [b, b]
  else if f.kind = 4 then [if b.length = 0 then b else editF b (f.pos % b.length) f.x]
  else if f.kind = 5 then [b.take f.pos]
  else if f.kind = 6 then [f.b.take 64, b]
  else [b]
theorem FT.of_len (f : FT) (b : List UInt8) : (f.of b).length ≤ 2 := by
  unfold FT.of
  repeat' split
  all_goals simp
def FT.held (f : FT) : Nat := if f.kind = 3 then min f.pos 16 else 0
theorem FT.held_le (f : FT) : f.held ≤ 16 := by unfold FT.held; split <;> omega

/-- Rows on their way: bytes, and how often they are held. -/
def heldF (l : List (List UInt8)) (h : Nat) : List (List UInt8 × Nat) :=
  match l with
  | [] => []
  | b :: r => (b, h) :: r.map fun c => (c, 0)
theorem heldF_len (l : List (List UInt8)) (h : Nat) : (heldF l h).length = l.length := by cases l <;> simp [heldF]
theorem heldF_fst (l : List (List UInt8)) (h : Nat) : (heldF l h).map Prod.fst = l := by
  cases l with
  | nil => rfl
  | cons b r => simp only [heldF, List.map_cons, List.map_map]; congr 1; exact (List.map_congr_left fun x _ => rfl).trans (List.map_id _)
def putF (room : Nat) (l : List (List UInt8 × Nat)) (f : FT) (b : List UInt8) : Int × List (List UInt8 × Nat) :=
  if room < l.length + (f.of b).length then (5, l) else (0, l ++ heldF (f.of b) f.held)
/-- What comes out: the rows that are not held, in front. -/
def outF : List (List UInt8 × Nat) → List (List UInt8)
  | [] => []
  | (b, h) :: r => if h = 0 then b :: outF r else []
def restF : List (List UInt8 × Nat) → List (List UInt8 × Nat)
  | [] => []
  | (b, h) :: r => if h = 0 then restF r else (b, h) :: r
def takeF (l : List (List UInt8 × Nat)) : List (List UInt8) × List (List UInt8 × Nat) :=
  match l with
  | (b, h + 1) :: r => ([], (b, h) :: r)
  | l => (outF l, restF l)

/-- The cells of rows of two cells. -/
def cells2 : List (Value × Nat) → List Value
  | [] => []
  | (u, h) :: r => u :: .int .i64 (h : Int) :: cells2 r
theorem cells2_len (l : List (Value × Nat)) : (cells2 l).length = l.length * 2 := by
  induction l with
  | nil => rfl
  | cons p r ih => obtain ⟨u, h⟩ := p; simp [cells2, ih]; omega
theorem cells2_app (l m : List (Value × Nat)) : cells2 (l ++ m) = cells2 l ++ cells2 m := by
  induction l with
  | nil => rfl
  | cons p r ih => obtain ⟨u, h⟩ := p; simp [cells2, ih]

/-- Rows of bytes, of one's own, in a row of one's own. -/
def RowsAt (w : World) (B : Nat) (v : Value) (ls : List (List UInt8)) : Prop :=
  ∃ vs : List Value, vs.length = ls.length ∧ w.ownsRow B 28 1 v ls.length vs ∧ ∀ (i : Nat) (u : Value) (b : List UInt8), vs[i]? = some u → ls[i]? = some b → w.ownsRow B 5 1 u b.length (bytesV b)

theorem RowsAt.nil (w : World) (B : Nat) : RowsAt w B (.slice none 0 0) [] := ⟨[], rfl, World.ownsRow_nil _ _ _ _, fun i u b h => by simp at h⟩
theorem RowsAt.slice {w : World} {B : Nat} {v : Value} {ls : List (List UInt8)} (h : RowsAt w B v ls) : ∃ A c, v = .slice A ls.length c := by
  obtain ⟨vs, _, ho, _⟩ := h
  exact own_slice ho
theorem RowsAt.below {w w1 : World} {B : Nat} {v : Value} {ls : List (List UInt8)} (h : RowsAt w B v ls) (hb : Below w.heap.size w w1) : RowsAt w1 B v ls := by
  obtain ⟨vs, h1, ho, hr⟩ := h
  exact ⟨vs, h1, own_below ho hb, fun i u b hu hb' => own_below (hr i u b hu hb') hb⟩
theorem RowsAt.lower {w : World} {B B' : Nat} {v : Value} {ls : List (List UInt8)} (h : RowsAt w B v ls) (hb : B' ≤ B) : RowsAt w B' v ls := by
  obtain ⟨vs, h1, ho, hr⟩ := h
  exact ⟨vs, h1, own_lower ho hb, fun i u b hu hb' => own_lower (hr i u b hu hb') hb⟩
theorem own_kept {w w1 : World} {B B' t size n : Nat} {ts : List TypeId} {v : Value} {xs : List Value} (h : w.ownsRow B t size v n xs) (hk : Kept B' ts w w1) (ht : t ∉ ts) : w1.ownsRow B t size v n xs :=
  own_keep h fun k hkk => by
    obtain ⟨cs, fr, hh⟩ := own_ty h k hkk
    exact hk.block k (blk_lt hh) (.inr ⟨_, _, _, hh, ht⟩)
theorem RowsAt.kept {w w1 : World} {B B' : Nat} {ts : List TypeId} {v : Value} {ls : List (List UInt8)} (h : RowsAt w B v ls) (hk : Kept B' ts w w1) (h1 : 28 ∉ ts) (h2 : 5 ∉ ts) : RowsAt w1 B v ls := by
  obtain ⟨vs, e, ho, hr⟩ := h
  exact ⟨vs, e, own_kept ho hk h1, fun i u b hu hb' => own_kept (hr i u b hu hb') hk h2⟩
theorem off_kept {w w1 : World} {B B' t size n : Nat} {ts : List TypeId} {v : Value} {xs : List Value} (h : OffRow w B t size v n xs) (hk : Kept B' ts w w1) (ht : t ∉ ts) : OffRow w1 B t size v n xs :=
  h.keep fun k hkk => by
    obtain ⟨cs, hh⟩ := off_ty h k hkk
    exact hk.block k (blk_lt hh) (.inr ⟨_, _, _, hh, ht⟩)
theorem Kept.grown_new {B k : Nat} {ts : List TypeId} {w w1 w2 : World} (h : Kept B ts w w1) (hg : w1.grownBy w2 (some k)) (hk : w.heap.size ≤ k) : Kept B ts w w2 :=
  ⟨hg.os.trans h.os, hg.tape.trans h.tape, hg.output.trans h.output, Nat.le_trans h.size hg.size, fun i hi hc => (hg.block i (Nat.lt_of_lt_of_le hi h.size) (by simp; omega)).trans (h.block i hi hc)⟩
theorem Kept.then_below {B : Nat} {ts : List TypeId} {w w1 w2 : World} (h : Kept B ts w w1) (hb : Below w1.heap.size w1 w2) : Kept B ts w w2 := h.trans (Kept.of_below hb)

/-- The wire in memory. -/
structure WireAt (w : World) (B g : Nat) (room : Nat) (l : List (List UInt8 × Nat)) : Prop where
  ge : B ≤ g
  rm : room ≤ 9223372036854775807
  hh : ∀ p ∈ l, p.2 ≤ 16
  ex : ∃ (v : Value) (us : List Value), us.length = l.length ∧ w.heap[g]? = some (.cells #[.int .i64 (room : Int), v] 57 (0, 0)) ∧ OffRow w B 60 2 v l.length (cells2 (us.zip (l.map Prod.snd))) ∧
    ∀ (i : Nat) (u : Value) (p : List UInt8 × Nat), us[i]? = some u → l[i]? = some p → w.ownsRow B 5 1 u p.1.length (bytesV p.1)
theorem WireAt.lt {w : World} {B g room : Nat} {l : List (List UInt8 × Nat)} (h : WireAt w B g room l) : g < w.heap.size := by
  obtain ⟨v, us, _, hg, _⟩ := h.ex
  exact blk_lt hg
theorem WireAt.kept {w w1 : World} {B B' g room : Nat} {l : List (List UInt8 × Nat)} {ts : List TypeId} (h : WireAt w B g room l) (hk : Kept B' ts w w1) (h1 : 57 ∉ ts) (h2 : 60 ∉ ts) (h3 : 5 ∉ ts) : WireAt w1 B g room l := by
  obtain ⟨v, us, hl, hg, ho, hr⟩ := h.ex
  exact ⟨h.ge, h.rm, h.hh, v, us, hl, hk.blk hg h1, off_kept ho hk h2, fun i u p hu hp => own_kept (hr i u p hu hp) hk h3⟩
theorem WireAt.below {w w1 : World} {B g room : Nat} {l : List (List UInt8 × Nat)} (h : WireAt w B g room l) (hb : Below w.heap.size w w1) : WireAt w1 B g room l :=
  h.kept (Kept.of_below hb (B := 0) (ts := [])) (by simp) (by simp) (by simp)

/-- Bytes as a text. -/
def strV (b : List UInt8) : Value := .string ⟨b.toArray⟩
/-- The reference's wire in memory. -/
structure RefAt (w : World) (B g : Nat) (room : Nat) (l : List (List UInt8 × Nat)) : Prop where
  ge : B ≤ g
  rm : room ≤ 9223372036854775807
  hh : ∀ p ∈ l, p.2 ≤ 16
  ex : ∃ (v : Value), w.heap[g]? = some (.cells #[.int .i64 (room : Int), v] 50 (0, 0)) ∧ OffRow w B 62 2 v l.length (cells2 (l.map fun p => (strV p.1, p.2)))
theorem RefAt.lt {w : World} {B g room : Nat} {l : List (List UInt8 × Nat)} (h : RefAt w B g room l) : g < w.heap.size := by
  obtain ⟨v, hg, _⟩ := h.ex
  exact blk_lt hg
theorem RefAt.kept {w w1 : World} {B B' g room : Nat} {l : List (List UInt8 × Nat)} {ts : List TypeId} (h : RefAt w B g room l) (hk : Kept B' ts w w1) (h1 : 50 ∉ ts) (h2 : 62 ∉ ts) : RefAt w1 B g room l := by
  obtain ⟨v, hg, ho⟩ := h.ex
  exact ⟨h.ge, h.rm, h.hh, v, hk.blk hg h1, off_kept ho hk h2⟩
theorem RefAt.below {w w1 : World} {B g room : Nat} {l : List (List UInt8 × Nat)} (h : RefAt w B g room l) (hb : Below w.heap.size w w1) : RefAt w1 B g room l :=
  h.kept (Kept.of_below hb (B := 0) (ts := [])) (by simp) (by simp)

/-- The head of a row of rows of two cells. -/
theorem OffRow.head2 {w : World} {base n : Nat} {e : TypeId} {v u x : Value} {xs : List Value} (h : OffRow w base e 2 v (n + 1) (u :: x :: xs)) :
    ∃ k o c, v = .slice (some ⟨k, o, none⟩) (n + 1) c ∧ w.cell? ⟨k, o, none⟩ = some u ∧ w.cell? ⟨k, o + 1, none⟩ = some x ∧ w.frozen? ⟨k, o + 1, none⟩ = false ∧ base ≤ k ∧ n + 1 ≤ c ∧ c ≤ maxLen ∧ (∃ cs, w.heap[k]? = some (.cells cs e (0, 0))) ∧
      ∀ y, OffRow (w.setCell ⟨k, o + 1, none⟩ y) base e 2 v (n + 1) (u :: y :: xs) := by
  rcases h.2 with ⟨_, h0⟩ | ⟨g, o, cap, cur, rfl, hb, hg, hnc, hcm, hcs, htake⟩
  · omega
  · have hc : ∀ j z, (u :: x :: xs)[j]? = some z → cur[o * 2 + j]? = some z := by
      intro j z hz
      rw [← htake] at hz
      have hj : j < (n + 1) * 2 := by
        have := (List.getElem?_eq_some_iff.1 hz).1
        simp at this
        omega
      rw [List.getElem?_take, if_pos hj, List.getElem?_drop] at hz
      simpa using hz
    refine ⟨g, o * 2, cap, rfl, ?_, ?_, blk_frozen hg _, hb, hnc, hcm, ⟨cur, hg⟩, fun y => ⟨by have := h.1; simpa using this, .inr ⟨g, o, cap, cur.setIfInBounds (o * 2 + 1) y, rfl, hb, blk_set hg _ _, hnc, hcm, by simpa using hcs, ?_⟩⟩⟩
    · rw [blk_cell hg]; exact hc 0 u rfl
    · rw [blk_cell hg]; exact hc 1 x rfl
    · rw [Array.toList_setIfInBounds, List.drop_set, if_neg (by omega), show o * 2 + 1 - o * 2 = 1 by omega, List.take_set, htake]
      rfl
end Go.Proofs.Ytcdanimdkkhamaa
