/- What came in; what the laws' walks share. -/
import Derived.Test.YtmkbleeideddkaaPh
import Derived.Test.YtmkbleeideddkaaWa
set_option linter.unusedVariables false
set_option linter.unusedSimpArgs false
namespace Go.Proofs.Ytmkbleeideddkaa
open Go.RowKit Go.ChangeShapes Go.WideShapes

def BoolsIn (w : World) (a : Option Addr) (len cap : Nat) : Prop :=
  (a = none ∧ len = 0 ∧ cap = 0) ∨ ∃ x, a = some x ∧ len ≤ cap ∧ cap ≤ maxLen ∧ ∀ i, i < len → ∃ b, w.cell? (x.add i) = some (.bool b)
def StepsIn (w : World) (a : Option Addr) (len cap : Nat) : Prop :=
  (a = none ∧ len = 0 ∧ cap = 0) ∨ ∃ x, a = some x ∧ len ≤ cap ∧ cap ≤ maxLen ∧ ∀ i, i < len → ∃ kd y now, w.cell? (x.add (i * 3)) = some (.int .i64 kd) ∧ w.cell? ((x.add (i * 3)).add 1) = some (.int .u8 y) ∧ w.cell? ((x.add (i * 3)).add 2) = some (.int .i64 now) ∧ (0 ≤ y ∧ y ≤ 255) ∧ I64 now
theorem wf_i64 {n : Int} (h : (Lit.int .i64 n).wf = true) : -9223372036854775808 ≤ n ∧ n ≤ 9223372036854775807 := by
  have := bounds_i64 h
  omega
section
variable {H : Type} {enc : TypeId × Value → H} {w : World} {held : Bool}
theorem bools_in {fuel : Nat} {a : Option Addr} {len cap : Nat} {d : DataW H × List MemPlace} (h : DataW.trod enc Try.prog w 0 (fun _ => true) held fuel 44 [.slice a len cap] = some d) : BoolsIn w a len cap := by
  rcases Deep.open_slice1 Try.underlying44 (by kernel_rfl) h with ⟨hcs, _⟩ | ⟨x, l, c, m, n, V, D, Pl, hcs, _, hl, hm, hmm, _, hx⟩
  · simp only [List.cons.injEq, and_true, Value.slice.injEq] at hcs
    exact .inl hcs
  · simp only [List.cons.injEq, and_true, Value.slice.injEq] at hcs
    obtain ⟨rfl, rfl, rfl⟩ := hcs
    refine .inr ⟨x, rfl, hl, hm, fun i hi => ?_⟩
    obtain ⟨h1, h2⟩ := hx i (by rw [hmm]; simp; omega)
    obtain ⟨b, e, _⟩ := DataW.trod_bool Try.underlying4 h2
    simp only [List.cons.injEq, and_true] at e
    exact ⟨b, e ▸ h1⟩
theorem steps_in {fuel : Nat} {a : Option Addr} {len cap : Nat} {d : DataW H × List MemPlace} (h : DataW.trod enc Try.prog w 0 (fun _ => true) held fuel 23 [.slice a len cap] = some d) : StepsIn w a len cap := by
  rcases Deep.open_slice Try.underlying23 h with ⟨hcs, _⟩ | ⟨x, l, c, m, n, D, Pl, hcs, _, hl, hm, hmm, _, hx⟩
  · simp only [List.cons.injEq, and_true, Value.slice.injEq] at hcs
    exact .inl hcs
  · simp only [List.cons.injEq, and_true, Value.slice.injEq] at hcs
    obtain ⟨rfl, rfl, rfl⟩ := hcs
    have hc : Try.prog.cellsOf 30 = 3 := by kernel_rfl
    have h3 : Try.prog.cellsOf 3 = 1 := by kernel_rfl
    have h5 : Try.prog.cellsOf 5 = 1 := by kernel_rfl
    refine .inr ⟨x, rfl, hl, hm, fun i hi => ?_⟩
    obtain ⟨cs, h1, h2⟩ := hx i (by rw [hmm]; simp; omega)
    rw [hc] at h1
    obtain ⟨_, hlen, hcell⟩ := World.cells?_some h1
    obtain ⟨y0, y1, y2, k, _, _, f0, f1, f2⟩ := Deep.trod_struct3 Try.underlying30 h2
    match cs, hlen with
    | [u0, u1, u2], _ =>
      simp [h3, h5] at f0 f1 f2
      obtain ⟨n0, e0, _⟩ := DataW.trod_int Try.underlying3 f0
      obtain ⟨n1, e1, _, w1⟩ := DataW.trod_int Try.underlying5 f1
      obtain ⟨n2, e2, _, w2⟩ := DataW.trod_int Try.underlying3 f2
      simp only [List.cons.injEq, and_true] at e0 e1 e2
      have c0 := hcell 0 (by omega)
      have c1 := hcell 1 (by omega)
      have c2 := hcell 2 (by omega)
      simp [e0, e1, e2] at c0 c1 c2
      exact ⟨n0, n1, n2, by simpa [Addr.add] using c0, c1, c2, wf_u8 w1, wf_i64 w2⟩
end
theorem BoolsIn.below {w w1 : World} {a : Option Addr} {len cap : Nat} (h : BoolsIn w a len cap) (hb : Below w.heap.size w w1) : BoolsIn w1 a len cap := by
  rcases h with h | ⟨x, h1, h2, h3, h4⟩
  · exact .inl h
  · refine .inr ⟨x, h1, h2, h3, fun i hi => ?_⟩
    obtain ⟨b, h5⟩ := h4 i hi
    exact ⟨b, (hb.cell (World.block_lt_of_cell? w _ h5)).trans h5⟩
/-- The bools as they were, and are. -/
theorem bools_fun {w : World} {a : Option Addr} {len cap : Nat} (h : BoolsIn w a len cap) : len ≤ 9223372036854775807 ∧ (a = none → len = 0) ∧
    ∃ f : Nat → Bool, ∀ w1, Below w.heap.size w w1 → ∀ x, a = some x → ∀ i, i < len → w1.cell? (x.add i) = some (.bool (f i)) := by
  rcases h with ⟨rfl, h1, h2⟩ | ⟨x, rfl, h1, h2, h3⟩
  · exact ⟨by omega, fun _ => h1, fun _ => false, fun _ _ x hx => by cases hx⟩
  · refine ⟨by unfold maxLen at h2; omega, fun e => (by cases e), fun i => if hi : i < len then (h3 i hi).choose else false, fun w1 hb x' hx i hi => ?_⟩
    cases hx
    have h4 := (h3 i hi).choose_spec
    simp only [dif_pos hi]
    exact (hb.cell (World.block_lt_of_cell? w _ h4)).trans h4
/-- The addresses that came in. -/
theorem addrs_in {w : World} {a : Option Addr} {len cap : Nat} {z : List Int} (h : IsRow8 w a len cap z) : ∃ (m : Nat) (l : List UInt8), m ≤ len ∧ m ≤ 40 ∧ m ≤ cap ∧ len ≤ cap ∧ cap ≤ 9223372036854775807 ∧ l.length = m ∧ l.length ≤ 40 ∧ (if (40 : Int) < (len : Int) then (40 : Int) else (len : Int)) = (m : Int) ∧ ReadsB w (.slice a m cap) l := by
  obtain ⟨m, h1, h2, h3, h4⟩ := min_nat len 40
  have hc := h.cap
  have hr := row_reads (h.cut h1) (by omega)
  have hl : (toB (z.take m)).length = m := by
    obtain ⟨A', c', e, _⟩ := id hr
    injection e with e1 e2 e3
    exact e2.symm
  exact ⟨m, _, h1, h2, by omega, hc.1, hc.2, hl, by omega, h4, hr⟩
theorem own_kept {w w1 : World} {B B' t size n : Nat} {v : Value} {xs : List Value} {ts : List TypeId} (h : w.ownsRow B t size v n xs) (hk : Kept B' ts w w1) (ht : t ∉ ts) : w1.ownsRow B t size v n xs :=
  own_keep h fun k hkk => by
    obtain ⟨cs, fr, hh⟩ := own_ty h k hkk
    exact hk.block k (blk_lt hh) (.inr ⟨_, _, _, hh, ht⟩)
theorem own_cell {w : World} {B t n c i : Nat} {A : Option Addr} {xs : List Value} {u : Value} (h : w.ownsRow B t 1 (.slice A n c) n xs) (hi : i < n) (hx : xs[i]? = some u) :
    ∃ gr, A = some ⟨gr, 0, none⟩ ∧ n ≤ c ∧ c ≤ 9223372036854775807 ∧ w.cell? ⟨gr, i, none⟩ = some u := by
  rcases h.2 with ⟨_, h0⟩ | ⟨gr, cap, cur, he, hb, hh, h1, h2, h3, h4⟩
  · omega
  · cases he
    refine ⟨gr, rfl, h1, by unfold maxLen at h2; omega, ?_⟩
    have h5 := h.cells (g := gr) rfl i u hx
    have h6 : (⟨gr, 0, none⟩ : Addr).add i = ⟨gr, i, none⟩ := by unfold Addr.add; split <;> simp_all
    rwa [h6] at h5
theorem own_cap {w : World} {B t n c size : Nat} {A : Option Addr} {xs : List Value} (h : w.ownsRow B t size (.slice A n c) n xs) : c ≤ 9223372036854775807 ∧ n ≤ c := by
  rcases h.2 with ⟨he, h0⟩ | ⟨gr, cap, cur, he, hb, hh, h1, h2, h3, h4⟩
  · cases he
    exact ⟨by omega, by omega⟩
  · cases he
    exact ⟨by unfold maxLen at h2; omega, h1⟩
theorem addrV_get {l : List PP} {i : Nat} {p : PP} (h : l[i]? = some p) : (addrV l)[i]? = some (.int .u8 p.addr) := by unfold addrV; simp [h]
/-- A poll, and its addresses. -/
structure PAll (w wr : World) (g : Nat) (va : Value) (L : List PP) (P : PS) : Prop where
  be : Below w.heap.size w wr
  po : PollAt wr w.heap.size g P
  al : wr.ownsRow w.heap.size 5 1 va L.length (addrV L)
theorem PAll.kept {w wr w2 : World} {g : Nat} {va : Value} {L : List PP} {P P' : PS} (h : PAll w wr g va L P) (k : Kept w.heap.size [54, 58] wr w2) (hp : PollAt w2 w.heap.size g P') : PAll w w2 g va L P' :=
  ⟨h.be.trans (k.below h.be.size), hp, own_kept h.al k (by decide)⟩
theorem PAll.below {w wr w2 : World} {g : Nat} {va : Value} {L : List PP} {P : PS} (h : PAll w wr g va L P) (hb : Below wr.heap.size wr w2) : PAll w w2 g va L P :=
  ⟨h.be.trans (hb.mono h.be.size), h.po.below hb, own_below h.al hb⟩
/-- The start: a poll is made, and its addresses are told. -/
theorem PAll.start {w w1 w2 w3 : World} {va : Value} {P : PS} (h1 : Below w.heap.size w w1) (h2 : Below w1.heap.size w1 w2) (h3 : PollAt w2 w1.heap.size w1.heap.size P) (h4 : Below w2.heap.size w2 w3) (h5 : w3.ownsRow w2.heap.size 5 1 va P.row.length (addrV P.row)) : PAll w w3 w1.heap.size va P.row P :=
  ⟨(h1.trans (h2.mono h1.size)).trans (h4.mono (Nat.le_trans h1.size h2.size)), (h3.below h4).lower h1.size, own_lower h5 (Nat.le_trans h1.size h2.size)⟩
end Go.Proofs.Ytmkbleeideddkaa
