/- Steps and frames that came in: how the walk of a law meets them. -/
import Derived.Test.YtmhdckpmkgkglaaR1
import Derived.ChangeArms
import Derived.ChangeSlices
import Derived.Deep.Slices
import Derived.Deep.Strs
set_option linter.unusedVariables false
set_option linter.unusedSimpArgs false
namespace Go.Proofs.Ytmhdckpmkgkglaa
open Go.RowKit Go.ChangeShapes

/-- A row of bytes that came in, whatever it holds. -/
def RowIn (w : World) (v : Value) : Prop := ∃ a len cap zs, v = .slice a len cap ∧ IsRow8 w a len cap zs

/-- A step that came in: eight cells. -/
structure StepIn (w : World) (p : Addr) (k a kd s q c : Int) (A : Option Addr) (n cp : Nat) (z : List Int) (own : Bool) : Prop where
  c0 : w.cell? p = some (.int .i64 k)
  c1 : w.cell? (p.add 1) = some (.int .u8 a)
  c2 : w.cell? (p.add 2) = some (.int .u8 kd)
  c3 : w.cell? (p.add 3) = some (.int .u8 s)
  c4 : w.cell? (p.add 4) = some (.int .u8 q)
  c5 : w.cell? (p.add 5) = some (.int .u8 c)
  c6 : w.cell? (p.add 6) = some (.slice A n cp)
  c7 : w.cell? (p.add 7) = some (.bool own)
  row : IsRow8 w A n cp z
  num : 0 ≤ s ∧ s ≤ 255

def StepsIn (w : World) (a : Option Addr) (len cap : Nat) : Prop :=
  (a = none ∧ len = 0 ∧ cap = 0) ∨
  ∃ x, a = some x ∧ len ≤ cap ∧ cap ≤ maxLen ∧ ∀ i, i < len → ∃ k a kd s q c A n cp z own, StepIn w (x.add (i * 8)) k a kd s q c A n cp z own

section
variable {H : Type} {enc : TypeId × Value → H} {w : World} {held : Bool}
theorem row_in {fuel : Nat} {cs : List Value} {d : DataW H × List MemPlace} (h : DataW.trod enc Try.prog w 0 (fun _ => true) held fuel 22 cs = some d) :
    ∃ a n c z, cs = [.slice a n c] ∧ IsRow8 w a n c z := by
  rcases open_ints Try.underlying22 Try.underlying5 (by kernel_rfl) h with ⟨hcs, _⟩ | ⟨x, l, c, zs, hcs, _, hl, hm, hz, _, hcell, hwz⟩
  · exact ⟨none, 0, 0, [], hcs, .inl ⟨rfl, rfl, rfl, rfl⟩⟩
  · exact ⟨some x, l, c, zs, hcs, .inr ⟨x, rfl, hl, hm, by simpa using hz, hcell, hwz⟩⟩

theorem frame_in {fuel : Nat} {cs : List Value} {d : DataW H × List MemPlace} (h : DataW.trod enc Try.prog w 0 (fun _ => true) held fuel 29 cs = some d) :
    ∃ a k s q c A n cp z, cs = [.int .u8 a, .int .u8 k, .int .u8 s, .int .u8 q, .int .u8 c, .slice A n cp] ∧ IsRow8 w A n cp z ∧ 0 ≤ s ∧ s ≤ 255 := by
  obtain ⟨xs, m, _, _, hl, hlen, hf⟩ := DataW.trod_struct Try.underlying29 h
  have hc : Try.prog.cellsOf 29 = 6 := by kernel_rfl
  have h5 : Try.prog.cellsOf 5 = 1 := by kernel_rfl
  have h22 : Try.prog.cellsOf 22 = 1 := by kernel_rfl
  rw [hc] at hl
  match cs, hl with
  | [u0, u1, u2, u3, u4, u5], _ =>
    match xs, hlen with
    | [y0, y1, y2, y3, y4, y5], _ =>
      have f0 := hf 0 _ rfl
      have f1 := hf 1 _ rfl
      have f2 := hf 2 _ rfl
      have f3 := hf 3 _ rfl
      have f4 := hf 4 _ rfl
      have f5 := hf 5 _ rfl
      simp [h5, h22] at f0 f1 f2 f3 f4 f5
      obtain ⟨n0, e0, _⟩ := DataW.trod_int Try.underlying5 f0
      obtain ⟨n1, e1, _⟩ := DataW.trod_int Try.underlying5 f1
      obtain ⟨n2, e2, _, w2⟩ := DataW.trod_int Try.underlying5 f2
      obtain ⟨n3, e3, _⟩ := DataW.trod_int Try.underlying5 f3
      obtain ⟨n4, e4, _⟩ := DataW.trod_int Try.underlying5 f4
      obtain ⟨A, n, c, z, e5, hr⟩ := row_in f5
      simp only [List.cons.injEq, and_true] at e0 e1 e2 e3 e4 e5
      have := wf_u8 w2
      exact ⟨n0, n1, n2, n3, n4, A, n, c, z, by rw [e0, e1, e2, e3, e4, e5], hr, this.1, this.2⟩

theorem steps_in {fuel : Nat} {a : Option Addr} {len cap : Nat} {d : DataW H × List MemPlace} (h : DataW.trod enc Try.prog w 0 (fun _ => true) held fuel 34 [.slice a len cap] = some d) :
    StepsIn w a len cap := by
  rcases Deep.open_slice Try.underlying34 h with ⟨hcs, _⟩ | ⟨x, l, c, m, n, D, Pl, hcs, _, hl, hm, hmm, _, hx⟩
  · simp only [List.cons.injEq, and_true, Value.slice.injEq] at hcs
    exact .inl hcs
  · simp only [List.cons.injEq, and_true, Value.slice.injEq] at hcs
    obtain ⟨rfl, rfl, rfl⟩ := hcs
    have hc : Try.prog.cellsOf 38 = 8 := by kernel_rfl
    have h29 : Try.prog.cellsOf 29 = 6 := by kernel_rfl
    have h3 : Try.prog.cellsOf 3 = 1 := by kernel_rfl
    have h4 : Try.prog.cellsOf 4 = 1 := by kernel_rfl
    refine .inr ⟨x, rfl, hl, hm, fun i hi => ?_⟩
    have hi' : i < m := by rw [hmm]; simp; omega
    obtain ⟨cs, h1, h2⟩ := hx i hi'
    rw [hc] at h1
    obtain ⟨_, hlen, hcell⟩ := World.cells?_some h1
    obtain ⟨y0, y1, y2, k, _, _, f0, f1, f2⟩ := Deep.trod_struct3 Try.underlying38 h2
    match cs, hlen with
    | [u0, u1, u2, u3, u4, u5, u6, u7], _ =>
      simp [h29, h3, h4] at f0 f1 f2
      obtain ⟨n0, e0, _⟩ := DataW.trod_int Try.underlying3 f0
      obtain ⟨ad, kd, s, q, c, A, n, cp, z, e1, hr, hs1, hs2⟩ := frame_in f1
      obtain ⟨b, e2, _⟩ := DataW.trod_bool Try.underlying4 f2
      simp only [List.cons.injEq, and_true] at e0 e1 e2
      obtain ⟨g1, g2, g3, g4, g5, g6⟩ := e1
      have c0 := hcell 0 (by omega)
      have c1 := hcell 1 (by omega)
      have c2 := hcell 2 (by omega)
      have c3 := hcell 3 (by omega)
      have c4 := hcell 4 (by omega)
      have c5 := hcell 5 (by omega)
      have c6 := hcell 6 (by omega)
      have c7 := hcell 7 (by omega)
      simp [e0, e2, g1, g2, g3, g4, g5, g6] at c0 c1 c2 c3 c4 c5 c6 c7
      exact ⟨n0, ad, kd, s, q, c, A, n, cp, z, b, ⟨by simpa [Addr.add] using c0, c1, c2, c3, c4, c5, c6, c7, hr, hs1, hs2⟩⟩
end

theorem IsRow8.below {w w1 : World} {B : Nat} {a : Option Addr} {len cap : Nat} {zs : List Int} (h : IsRow8 w a len cap zs) (hb : Below w.heap.size w w1) : IsRow8 w1 a len cap zs := by
  rcases h with h | ⟨x, h1, h2, h3, h4, hc, h5⟩
  · exact .inl h
  · exact .inr ⟨x, h1, h2, h3, h4, fun i hi => (hb.cell (World.block_lt_of_cell? w _ (hc i hi))).trans (hc i hi), h5⟩
theorem StepIn.below {w w1 : World} {p : Addr} {k a kd s q c : Int} {A : Option Addr} {n cp : Nat} {z : List Int} {own : Bool} (h : StepIn w p k a kd s q c A n cp z own) (hb : Below w.heap.size w w1) :
    StepIn w1 p k a kd s q c A n cp z own := by
  have f : ∀ {q v}, w.cell? q = some v → w1.cell? q = some v := fun hc => (hb.cell (World.block_lt_of_cell? w _ hc)).trans hc
  exact ⟨f h.c0, f h.c1, f h.c2, f h.c3, f h.c4, f h.c5, f h.c6, f h.c7, h.row.below hb (B := 0), h.num⟩
theorem IsRow8.cut {w : World} {a : Option Addr} {len cap m : Nat} {zs : List Int} (h : IsRow8 w a len cap zs) (hm : m ≤ len) : IsRow8 w a m cap zs := by
  rcases h with ⟨h1, h2, h3, h4⟩ | ⟨x, h1, h2, h3⟩
  · exact .inl ⟨h1, by omega, h3, h4⟩
  · exact .inr ⟨x, h1, by omega, h3⟩
theorem IsRow8.cap {w : World} {a : Option Addr} {len cap : Nat} {zs : List Int} (h : IsRow8 w a len cap zs) : len ≤ cap ∧ cap ≤ 9223372036854775807 := by
  rcases h with ⟨_, h1, h2, _⟩ | ⟨x, _, h1, h2, _⟩
  · omega
  · unfold maxLen at h2; exact ⟨h1, h2⟩
theorem IsRow8.notIn {w : World} {a : Option Addr} {len cap m c : Nat} {zs : List Int} (h : IsRow8 w a len cap zs) {g : Nat} (hg : w.heap.size ≤ g) : NotIn g (.slice a m c) (toB (zs.take m)) := by
  rintro ad n c' e hl
  injection e with e1 e2 e3
  rcases h with ⟨_, _, _, rfl⟩ | ⟨x, h1, _, _, _, hc, _⟩
  · simp [toB] at hl
  · obtain rfl : x = ad := by simpa [h1] using e1
    have hz : 0 < zs.length := by
      rcases Nat.eq_zero_or_pos zs.length with h0 | h0
      · exact absurd (by simp [toB, List.length_eq_zero_iff.1 h0]) hl
      · exact h0
    have := World.block_lt_of_cell? w _ (hc 0 hz)
    simp only [Addr.add] at this
    intro hb
    simp [hb] at this
    omega
end Go.Proofs.Ytmhdckpmkgkglaa
