/- Steps that came in; what the laws' walks share. -/
import Derived.Test.YtcdanimdkkhamaaWy
set_option linter.unusedVariables false
set_option linter.unusedSimpArgs false
namespace Go.Proofs.Ytcdanimdkkhamaa
open Go.RowKit Go.ChangeShapes Go.WideShapes

/-- A step that came in: six cells. -/
structure StepIn (w : World) (p : Addr) (kd : Int) (A : Option Addr) (n c : Nat) (z : List Int) (fk fn fx : Int) (A' : Option Addr) (n' c' : Nat) (z' : List Int) : Prop where
  c0 : w.cell? p = some (.int .i64 kd)
  c1 : w.cell? (p.add 1) = some (.slice A n c)
  c2 : w.cell? (p.add 2) = some (.int .i64 fk)
  c3 : w.cell? (p.add 3) = some (.int .i64 fn)
  c4 : w.cell? (p.add 4) = some (.int .u8 fx)
  c5 : w.cell? (p.add 5) = some (.slice A' n' c')
  row : IsRow8 w A n c z
  row' : IsRow8 w A' n' c' z'
  num : fn ≤ 9223372036854775807 ∧ 0 ≤ fx ∧ fx ≤ 255
def StepsIn (w : World) (a : Option Addr) (len cap : Nat) : Prop :=
  (a = none ∧ len = 0 ∧ cap = 0) ∨
  ∃ x, a = some x ∧ len ≤ cap ∧ cap ≤ maxLen ∧ ∀ i, i < len → ∃ kd A n c z fk fn fx A' n' c' z', StepIn w (x.add (i * 6)) kd A n c z fk fn fx A' n' c' z'
theorem wf_i64 {n : Int} (h : (Lit.int .i64 n).wf = true) : -9223372036854775808 ≤ n ∧ n ≤ 9223372036854775807 := by
  have := bounds_i64 h
  omega
section
variable {H : Type} {enc : TypeId × Value → H} {w : World} {held : Bool}
theorem fault_in {fuel : Nat} {cs : List Value} {d : DataW H × List MemPlace} (h : DataW.trod enc Try.prog w 0 (fun _ => true) held fuel 30 cs = some d) :
    ∃ fk fn fx A n c z, cs = [.int .i64 fk, .int .i64 fn, .int .u8 fx, .slice A n c] ∧ IsRow8 w A n c z ∧ fn ≤ 9223372036854775807 ∧ 0 ≤ fx ∧ fx ≤ 255 := by
  obtain ⟨xs, m, _, _, hl, hlen, hf⟩ := DataW.trod_struct Try.underlying30 h
  have hc : Try.prog.cellsOf 30 = 4 := by kernel_rfl
  have h5 : Try.prog.cellsOf 5 = 1 := by kernel_rfl
  have h3 : Try.prog.cellsOf 3 = 1 := by kernel_rfl
  have h28 : Try.prog.cellsOf 28 = 1 := by kernel_rfl
  rw [hc] at hl
  match cs, hl with
  | [u0, u1, u2, u3], _ =>
    match xs, hlen with
    | [y0, y1, y2, y3], _ =>
      have f0 := hf 0 _ rfl
      have f1 := hf 1 _ rfl
      have f2 := hf 2 _ rfl
      have f3 := hf 3 _ rfl
      simp [h5, h3, h28] at f0 f1 f2 f3
      obtain ⟨n0, e0, _⟩ := DataW.trod_int Try.underlying3 f0
      obtain ⟨n1, e1, _, w1⟩ := DataW.trod_int Try.underlying3 f1
      obtain ⟨n2, e2, _, w2⟩ := DataW.trod_int Try.underlying5 f2
      obtain ⟨A, n, c, z, e3, hr⟩ := row_in f3
      simp only [List.cons.injEq, and_true] at e0 e1 e2 e3
      have b2 := wf_u8 w2
      have b1 := wf_i64 w1
      exact ⟨n0, n1, n2, A, n, c, z, by rw [e0, e1, e2, e3], hr, b1.2, b2.1, b2.2⟩
theorem steps_in {fuel : Nat} {a : Option Addr} {len cap : Nat} {d : DataW H × List MemPlace} (h : DataW.trod enc Try.prog w 0 (fun _ => true) held fuel 22 [.slice a len cap] = some d) :
    StepsIn w a len cap := by
  rcases Deep.open_slice Try.underlying22 h with ⟨hcs, _⟩ | ⟨x, l, c, m, n, D, Pl, hcs, _, hl, hm, hmm, _, hx⟩
  · simp only [List.cons.injEq, and_true, Value.slice.injEq] at hcs
    exact .inl hcs
  · simp only [List.cons.injEq, and_true, Value.slice.injEq] at hcs
    obtain ⟨rfl, rfl, rfl⟩ := hcs
    have hc : Try.prog.cellsOf 32 = 6 := by kernel_rfl
    have h30 : Try.prog.cellsOf 30 = 4 := by kernel_rfl
    have h3 : Try.prog.cellsOf 3 = 1 := by kernel_rfl
    have h28 : Try.prog.cellsOf 28 = 1 := by kernel_rfl
    refine .inr ⟨x, rfl, hl, hm, fun i hi => ?_⟩
    have hi' : i < m := by rw [hmm]; simp; omega
    obtain ⟨cs, h1, h2⟩ := hx i hi'
    rw [hc] at h1
    obtain ⟨_, hlen, hcell⟩ := World.cells?_some h1
    obtain ⟨y0, y1, y2, k, _, _, f0, f1, f2⟩ := Deep.trod_struct3 Try.underlying32 h2
    match cs, hlen with
    | [u0, u1, u2, u3, u4, u5], _ =>
      simp [h30, h3, h28] at f0 f1 f2
      obtain ⟨n0, e0, _⟩ := DataW.trod_int Try.underlying3 f0
      obtain ⟨A, n, c, z, e1, hr⟩ := row_in f1
      obtain ⟨fk, fn, fx, A', n', c', z', e2, hr', hb⟩ := fault_in f2
      simp only [List.cons.injEq, and_true] at e0 e1 e2
      obtain ⟨g2, g3, g4, g5⟩ := e2
      have c0 := hcell 0 (by omega)
      have c1 := hcell 1 (by omega)
      have c2 := hcell 2 (by omega)
      have c3 := hcell 3 (by omega)
      have c4 := hcell 4 (by omega)
      have c5 := hcell 5 (by omega)
      simp [e0, e1, g2, g3, g4, g5] at c0 c1 c2 c3 c4 c5
      exact ⟨n0, A, n, c, z, fk, fn, fx, A', n', c', z', ⟨by simpa [Addr.add] using c0, c1, c2, c3, c4, c5, hr, hr', hb⟩⟩
end
/-- A fault that is handed in by value, as it came in. -/
def FaultIn (w : World) (v : Value) : Prop :=
  ∃ fk fn fx A n c z, v = .agg #[.int .i64 fk, .int .i64 fn, .int .u8 fx, .slice A n c] ∧ IsRow8 w A n c z ∧ fn ≤ 9223372036854775807 ∧ 0 ≤ fx ∧ fx ≤ 255
theorem fault_v {H : Type} {enc : TypeId × Value → H} {W : World} {base fuel : Nat} {held : Bool} {v : Value} {d : DataW H × List MemPlace}
    (hv : Value.okWide Try.prog W .any base 30 v) (hf : DataW.trod enc Try.prog W 0 (fun _ => true) held fuel 30 v.cells.toList = some d) : FaultIn W v := by
  obtain ⟨cs, rfl, hsz⟩ := okWide_struct Try.underlying30 hv
  obtain ⟨fk, fn, fx, A, n, c, z, he, hr, h1, h2, h3⟩ := fault_in hf
  refine ⟨fk, fn, fx, A, n, c, z, ?_, hr, h1, h2, h3⟩
  have : cs.toList = [.int .i64 fk, .int .i64 fn, .int .u8 fx, .slice A n c] := he
  rw [← Array.toArray_toList (xs := cs), this]
theorem fault_of {w : World} {fk fn fx : Int} {A : Option Addr} {n c : Nat} {z : List Int} (h : IsRow8 w A n c z) (h1 : fn ≤ 9223372036854775807) (h2 : 0 ≤ fx) (h3 : fx ≤ 255) :
    ∃ f : FT, f.kind = fk ∧ f.n = fn ∧ f.x = fx ∧ f.b.length = n ∧ FaultV w (.agg #[.int .i64 fk, .int .i64 fn, .int .u8 fx, .slice A n c]) f := by
  have hr := ReadsF.of_row h
  obtain ⟨A', c', he, _⟩ := id hr
  injection he with e1 e2 e3
  refine ⟨⟨fk, fn, fx, toB (z.take n)⟩, rfl, rfl, rfl, e2.symm, A, c, ?_, ?_, h1, h2, h3⟩
  · simp only []; rw [← e2]
  · simp only []; rw [← e2]; exact hr

theorem WireAt.lower {w : World} {B B' g room : Nat} {l : List (List UInt8 × Nat)} (h : WireAt w B g room l) (hB : B' ≤ B) : WireAt w B' g room l := by
  obtain ⟨v, us, hl, hg, ho, hr⟩ := h.ex
  exact ⟨by have := h.ge; omega, h.rm, h.hh, v, us, hl, hg, off_lower ho hB, fun i u p hu hp => own_lower (hr i u p hu hp) hB⟩
theorem RefAt.lower {w : World} {B B' g room : Nat} {l : List (List UInt8 × Nat)} (h : RefAt w B g room l) (hB : B' ≤ B) : RefAt w B' g room l := by
  obtain ⟨v, hg, ho⟩ := h.ex
  exact ⟨by have := h.ge; omega, h.rm, h.hh, v, hg, off_lower ho hB⟩
theorem room_of (n : Int) (h : n ≤ 9223372036854775807) : ∃ room : Nat, (if n < 1 then 1 else n) = (room : Int) ∧ 1 ≤ room ∧ room ≤ 9223372036854775807 := by
  by_cases h1 : n < 1
  · exact ⟨1, by rw [if_pos h1]; rfl, by omega, by omega⟩
  · exact ⟨n.toNat, by rw [if_neg h1]; omega, by omega, by omega⟩
theorem put_len {room : Nat} {l l' : List (List UInt8 × Nat)} {f : FT} {b : List UInt8} {n : Int} (h : putF room l f b = (n, l')) : l'.length ≤ l.length + 2 := by
  unfold putF at h
  split at h
  · cases h; omega
  · cases h
    have := f.of_len b
    simp [heldF_len]
    omega
theorem take_len (l : List (List UInt8 × Nat)) : (takeF l).2.length ≤ l.length := by
  unfold takeF
  split
  · simp
  · have := out_len l
    simp only
    omega
theorem rm_of {w : World} {B g room : Nat} {l : List (List UInt8 × Nat)} (h : WireAt w B g room l) : g < w.heap.size := h.lt
/-- What is on the way is small. -/
def Small (l : List (List UInt8 × Nat)) : Prop := ∀ p ∈ l, p.1.length ≤ 200
theorem Small.put {room : Nat} {l l' : List (List UInt8 × Nat)} {f : FT} {b : List UInt8} {n : Int} (hs : Small l) (hb : b.length ≤ 200) (h : putF room l f b = (n, l')) : Small l' := by
  have he : ∀ k y, (editF b k y).length = b.length := fun k y => by simp [editF]
  have ht : ∀ k, (b.take k).length ≤ b.length := fun k => by simp; omega
  have hn : (f.b.take 64).length ≤ 64 := by simp; omega
  have ho : ∀ x ∈ f.of b, x.length ≤ 200 := by
    intro x hx
    unfold FT.of at hx
    split at hx
    · simp at hx
    split at hx
    · simp at hx; subst hx; omega
    split at hx
    · simp only [List.mem_singleton] at hx
      split at hx
      · subst hx; omega
      · subst hx; rw [he]; omega
    split at hx
    · simp only [List.mem_singleton] at hx
      subst hx; have := ht f.pos; omega
    split at hx
    · simp only [List.mem_cons, List.not_mem_nil, or_false] at hx
      rcases hx with rfl | rfl <;> omega
    · simp at hx; subst hx; omega
  unfold putF at h
  split at h
  · cases h; exact hs
  · cases h
    intro p hp
    rcases List.mem_append.1 hp with hp | hp
    · exact hs p hp
    · refine ho p.1 ?_
      rw [← heldF_fst (f.of b) f.held]
      exact List.mem_map_of_mem hp
theorem out_small {l : List (List UInt8 × Nat)} (hs : Small l) : ∀ b ∈ outF l, b.length ≤ 200 := by
  induction l with
  | nil => intro b hb; simp [outF] at hb
  | cons p r ih =>
    obtain ⟨c, h⟩ := p
    intro b hb
    simp only [outF] at hb
    split at hb
    · rcases List.mem_cons.1 hb with rfl | hb
      · exact hs (b, h) (by simp)
      · exact ih (fun q hq => hs q (List.mem_cons_of_mem _ hq)) b hb
    · simp at hb
theorem take_small {l : List (List UInt8 × Nat)} (hs : Small l) : (∀ b ∈ (takeF l).1, b.length ≤ 200) ∧ Small (takeF l).2 := by
  unfold takeF
  split
  · rename_i b h r
    refine ⟨fun b hb => by simp at hb, fun p hp => ?_⟩
    rcases List.mem_cons.1 hp with rfl | hp
    · exact hs (b, h + 1) (by simp)
    · exact hs p (List.mem_cons_of_mem _ hp)
  · exact ⟨out_small hs, fun p hp => hs p (rest_mem l p hp)⟩
theorem take_out_len (l : List (List UInt8 × Nat)) : (takeF l).1.length ≤ l.length := by
  unfold takeF
  split
  · simp
  · have := out_len l
    simp only
    omega
end Go.Proofs.Ytcdanimdkkhamaa
