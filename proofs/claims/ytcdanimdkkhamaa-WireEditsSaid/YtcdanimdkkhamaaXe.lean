/- Rows of bytes that came in, cut to two hundred; the walks of WireHeld and WireFull share this. -/
import Derived.Test.YtcdanimdkkhamaaXc
set_option linter.unusedVariables false
set_option linter.unusedSimpArgs false
namespace Go.Proofs.Ytcdanimdkkhamaa
open Go.RowKit Go.ChangeShapes Go.WideShapes

def RowsIn (w : World) (a : Option Addr) (len cap : Nat) : Prop :=
  (a = none ∧ len = 0 ∧ cap = 0) ∨
  ∃ x, a = some x ∧ len ≤ cap ∧ cap ≤ maxLen ∧ ∀ i, i < len → ∃ A n c z, w.cell? (x.add i) = some (.slice A n c) ∧ IsRow8 w A n c z
theorem rows_in {H : Type} {enc : TypeId × Value → H} {w : World} {held : Bool} {fuel : Nat} {a : Option Addr} {len cap : Nat} {d : DataW H × List MemPlace} (h : DataW.trod enc Try.prog w 0 (fun _ => true) held fuel 35 [.slice a len cap] = some d) :
    RowsIn w a len cap := by
  rcases Deep.open_slice Try.underlying35 h with ⟨hcs, _⟩ | ⟨x, l, c, m, n, D, Pl, hcs, _, hl, hm, hmm, _, hx⟩
  · simp only [List.cons.injEq, and_true, Value.slice.injEq] at hcs
    exact .inl hcs
  · simp only [List.cons.injEq, and_true, Value.slice.injEq] at hcs
    obtain ⟨rfl, rfl, rfl⟩ := hcs
    have hc : Try.prog.cellsOf 28 = 1 := by kernel_rfl
    refine .inr ⟨x, rfl, hl, hm, fun i hi => ?_⟩
    have hi' : i < m := by rw [hmm]; simp; omega
    obtain ⟨cs, h1, h2⟩ := hx i hi'
    rw [hc] at h1
    obtain ⟨_, hlen, hcell⟩ := World.cells?_some h1
    match cs, hlen with
    | [u0], _ =>
      obtain ⟨A, n, c, z, e1, hr⟩ := row_in h2
      simp only [List.cons.injEq, and_true] at e1
      have c0 := hcell 0 (by omega)
      simp [e1] at c0
      exact ⟨A, n, c, z, by simpa [Addr.add] using c0, hr⟩
theorem list_choose {α : Type} (P : Nat → α → Prop) (m : Nat) (h : ∀ i, i < m → ∃ b, P i b) : ∃ ts : List α, ts.length = m ∧ ∀ i b, ts[i]? = some b → P i b := by
  induction m with
  | zero => exact ⟨[], rfl, fun i b h => by simp at h⟩
  | succ m ih =>
    obtain ⟨ts, h1, h2⟩ := ih (fun i hi => h i (by omega))
    obtain ⟨b, hb⟩ := h m (by omega)
    refine ⟨ts ++ [b], by simp [h1], fun i b' hb' => ?_⟩
    by_cases hi : i < ts.length
    · rw [List.getElem?_append_left hi] at hb'
      exact h2 i b' hb'
    · have hi' : i = m := by
        have := (List.getElem?_eq_some_iff.1 hb').1
        simp at this
        omega
      subst hi'
      rw [List.getElem?_append_right (by omega)] at hb'
      simp [h1] at hb'
      subst hb'
      exact hb
/-- The i-th row, cut. -/
def FewAt (w : World) (x : Addr) (i : Nat) (b : List UInt8) : Prop :=
  ∃ A n c m, w.cell? (x.add i) = some (.slice A n c) ∧ n ≤ c ∧ c ≤ 9223372036854775807 ∧ m ≤ n ∧ (if (200 : Int) < (n : Int) then (200 : Int) else (n : Int)) = (m : Int) ∧ ReadsB w (.slice A m c) b ∧ b.length = m ∧ m ≤ 200
theorem few_at {w : World} {x : Addr} {i : Nat} (h : ∃ A n c z, w.cell? (x.add i) = some (.slice A n c) ∧ IsRow8 w A n c z) : ∃ b, FewAt w x i b := by
  obtain ⟨A, n, c, z, hc, hr⟩ := h
  obtain ⟨m, hm1, hm2, hmin⟩ : ∃ m : Nat, m ≤ n ∧ m ≤ 200 ∧ (if (200 : Int) < (n : Int) then (200 : Int) else (n : Int)) = (m : Int) := by
    by_cases h : 200 < n
    · exact ⟨200, by omega, by omega, by rw [if_pos (by omega)]; rfl⟩
    · exact ⟨n, by omega, by omega, by rw [if_neg (by omega)]⟩
  have hrd := row_reads (hr.cut hm1) (by omega)
  have hbl : (toB (z.take m)).length = m := by
    obtain ⟨_, _, he, _⟩ := id hrd
    injection he with _ e2 _
    exact e2.symm
  exact ⟨_, A, n, c, m, hc, hr.cap.1, hr.cap.2, hm1, hmin, hrd, hbl, hm2⟩
theorem FewAt.below {w w1 : World} {x : Addr} {i : Nat} {b : List UInt8} (h : FewAt w x i b) (hb : Below w.heap.size w w1) : FewAt w1 x i b := by
  obtain ⟨A, n, c, m, h1, h2, h3, h4, h5, h6, h7⟩ := h
  exact ⟨A, n, c, m, (hb.cell (World.block_lt_of_cell? w _ h1)).trans h1, h2, h3, h4, h5, h6.below hb, h7⟩
/-- All of them. -/
theorem few_all {w : World} {a : Option Addr} {len cap : Nat} (h : RowsIn w a len cap) (m : Nat) (hm : m ≤ len) : len ≤ 9223372036854775807 ∧
    ∃ ts : List (List UInt8), ts.length = m ∧ (∀ b ∈ ts, b.length ≤ 200) ∧ (0 < len → ∃ x, a = some x ∧ ∀ i b, ts[i]? = some b → FewAt w x i b) := by
  rcases h with ⟨h1, h2, h3⟩ | ⟨x, rfl, hl, hc, hx⟩
  · exact ⟨by omega, [], by simp; omega, by simp, fun h => by omega⟩
  · obtain ⟨ts, h1, h2⟩ := list_choose (FewAt w x) m (fun i hi => few_at (hx i (by omega)))
    refine ⟨by unfold maxLen at hc; omega, ts, h1, fun b hb => ?_, fun _ => ⟨x, rfl, h2⟩⟩
    obtain ⟨i, hi, rfl⟩ := List.getElem_of_mem hb
    obtain ⟨_, _, _, _, _, _, _, _, _, _, h7, h8⟩ := h2 i _ (List.getElem?_eq_getElem hi)
    omega
def pass (ts : List (List UInt8)) : List (List UInt8 × Nat) := ts.map fun b => (b, 0)
theorem pass_len (ts : List (List UInt8)) : (pass ts).length = ts.length := by simp [pass]
theorem out_pass (ts : List (List UInt8)) : outF (pass ts) = ts ∧ restF (pass ts) = [] := by
  induction ts with
  | nil => exact ⟨rfl, rfl⟩
  | cons b r ih => exact ⟨by simp only [pass, List.map_cons, outF, if_true]; rw [show outF (List.map (fun b => (b, 0)) r) = outF (pass r) from rfl, ih.1], by simp only [pass, List.map_cons, restF, if_true]; exact ih.2⟩
theorem take_pass (ts : List (List UInt8)) : takeF (pass ts) = (ts, []) := by
  cases ts with
  | nil => rfl
  | cons b r =>
    show (outF (pass (b :: r)), restF (pass (b :: r))) = _
    rw [(out_pass _).1, (out_pass _).2]
theorem take_first (b : List UInt8) (ts : List (List UInt8)) : takeF ((b, 0) :: pass ts) = (b :: ts, []) := take_pass (b :: ts)
theorem put_pass (room : Nat) (l : List (List UInt8 × Nat)) (b : List UInt8) : putF room l ⟨0, 0, 0, []⟩ b = if l.length + 1 ≤ room then (0, l ++ [(b, 0)]) else (5, l) := by
  unfold putF
  simp only [FT.of, FT.held, heldF]
  by_cases h : l.length + 1 ≤ room
  · rw [if_pos h]
    simp
    omega
  · rw [if_neg h]
    simp
    omega
theorem pass_snoc (ts : List (List UInt8)) (k : Nat) (b : List UInt8) (h : ts[k]? = some b) : pass (ts.take (k + 1)) = pass (ts.take k) ++ [(b, 0)] := by
  rw [List.take_add_one, h]
  simp [pass]
theorem getD_of {ts : List (List UInt8)} {k : Nat} (hk : k < ts.length) : ts[k]? = some (ts.getD k []) := by
  rw [List.getD, List.getElem?_eq_getElem hk]; rfl
end Go.Proofs.Ytcdanimdkkhamaa
