/- A frame stored into a box that stands. -/
import Derived.Test.YtmhdckpmkgkglaaMa
import Derived.Deep.RegionLaw
import Derived.Deep.RegionHeld3
set_option linter.unusedVariables false
set_option linter.unusedSimpArgs false
namespace Go.Proofs.Ytmhdckpmkgkglaa
open Go.RowKit

section
variable {P : Program}
theorem run_store6 (w : World) (t : TypeId) (i : TypeInfo) (hi : P.info? t = some i) (hsz : i.size = 6) (g : Nat) (cur : Array Value) (hg : w.heap[g]? = some (.cells cur t (0, 0))) (hcs : cur.size = 6) (u0 u1 u2 u3 u4 u5 : Value)
    (h1 : ∀ u ∈ [u0, u1, u2, u3, u4, u5], u.oneCell' = true) :
    ∃ w', (Instr.storeAt t (.pointer (some ⟨g, 0, none⟩)) (.agg #[u0, u1, u2, u3, u4, u5])).run P w = .ok () w' ∧ w'.heap[g]? = some (.cells #[u0, u1, u2, u3, u4, u5] t (0, 0)) ∧ w.grownBy w' (some g) := by
  have hst := run_storeCells_at P g 0 t [u0, u1, u2, u3, u4, u5] 0 cur w hg (by simp; omega) h1
  refine ⟨w.setRow g ([u0, u1, u2, u3, u4, u5] ++ cur.toList.drop 6).toArray, ?_, ?_, ⟨rfl, rfl, rfl, by simp, fun k _ hk => setRow_other w g k _ (fun e => hk (by simp [e]))⟩⟩
  · simp [Instr.storeAt, storeVar, sizeOf, typeInfo, hi, hsz, Value.cells, Instr.sureAddr] at hst ⊢
    exact hst
  · rw [setRow_heap w g cur _ t _ hg]
    have : cur.toList.drop 6 = [] := List.drop_eq_nil_of_le (by simp; omega)
    rw [this]
    rfl
theorem step_store6 {w : World} {ops : Array Oper} {o : Oper} {a : Act} {K : Act → World → Prop} {Q : Exit → Act → World → Prop} {E : Prop} (hgd : o.guard = none) (p x : Operand) (t : TypeId)
    (ho : o.op = .store t p x) (i : TypeInfo) (hi : P.info? t = some i) (hsz : i.size = 6) (g : Nat) (cur : Array Value) (hg : w.heap[g]? = some (.cells cur t (0, 0))) (hcs : cur.size = 6) (u0 u1 u2 u3 u4 u5 : Value)
    (hp : a.eval p = .pointer (some ⟨g, 0, none⟩)) (hx : a.eval x = .agg #[u0, u1, u2, u3, u4, u5]) (h1 : ∀ u ∈ [u0, u1, u2, u3, u4, u5], u.oneCell' = true)
    (h : ∀ w', w'.heap[g]? = some (.cells #[u0, u1, u2, u3, u4, u5] t (0, 0)) → w.grownBy w' (some g) → K (a.put o.dst undef) w') :
    if Region.wanted o (yielded ops a.tmps) = true then Oper.wp P o a w K Q else E := by
  have hw : Region.wanted o (yielded ops a.tmps) = true := by simp [Region.wanted, hgd]
  rw [if_pos hw]
  obtain ⟨w', hr, h2, h3⟩ := run_store6 (P := P) w t i hi hsz g cur hg hcs u0 u1 u2 u3 u4 u5 h1
  unfold Oper.wp execOp
  simp only [ho, hp, hx, Sem.run_bind, Sem.run_pure, hr, Result.andThen_ok]
  exact h w' h2 h3
end
theorem wpAnyH_mono {P : Program} {md : Region.Mode} {ops : Array Oper} {Q : Exit → Act → World → Prop} {S S' : World → Prop} (h : ∀ w, S' w → S w) : ∀ {fuel : Nat} {listed : Array Bool} {a : Act} {w : World}, wpAnyH P md ops Q S' fuel listed a w → wpAnyH P md ops Q S fuel listed a w := by
  intro fuel
  induction fuel with
  | zero => exact fun hh => hh
  | succ fuel ih => exact fun hh => ⟨hh.1, fun i hi => wpOp_mono (fun _ _ h' => ⟨h _ h'.1, ih h'.2⟩) (hh.2 i hi)⟩
section
variable {P : Program} {ops : Array Oper} {Q : Exit → Act → World → Prop} {md : Region.Mode} {S : World → Prop}
/-- An operation that only reads is taken first: told by its number and its slot. -/
theorem wpAnyH_takeD {i : Nat} {oi : Oper} {d : Option Tmp} {v : Value} {fuel : Nat} {listed : Array Bool} {a : Act} {w : World} (hi : ops[i]? = some oi) (hd : oi.dst = d)
    (hs : Region.noSelect ops = true) (hf : Region.free md ops listed i = true) (hr : (Region.ready md ops listed).contains i = true)
    (hQ : ∀ c a w, Q (.panic c) (a.put d v) w → Q (.panic c) a w) (hy : YieldsIf P ops S oi v a) (hS : S w)
    (h : wpAnyH P md ops Q S fuel (listed.setIfInBounds i true) (a.put d v) w) : wpAnyH P md ops Q S (fuel + 1) listed a w := by
  subst hd
  exact wpAnyH_take hi hs hf hr hQ hy hS h
theorem AllReadyH.consD {fuel : Nat} {listed : Array Bool} {a : Act} {w : World} {i : Nat} {o : Oper} {d : Option Tmp} {rs : List Nat} (ho : ops[i]? = some o) (hd : o.dst = d)
    (h : ∀ K' : Act → World → Prop, Shut (∀ a w, S w → (S w → wpAnyH P md ops Q S fuel (listed.setIfInBounds i true) a w) → K' a w) → if Region.wanted o (yielded ops a.tmps) = true then Oper.wp P o a w K' Q else K' (a.put d undef) w)
    (hs : AllReadyH P md ops Q S fuel listed a w rs) : AllReadyH P md ops Q S fuel listed a w (i :: rs) := by
  subst hd
  exact AllReadyH.cons ho h hs
end
end Go.Proofs.Ytmhdckpmkgkglaa
