/- Append of bytes that are read, at a step of a drawn region and in a plain one. -/
import Derived.Test.YtdgbmiobfehpdaaBase
import Derived.Laws.AppendOwn
import Derived.Laws.AppendOwnNone
import Derived.Laws.OwnMore
import Derived.Deep.RegionLaw
set_option linter.unusedVariables false
set_option linter.unusedSimpArgs false
namespace Go.Proofs.Ytdgbmiobfehpdaa
open Go.RowKit

theorem run_append_reads {P : Program} {w : World} (base : Nat) (t ty e : TypeId) (i : TypeInfo) (ht : P.underlying t = some (.slice e)) (hi : P.info? e = some i) (hz : i.zero = some (.int .u8 0)) (hsize : i.size = 1) (hby : i.bytes = 1)
    (v xv : Value) (xs l : List UInt8) (hown : w.ownsRow base e 1 v xs.length (bytesV xs)) (hr : ReadsB w xv l)
    (hbytes : xs.length + l.length ≤ 140737488355328) (hbase : base ≤ w.heap.size) :
    ∃ v' w', (Builtin.append_ #[t, t] ty #[v, xv]).run P w = .ok v' w' ∧ w'.ownsRow base e 1 v' (xs ++ l).length (bytesV (xs ++ l)) ∧ w.grownBy w' v.ownBlock := by
  obtain ⟨A, c, rfl, hlc, hl, hnil, hcell⟩ := hr
  cases A with
  | none =>
    obtain ⟨rfl, rfl⟩ := hnil rfl
    exact ⟨v, w, run_append_owned_none (P := P) (w := w) base t ty e i 1 ht hi v xs.length _ hown, by simpa using hown, grown_refl _ _⟩
  | some ad =>
    obtain ⟨v', w', h1, h2, h3, _⟩ := run_append_own (P := P) w base t ty e i (.int .u8 0) 1 1 ht hi hz hsize hby rfl (by decide) v xs.length (bytesV xs) hown ad l.length c (bytesV l) (by simp [bytesV]) (hcell ad rfl) (bytesV_one l) (by unfold maxLen; omega) (by omega) hbase
    exact ⟨v', w', h1, by simpa [bytesV] using h2, h3⟩

theorem step_append_reads {P : Program} {w : World} {ops : Array Oper} {o : Oper} {a : Act} {K : Act → World → Prop} {Q : Exit → Act → World → Prop} {E : Prop} (hgd : o.guard = none) (s x : Operand) (t : TypeId)
    (ho : o.op = .call { callee := .builtin .append, args := #[s, x], argTypes := #[t, t] })
    (base : Nat) (e : TypeId) (i : TypeInfo) (ht : P.underlying t = some (.slice e)) (hi : P.info? e = some i) (hz : i.zero = some (.int .u8 0)) (hsize : i.size = 1) (hby : i.bytes = 1)
    (v xv : Value) (xs l : List UInt8) (hs : a.eval s = v) (hown : w.ownsRow base e 1 v xs.length (bytesV xs)) (hx : a.eval x = xv) (hr : ReadsB w xv l)
    (hbytes : xs.length + l.length ≤ 140737488355328) (hbase : base ≤ w.heap.size)
    (h : ∀ v' w', w'.ownsRow base e 1 v' (xs ++ l).length (bytesV (xs ++ l)) → w.grownBy w' v.ownBlock → K (a.put o.dst v') w') :
    if Region.wanted o (yielded ops a.tmps) = true then Oper.wp P o a w K Q else E := by
  have hw : Region.wanted o (yielded ops a.tmps) = true := by simp [Region.wanted, hgd]
  rw [if_pos hw]
  obtain ⟨v', w', hrun, h2, h3⟩ := run_append_reads (P := P) base t o.type e i ht hi hz hsize hby v xv xs l hown hr hbytes hbase
  unfold Oper.wp execOp
  simp only [ho, resolve, invoke, builtin, Sem.run_bind, Sem.run_pure, Result.andThen_ok, List.map_toArray, List.map_cons, List.map_nil, hs, hx, hrun]
  exact h v' w' h2 h3
theorem wpList_append_bytes {P : Program} {w : World} {ops : Array Oper} {rest : List Oper} {o : Oper} {a : Act} {Q : Exit → Act → World → Prop} (hgd : o.guard = none) (s x : Operand) (t : TypeId)
    (ho : o.op = .call { callee := .builtin .append, args := #[s, x], argTypes := #[t, t] })
    (base : Nat) (e : TypeId) (i : TypeInfo) (ht : P.underlying t = some (.slice e)) (hi : P.info? e = some i) (hz : i.zero = some (.int .u8 0)) (hsize : i.size = 1) (hby : i.bytes = 1)
    (v xv : Value) (xs l : List UInt8) (hs : a.eval s = v) (hown : w.ownsRow base e 1 v xs.length (bytesV xs)) (hx : a.eval x = xv) (hr : ReadsB w xv l)
    (hbytes : xs.length + l.length ≤ 140737488355328) (hbase : base ≤ w.heap.size)
    (h : ∀ v' w', w'.ownsRow base e 1 v' (xs ++ l).length (bytesV (xs ++ l)) → w.grownBy w' v.ownBlock → wpList P ops Q rest (a.put o.dst v') w') : wpList P ops Q (o :: rest) a w :=
  wpList_plain hgd fun _ hK => by
    obtain ⟨v', w', hrun, h2, h3⟩ := run_append_reads (P := P) base t o.type e i ht hi hz hsize hby v xv xs l hown hr hbytes hbase
    unfold Oper.wp execOp
    simp only [ho, resolve, invoke, builtin, Sem.run_bind, Sem.run_pure, Result.andThen_ok, List.map_toArray, List.map_cons, List.map_nil, hs, hx, hrun]
    exact hK _ _ (h v' w' h2 h3)
end Go.Proofs.Ytdgbmiobfehpdaa
