/- What the laws of chapter 8 use: literals, conversions, steps from call to call. -/
import Derived.Test.YtmhdckpmkgkglaaSx
import Derived.Lib.ConvBytes
import Derived.Lib.SlBytesConst
set_option linter.unusedVariables false
set_option linter.unusedSimpArgs false
namespace Go.Proofs.Ytmhdckpmkgkglaa
open Go.RowKit

theorem conv_bytes (w : World) (v : Value) (l : List UInt8) (h : ReadsB w v l) : (convert 22 9 v).run Try.prog w = .ok (.string ⟨l.toArray⟩) w := by
  obtain ⟨A, c, rfl, hlc, hl, hnil, hcell⟩ := h
  cases A with
  | none =>
    obtain ⟨rfl, rfl⟩ := hnil rfl
    exact run_convert_bytes_nil w 22 5 Try.underlying22 Try.underlying5 0 0 9 Try.underlying9
  | some ad =>
    refine run_convert_bytes_back w 22 9 5 ad c l Try.underlying22 Try.underlying5 Try.underlying9 fun j hj => hcell ad rfl j _ ?_
    simp [bytesV, List.getElem?_eq_getElem hj]

theorem conv_const (w : World) (C : Array Value) (b n c : Nat) (hb : b = w.heap.size) : (convert 22 22 (.slice (some ⟨b, 0, none⟩) n c)).run Try.prog (w.alloc (.cells C 5)) = .ok (.slice (some ⟨b, 0, none⟩) n c) (w.alloc (.cells C 5 (C.size, C.size + 1))) := by
  subst hb
  exact Lib.run_convert_bytes_const (P := Try.prog) w 22 5 C n c Try.underlying22 Try.underlying5

theorem reads_lit {w : World} {b t : Nat} {cs : Array Value} {fr : Nat × Nat} (h : w.heap[b]? = some (.cells cs t fr)) (l : List UInt8) (hc : cs = (bytesV l).toArray) (hl : l.length ≤ 140737488355328) : ReadsB w (.slice (some ⟨b, 0, none⟩) l.length l.length) l := by
  refine ⟨_, _, rfl, Nat.le_refl _, hl, (fun e => by cases e), fun ad he j u hu => ?_⟩
  cases he
  have : (⟨b, 0, none⟩ : Addr).add j = ⟨b, j, none⟩ := by unfold Addr.add; split <;> simp_all
  rw [this, blk_cell h j, hc]
  simpa using hu


section
variable {w wi W wj : World} {B g : Nat}
/-- From the world behind a call to that behind the next one: W is the world at the call. -/
theorem law_step (h : Below B w wi) (hB : w.heap.size ≤ wi.heap.size) (hW : Below wi.heap.size wi W) (hgr : W.grownBy wj (some g)) (hg : B ≤ g) (hBw : B ≤ w.heap.size := by first | exact Nat.le_refl _ | omega) : Below B w wj :=
  (h.trans (hW.mono (Nat.le_trans hBw hB))).trans (below_grown hgr (Nat.le_trans (Nat.le_trans hBw hB) hW.size) (by rintro k ⟨⟩; exact hg))
theorem box_step {k : Nat} {o : Obj} (hx : wi.heap[k]? = some o) (hW : Below wi.heap.size wi W) (hgr : W.grownBy wj (some g)) (hne : k ≠ g) : wj.heap[k]? = some o :=
  blk_grown (blk_below' hx hW) hgr (by simpa using hne)
theorem row_step {B' n : Nat} {v : Value} {xs : List Value} {S : SS} (ho : wi.ownsRow B' 5 1 v n xs) (hs : SlaveAt wi B g S) (hW : Below wi.heap.size wi W) (hgr : W.grownBy wj (some g)) : wj.ownsRow B' 5 1 v n xs := by
  obtain ⟨v', hg, _⟩ := hs.ex
  have h2 := own_below ho hW
  exact own_grown h2 hgr fun k hk e => own_ne h2 (blk_below' hg hW) (by decide) k hk (by simpa using e)
end
end Go.Proofs.Ytmhdckpmkgkglaa
