/- What goes in first comes out first: the plain law, and what the walk of WireOrder holds. -/
import Derived.Test.YtcdanimdkkhamaaXb
import Derived.Test.YtcdanimdkkhamaaOx
import Derived.Test.YtcdanimdkkhamaaWa
set_option linter.unusedVariables false
set_option linter.unusedSimpArgs false
namespace Go.Proofs.Ytcdanimdkkhamaa
open Go.RowKit

theorem put_texts {room : Nat} {l l' : List (List UInt8 × Nat)} {f : FT} {b : List UInt8} {n : Int} (h : putF room l f b = (n, l')) : l'.map Prod.fst = l.map Prod.fst ++ (if n = 0 then f.of b else []) := by
  unfold putF at h
  split at h
  · cases h; simp
  · cases h; simp [heldF_fst]
theorem put_answer {room : Nat} {l l' : List (List UInt8 × Nat)} {f : FT} {b : List UInt8} {n : Int} (h : putF room l f b = (n, l')) : n = 0 ∨ n = 5 := by
  unfold putF at h
  split at h
  · cases h; exact .inr rfl
  · cases h; exact .inl rfl
theorem put_room {room : Nat} {l l' : List (List UInt8 × Nat)} {f : FT} {b : List UInt8} {n : Int} (h : putF room l f b = (n, l')) (hl : l.length ≤ room) : l'.length ≤ room := by
  unfold putF at h
  split at h
  · cases h; exact hl
  · cases h
    simp [heldF_len]
    omega
theorem out_texts (l : List (List UInt8 × Nat)) : outF l ++ (restF l).map Prod.fst = l.map Prod.fst := by
  induction l with
  | nil => rfl
  | cons p r ih =>
    obtain ⟨b, h⟩ := p
    simp only [outF, restF]
    split
    · simp [ih]
    · simp
theorem take_texts (l : List (List UInt8 × Nat)) : (takeF l).1 ++ (takeF l).2.map Prod.fst = l.map Prod.fst := by
  unfold takeF
  split
  · simp
  · exact out_texts l
/-- How many Takes there may be till all is out. -/
def due : List (List UInt8 × Nat) → Nat
  | [] => 0
  | p :: r => p.2 + 1 + due r
theorem due_le (l : List (List UInt8 × Nat)) (h : ∀ p ∈ l, p.2 ≤ 16) : due l ≤ 17 * l.length := by
  induction l with
  | nil => simp [due]
  | cons p r ih =>
    have h1 := h p (by simp)
    have h2 := ih (fun q hq => h q (List.mem_cons_of_mem _ hq))
    simp [due]
    omega
theorem due_rest (l : List (List UInt8 × Nat)) : due (restF l) ≤ due l := by
  induction l with
  | nil => simp [restF]
  | cons p r ih =>
    obtain ⟨b, h⟩ := p
    simp only [restF]
    split
    · simp [due]; omega
    · exact Nat.le_refl _
theorem due_take (l : List (List UInt8 × Nat)) : due (takeF l).2 ≤ due l - 1 := by
  unfold takeF
  split
  · simp [due] <;> omega
  · rename_i l' hne
    cases l with
    | nil => simp [restF, due]
    | cons p r =>
      obtain ⟨b, h⟩ := p
      cases h with
      | succ h => exact absurd rfl (hne b h r)
      | zero =>
        have := due_rest r
        simp [restF, due]
        omega
theorem due_nil (l : List (List UInt8 × Nat)) (h : due l = 0) : l = [] := by
  cases l with
  | nil => rfl
  | cons p r => simp [due] at h

/-- What the walk of WireOrder holds. -/
structure OrdW (w : World) (g room : Nat) (l : List (List UInt8 × Nat)) (want out : List (List UInt8)) (vw vo : Value) (wr : World) : Prop where
  bl : Below w.heap.size w wr
  wi : WireAt wr w.heap.size g room l
  wa : OffRow wr w.heap.size 9 1 vw want.length (want.map strV)
  ou : OffRow wr w.heap.size 9 1 vo out.length (out.map strV)
  ap : Apart vw vo
  sm : Small l
theorem OrdW.kept {w wr w2 : World} {g room : Nat} {l l' : List (List UInt8 × Nat)} {want out : List (List UInt8)} {vw vo : Value} (h : OrdW w g room l want out vw vo wr) (k : Kept w.heap.size [57, 60] wr w2) (hw : WireAt w2 w.heap.size g room l') (hs : Small l') :
    OrdW w g room l' want out vw vo w2 :=
  ⟨h.bl.trans (k.below h.bl.size), hw, off_kept h.wa k (by decide), off_kept h.ou k (by decide), h.ap, hs⟩
theorem OrdW.below {w wr w2 : World} {g room : Nat} {l : List (List UInt8 × Nat)} {want out : List (List UInt8)} {vw vo : Value} (h : OrdW w g room l want out vw vo wr) (hb : Below wr.heap.size wr w2) :
    OrdW w g room l want out vw vo w2 := h.kept (Kept.of_below hb) (h.wi.below hb) h.sm
theorem own_block_lt {w : World} {B n size : Nat} {e : TypeId} {v : Value} {xs : List Value} (h : OffRow w B e size v n xs) : ∀ k, v.ownBlock = some k → k < w.heap.size := fun k hk => (h.lt k hk).2
/-- One text more has come out. -/
theorem OrdW.outs {w wr w2 : World} {g room : Nat} {l : List (List UInt8 × Nat)} {want out : List (List UInt8)} {vw vo v2 : Value} {x : List UInt8} {tmp : Obj} (h : OrdW w g room l want out vw vo wr)
    (hg : (wr.alloc tmp).grownBy w2 vo.ownBlock) (ho : OffRow w2 w.heap.size 9 1 v2 (out.length + 1) (out.map strV ++ [strV x])) (hv : v2.ownBlock = vo.ownBlock ∨ v2.ownBlock = some (wr.heap.size + 1)) :
    OrdW w g room l want (out ++ [x]) vw v2 w2 ∧ Kept 0 [9] wr w2 := by
  have hal : Below wr.heap.size wr (wr.alloc tmp) := (Below.refl _ _).alloc (Nat.le_refl _) _
  have h1 := h.below hal
  have k : Kept 0 [9] wr w2 := (Kept.of_below hal).trans (Kept.of_row hg (off_lower h1.ou (Nat.zero_le _)) (by simp))
  have hb : Below w.heap.size w w2 := (h1.bl).trans (below_grown hg h1.bl.size (fun kk hk => (h1.ou.lt kk hk).1))
  refine ⟨⟨hb, h.wi.kept k (by decide) (by decide) (by decide), h1.wa.grown hg (fun kk hk e => h.ap kk hk e.symm), ?_, h.ap.new (fun kk hk => by have := (h1.wa.lt kk hk).2; simpa using this) hv, h.sm⟩, k⟩
  have e1 : (out ++ [x]).length = out.length + 1 := by simp
  have e2 : (out ++ [x]).map strV = out.map strV ++ [strV x] := by simp
  rw [e1, e2]
  exact ho
/-- One text more is wanted. -/
theorem OrdW.wants {w wr w2 : World} {g room : Nat} {l : List (List UInt8 × Nat)} {want out : List (List UInt8)} {vw vo v2 : Value} {x : List UInt8} {tmp : Obj} (h : OrdW w g room l want out vw vo wr)
    (hg : (wr.alloc tmp).grownBy w2 vw.ownBlock) (ho : OffRow w2 w.heap.size 9 1 v2 (want.length + 1) (want.map strV ++ [strV x])) (hv : v2.ownBlock = vw.ownBlock ∨ v2.ownBlock = some (wr.heap.size + 1)) :
    OrdW w g room l (want ++ [x]) out v2 vo w2 ∧ Kept 0 [9] wr w2 := by
  have hal : Below wr.heap.size wr (wr.alloc tmp) := (Below.refl _ _).alloc (Nat.le_refl _) _
  have h1 := h.below hal
  have k : Kept 0 [9] wr w2 := (Kept.of_below hal).trans (Kept.of_row hg (off_lower h1.wa (Nat.zero_le _)) (by simp))
  have hb : Below w.heap.size w w2 := (h1.bl).trans (below_grown hg h1.bl.size (fun kk hk => (h1.wa.lt kk hk).1))
  refine ⟨⟨hb, h.wi.kept k (by decide) (by decide) (by decide), ?_, h1.ou.grown hg (fun kk hk e => h.ap.symm kk hk e.symm), ((h.ap.symm).new (fun kk hk => by have := (h1.ou.lt kk hk).2; simpa using this) hv).symm, h.sm⟩, k⟩
  have e1 : (want ++ [x]).length = want.length + 1 := by simp
  have e2 : (want ++ [x]).map strV = want.map strV ++ [strV x] := by simp
  rw [e1, e2]
  exact ho
theorem RowsAt.at {w : World} {B : Nat} {v : Value} {ls : List (List UInt8)} (h : RowsAt w B v ls) {k : Nat} (hk : k < ls.length) :
    ∃ g c A c', v = .slice (some ⟨g, 0, none⟩) ls.length c ∧ ls.length ≤ c ∧ c ≤ 9223372036854775807 ∧ w.cell? ⟨g, k, none⟩ = some (.slice A (ls.getD k []).length c') ∧ w.ownsRow B 5 1 (.slice A (ls.getD k []).length c') (ls.getD k []).length (bytesV (ls.getD k [])) := by
  obtain ⟨vs, hvl, hvo, hvr⟩ := h
  have hx : ls[k]? = some (ls.getD k []) := by rw [List.getD, List.getElem?_eq_getElem hk]; rfl
  obtain ⟨u, hu⟩ : ∃ u, vs[k]? = some u := ⟨_, List.getElem?_eq_getElem (by rw [hvl]; exact hk)⟩
  have hux := hvr k u _ hu hx
  obtain ⟨A, c', rfl⟩ := own_slice hux
  rcases hvo.2 with ⟨_, h0⟩ | ⟨g, cap, cur, rfl, hb, hg, hnc, hcm, hcs, ht⟩
  · omega
  · refine ⟨g, cap, A, c', rfl, hnc, by unfold maxLen at hcm; omega, ?_, hux⟩
    have h1 := hvo.cells (g := g) rfl k _ hu
    have h2 : (⟨g, 0, none⟩ : Addr).add k = ⟨g, k, none⟩ := by unfold Addr.add; split <;> simp_all
    rwa [h2] at h1
theorem OffRow.cellAt1 {w : World} {B n : Nat} {e : TypeId} {v : Value} {xs : List Value} (h : OffRow w B e 1 v n xs) {k : Nat} (hk : k < n) : ∃ ad c, v = .slice (some ad) n c ∧ n ≤ c ∧ c ≤ 9223372036854775807 ∧ w.cell? (ad.add k) = some (xs.getD k undef) := by
  rcases h.2 with ⟨_, h0⟩ | ⟨g, o, cap, cur, rfl, hb, hg, hnc, hcm, hcs, ht⟩
  · omega
  · have hx : xs[k]? = some (xs.getD k undef) := by
      have : k < xs.length := by rw [h.1]; omega
      rw [List.getD, List.getElem?_eq_getElem this]; rfl
    exact ⟨_, cap, rfl, hnc, by unfold maxLen at hcm; omega, h.cells1 k _ hx⟩
theorem take_snoc' (ls : List (List UInt8)) (k : Nat) (h : k < ls.length) : ls.take (k + 1) = ls.take k ++ [ls.getD k []] := by
  rw [List.take_succ_eq_append_getElem h]
  simp [List.getD, List.getElem?_eq_getElem h]
end Go.Proofs.Ytcdanimdkkhamaa
