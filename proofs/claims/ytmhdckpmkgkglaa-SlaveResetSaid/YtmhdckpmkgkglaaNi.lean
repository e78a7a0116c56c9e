/- The line: the first frame of a wire is there twice. -/
import Derived.Test.YtmhdckpmkgkglaaNh
set_option linter.unusedVariables false
set_option linter.unusedSimpArgs false
namespace Go.Proofs.Ytmhdckpmkgkglaa
open Go.RowKit

theorem OffRow.cellsAdd {w : World} {base n size c : Nat} {e : TypeId} {ad : Addr} {xs : List Value} (h : OffRow w base e size (.slice (some ad) n c) n xs) : ∀ (j : Nat) (u : Value), xs[j]? = some u → w.cell? (ad.add j) = some u := by
  rcases h.2 with ⟨h0, _⟩ | ⟨g, o, cap, cur, he, hb, hg, hnc, hcm, hcs, htake⟩
  · cases h0
  · cases he
    intro j u hu
    rw [Addr.add_lit, blk_cell hg]
    rw [← htake] at hu
    have hj : j < n * size := by
      have := (List.getElem?_eq_some_iff.1 hu).1
      simp at this
      omega
    rw [List.getElem?_take, if_pos hj, List.getElem?_drop] at hu
    rw [← hu]
    simp
section
variable {w : World} {B x gm gs : Nat} {vd vu v' : Value} {ds us ds' us' : List (FR × Value)} {L : LS}
theorem LineIn.setD (h : LineIn w B x gm gs vd vu ds us L) (ht : WireIn w B v' ds') (ho : ∀ k, v'.ownBlock = some k → vu.ownBlock ≠ some k) : Kept B [63] w (w.setCell ⟨x, 2, none⟩ v') ∧ LineIn (w.setCell ⟨x, 2, none⟩ v') B x gm gs v' vu ds' us { L with down := ds'.map Prod.fst } := by
  have k : Kept B [63] w (w.setCell ⟨x, 2, none⟩ v') := Kept.of_grown (grown_set (grown_refl _ _) _ _) h.blk (by simp) h.ge
  have hblk := blk_set h.blk 2 v'
  exact ⟨k, h.ge, by simpa using hblk, h.m.kept k (by decide) (by decide) (by decide), h.s.kept k (by decide) (by decide), ht.kept k (by decide) (by decide), h.u.kept k (by decide) (by decide), rfl, h.ue, ho⟩
theorem LineIn.setU (h : LineIn w B x gm gs vd vu ds us L) (ht : WireIn w B v' us') (ho : ∀ k, vd.ownBlock = some k → v'.ownBlock ≠ some k) : Kept B [63] w (w.setCell ⟨x, 3, none⟩ v') ∧ LineIn (w.setCell ⟨x, 3, none⟩ v') B x gm gs vd v' ds us' { L with up := us'.map Prod.fst } := by
  have k : Kept B [63] w (w.setCell ⟨x, 3, none⟩ v') := Kept.of_grown (grown_set (grown_refl _ _) _ _) h.blk (by simp) h.ge
  have hblk := blk_set h.blk 3 v'
  exact ⟨k, h.ge, by simpa using hblk, h.m.kept k (by decide) (by decide) (by decide), h.s.kept k (by decide) (by decide), h.d.kept k (by decide) (by decide), ht.kept k (by decide) (by decide), h.de, rfl, ho⟩
end
theorem off_lower' {w : World} {B B' n size : Nat} {e : TypeId} {v : Value} {xs : List Value} (h : OffRow w B e size v n xs) (hb : B' ≤ B) : OffRow w B' e size v n xs := by
  refine ⟨h.1, ?_⟩
  rcases h.2 with h0 | ⟨g, o, cap, cur, rfl, hbg, rest⟩
  · exact .inl h0
  · exact .inr ⟨g, o, cap, cur, rfl, Nat.le_trans hb hbg, rest⟩
/-- What the append makes of the first frame and the wire. -/
theorem dup_wire {w W1 w3 : World} {B b : Nat} {vd v3 : Value} {f : FR} {u : Value} {ps : List (FR × Value)} (h : WireIn w B vd ((f, u) :: ps)) (hw : Below w.heap.size w W1) (hbB : B ≤ w.heap.size) (hb : w.heap.size ≤ b) (hg : W1.grownBy w3 (some b))
    (ho : OffRow w3 w.heap.size 29 6 v3 (1 + (ps.length + 1)) ([.int .u8 f.addr, .int .u8 f.kind, .int .u8 f.sess, .int .u8 f.seq, .int .u8 f.ack, u] ++ cells6 ((f, u) :: ps))) :
    Below w.heap.size w w3 ∧ WireIn w3 B v3 ((f, u) :: (f, u) :: ps) ∧ ∀ k, v3.ownBlock = some k → w.heap.size ≤ k := by
  have hb3 : Below w.heap.size w w3 := hw.grown hg hw.size (by rintro _ ⟨⟩; exact hb)
  refine ⟨hb3, ⟨?_, fun p hp => own_below (h.bs p ((List.mem_cons.1 hp).elim (fun e => by rw [e]; exact List.mem_cons_self) id)) hb3⟩, fun k hk => (ho.lt k hk).1⟩
  have hl : ((f, u) :: (f, u) :: ps).length = 1 + (ps.length + 1) := by simp; omega
  rw [hl]
  exact off_lower' ho hbB
end Go.Proofs.Ytmhdckpmkgkglaa
