/- The line: the first frame of a wire, and what is behind it. -/
import Derived.Test.YtmhdckpmkgkglaaNc
set_option linter.unusedVariables false
set_option linter.unusedSimpArgs false
namespace Go.Proofs.Ytmhdckpmkgkglaa
open Go.RowKit

theorem OffRow.head6 {w : World} {base n : Nat} {e : TypeId} {v u0 u1 u2 u3 u4 u5 : Value} {xs : List Value} (h : OffRow w base e 6 v (n + 1) (u0 :: u1 :: u2 :: u3 :: u4 :: u5 :: xs)) :
    ∃ k o c, v = .slice (some ⟨k, o, none⟩) (n + 1) c ∧ n + 1 ≤ c ∧ c ≤ 9223372036854775807 ∧ w.cell? ⟨k, o, none⟩ = some u0 ∧ w.cell? ⟨k, o + 1, none⟩ = some u1 ∧ w.cell? ⟨k, o + 2, none⟩ = some u2 ∧ w.cell? ⟨k, o + 3, none⟩ = some u3 ∧ w.cell? ⟨k, o + 4, none⟩ = some u4 ∧ w.cell? ⟨k, o + 5, none⟩ = some u5 := by
  rcases h.2 with ⟨_, h0⟩ | ⟨g, o, cap, cur, rfl, hb, hg, hnc, hcm, hcs, htake⟩
  · omega
  · have hc : ∀ j z, (u0 :: u1 :: u2 :: u3 :: u4 :: u5 :: xs)[j]? = some z → w.cell? ⟨g, o * 6 + j, none⟩ = some z := by
      intro j z hz
      rw [← htake] at hz
      have hj : j < (n + 1) * 6 := by
        have := (List.getElem?_eq_some_iff.1 hz).1
        simp at this
        omega
      rw [List.getElem?_take, if_pos hj, List.getElem?_drop] at hz
      rw [blk_cell hg]
      simpa using hz
    exact ⟨g, o * 6, cap, rfl, hnc, by unfold maxLen at hcm; omega, hc 0 u0 rfl, hc 1 u1 rfl, hc 2 u2 rfl, hc 3 u3 rfl, hc 4 u4 rfl, hc 5 u5 rfl⟩
section
variable {w w1 : World} {B x gm gs : Nat} {vd vu v' u : Value} {ds us ps : List (FR × Value)} {L : LS} {f : FR}
/-- The first frame: its cells, its bytes, and the wire behind it. -/
theorem WireIn.head (h : WireIn w B vd ((f, u) :: ps)) : ∃ k o c A cb, vd = .slice (some ⟨k, o, none⟩) (ps.length + 1) c ∧ ps.length + 1 ≤ c ∧ c ≤ 9223372036854775807 ∧ u = .slice A f.b.length cb ∧
    (w.cell? ⟨k, o, none⟩ = some (.int .u8 f.addr) ∧ w.cell? ⟨k, o + 1, none⟩ = some (.int .u8 f.kind) ∧ w.cell? ⟨k, o + 2, none⟩ = some (.int .u8 f.sess) ∧ w.cell? ⟨k, o + 3, none⟩ = some (.int .u8 f.seq) ∧ w.cell? ⟨k, o + 4, none⟩ = some (.int .u8 f.ack) ∧ w.cell? ⟨k, o + 5, none⟩ = some u) := by
  obtain ⟨k, o, c, h1, h2, h3, h4⟩ := h.row.head6
  obtain ⟨A, cb, h5⟩ := own_slice (h.bs (f, u) (by simp))
  exact ⟨k, o, c, A, cb, h1, h2, h3, h5, h4⟩
theorem WireIn.tail (h : WireIn w B vd ((f, u) :: ps)) : ∃ v', (∀ W : World, (Instr.slice 61 vd (some (.int .i64 1)) none none).run Try.prog W = .ok v' W) ∧ WireIn w B v' ps ∧ v'.ownBlock = vd.ownBlock := by
  obtain ⟨i0, hi, hz0, hz1, hz2⟩ := info_parts Try.info29
  obtain ⟨v', h1, h2, h3⟩ := OffRow.tail (P := Try.prog) Try.underlying61 hi hz1 h.row
  exact ⟨v', h1, ⟨h2, fun p hp => h.bs p (by simp [hp])⟩, h3⟩
theorem WireIn.reads (h : WireIn w B vd ((f, u) :: ps)) (hl : f.b.length ≤ 140737488355328) : ReadsB w u f.b := own_reads (h.bs (f, u) (by simp)) hl
theorem WireIn.notIn {t : TypeId} {cs : Array Value} {fr : Nat × Nat} {g : Nat} (h : WireIn w B vd ((f, u) :: ps)) (hg : w.heap[g]? = some (.cells cs t fr)) (ht : t ≠ 5) : NotIn g u f.b := by
  intro ad n c e hne he
  have ho := h.bs (f, u) (by simp)
  have hu : (u : Value).ownBlock = some ad.block := by rw [e]; rfl
  obtain ⟨cs', fr', hh⟩ := own_ty ho ad.block hu
  rw [he, hg] at hh
  cases hh
  exact ht rfl
/-- The first one down is off. -/
theorem LineIn.tailD (h : LineIn w B x gm gs vd vu ((f, u) :: ps) us L) (ht : WireIn w B v' ps) (ho : v'.ownBlock = vd.ownBlock) : Kept B [63] w (w.setCell ⟨x, 2, none⟩ v') ∧ LineIn (w.setCell ⟨x, 2, none⟩ v') B x gm gs v' vu ps us { L with down := L.down.tail } := by
  have k : Kept B [63] w (w.setCell ⟨x, 2, none⟩ v') := Kept.of_grown (grown_set (grown_refl _ _) _ _) h.blk (by simp) h.ge
  have hblk := blk_set h.blk 2 v'
  exact ⟨k, h.ge, by simpa using hblk, h.m.kept k (by decide) (by decide) (by decide), h.s.kept k (by decide) (by decide), ht.kept k (by decide) (by decide), h.u.kept k (by decide) (by decide), by rw [← h.de]; rfl, h.ue, fun j hj => h.dj j (ho ▸ hj)⟩
theorem LineIn.tailU (h : LineIn w B x gm gs vd vu ds ((f, u) :: ps) L) (ht : WireIn w B v' ps) (ho : v'.ownBlock = vu.ownBlock) : Kept B [63] w (w.setCell ⟨x, 3, none⟩ v') ∧ LineIn (w.setCell ⟨x, 3, none⟩ v') B x gm gs vd v' ds ps { L with up := L.up.tail } := by
  have k : Kept B [63] w (w.setCell ⟨x, 3, none⟩ v') := Kept.of_grown (grown_set (grown_refl _ _) _ _) h.blk (by simp) h.ge
  have hblk := blk_set h.blk 3 v'
  exact ⟨k, h.ge, by simpa using hblk, h.m.kept k (by decide) (by decide) (by decide), h.s.kept k (by decide) (by decide), h.d.kept k (by decide) (by decide), ht.kept k (by decide) (by decide), h.de, by rw [← h.ue]; rfl, fun j hj e => h.dj j hj (ho ▸ e)⟩
end
/-- What a region loads that takes the first frame down. -/
theorem heads_of {w : World} {B x gm gs fk fo n c : Nat} {vd vu u : Value} {us ps : List (FR × Value)} {L : LS} {f : FR} (hv : vd = .slice (some ⟨fk, fo, none⟩) n c) (h : LineIn w B x gm gs vd vu ((f, u) :: ps) us L) :
    w.cell? ⟨x, 1, none⟩ = some (.pointer (some ⟨gs, 0, none⟩)) ∧ w.cell? ⟨x, 2, none⟩ = some vd ∧ w.cell? ⟨fk, fo, none⟩ = some (.int .u8 f.addr) ∧ w.cell? ⟨fk, fo + 1, none⟩ = some (.int .u8 f.kind) ∧ w.cell? ⟨fk, fo + 2, none⟩ = some (.int .u8 f.sess) ∧ w.cell? ⟨fk, fo + 3, none⟩ = some (.int .u8 f.seq) ∧ w.cell? ⟨fk, fo + 4, none⟩ = some (.int .u8 f.ack) ∧ w.cell? ⟨fk, fo + 5, none⟩ = some u := by
  obtain ⟨k, o, c', A, cb, he, _, _, hu, q0, q1, q2, q3, q4, q5⟩ := h.d.head
  rw [hv] at he
  cases he
  exact ⟨blk_cell h.blk 1, blk_cell h.blk 2, q0, q1, q2, q3, q4, q5⟩
theorem heads_below {w w1 : World} {x gs fk fo : Nat} {vd u : Value} {f : FR} (h : w.cell? ⟨x, 1, none⟩ = some (.pointer (some ⟨gs, 0, none⟩)) ∧ w.cell? ⟨x, 2, none⟩ = some vd ∧ w.cell? ⟨fk, fo, none⟩ = some (.int .u8 f.addr) ∧ w.cell? ⟨fk, fo + 1, none⟩ = some (.int .u8 f.kind) ∧ w.cell? ⟨fk, fo + 2, none⟩ = some (.int .u8 f.sess) ∧ w.cell? ⟨fk, fo + 3, none⟩ = some (.int .u8 f.seq) ∧ w.cell? ⟨fk, fo + 4, none⟩ = some (.int .u8 f.ack) ∧ w.cell? ⟨fk, fo + 5, none⟩ = some u) (hb : Below w.heap.size w w1) :
    w1.cell? ⟨x, 1, none⟩ = some (.pointer (some ⟨gs, 0, none⟩)) ∧ w1.cell? ⟨x, 2, none⟩ = some vd ∧ w1.cell? ⟨fk, fo, none⟩ = some (.int .u8 f.addr) ∧ w1.cell? ⟨fk, fo + 1, none⟩ = some (.int .u8 f.kind) ∧ w1.cell? ⟨fk, fo + 2, none⟩ = some (.int .u8 f.sess) ∧ w1.cell? ⟨fk, fo + 3, none⟩ = some (.int .u8 f.seq) ∧ w1.cell? ⟨fk, fo + 4, none⟩ = some (.int .u8 f.ack) ∧ w1.cell? ⟨fk, fo + 5, none⟩ = some u :=
  have g : ∀ {q : Addr} {v : Value}, w.cell? q = some v → w1.cell? q = some v := fun hc => (hb.cell (World.block_lt_of_cell? w _ hc)).trans hc
  ⟨g h.1, g h.2.1, g h.2.2.1, g h.2.2.2.1, g h.2.2.2.2.1, g h.2.2.2.2.2.1, g h.2.2.2.2.2.2.1, g h.2.2.2.2.2.2.2⟩
theorem heads_set {w : World} {x gs fk fo : Nat} {vd u : Value} {f : FR} {p : Addr} {y : Value} (hx : p.block ≠ x) (hk : p.block ≠ fk) (h : w.cell? ⟨x, 1, none⟩ = some (.pointer (some ⟨gs, 0, none⟩)) ∧ w.cell? ⟨x, 2, none⟩ = some vd ∧ w.cell? ⟨fk, fo, none⟩ = some (.int .u8 f.addr) ∧ w.cell? ⟨fk, fo + 1, none⟩ = some (.int .u8 f.kind) ∧ w.cell? ⟨fk, fo + 2, none⟩ = some (.int .u8 f.sess) ∧ w.cell? ⟨fk, fo + 3, none⟩ = some (.int .u8 f.seq) ∧ w.cell? ⟨fk, fo + 4, none⟩ = some (.int .u8 f.ack) ∧ w.cell? ⟨fk, fo + 5, none⟩ = some u) :
    (w.setCell p y).cell? ⟨x, 1, none⟩ = some (.pointer (some ⟨gs, 0, none⟩)) ∧ (w.setCell p y).cell? ⟨x, 2, none⟩ = some vd ∧ (w.setCell p y).cell? ⟨fk, fo, none⟩ = some (.int .u8 f.addr) ∧ (w.setCell p y).cell? ⟨fk, fo + 1, none⟩ = some (.int .u8 f.kind) ∧ (w.setCell p y).cell? ⟨fk, fo + 2, none⟩ = some (.int .u8 f.sess) ∧ (w.setCell p y).cell? ⟨fk, fo + 3, none⟩ = some (.int .u8 f.seq) ∧ (w.setCell p y).cell? ⟨fk, fo + 4, none⟩ = some (.int .u8 f.ack) ∧ (w.setCell p y).cell? ⟨fk, fo + 5, none⟩ = some u :=
  have g1 : ∀ {i : Nat} {v : Value}, w.cell? ⟨x, i, none⟩ = some v → (w.setCell p y).cell? ⟨x, i, none⟩ = some v := fun hc => (World.cell?_setCell_far w p _ y hx).trans hc
  have g2 : ∀ {i : Nat} {v : Value}, w.cell? ⟨fk, i, none⟩ = some v → (w.setCell p y).cell? ⟨fk, i, none⟩ = some v := fun hc => (World.cell?_setCell_far w p _ y hk).trans hc
  ⟨g1 h.1, g1 h.2.1, g2 h.2.2.1, g2 h.2.2.2.1, g2 h.2.2.2.2.1, g2 h.2.2.2.2.2.1, g2 h.2.2.2.2.2.2.1, g2 h.2.2.2.2.2.2.2⟩
end Go.Proofs.Ytmhdckpmkgkglaa
