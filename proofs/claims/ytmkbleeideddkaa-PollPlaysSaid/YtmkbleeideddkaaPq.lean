/- Two polls in one memory; plain laws of PollBack. -/
import Derived.Test.YtmkbleeideddkaaPo
set_option linter.unusedVariables false
set_option linter.unusedSimpArgs false
namespace Go.Proofs.Ytmkbleeideddkaa
open Go.RowKit

theorem PollIn.lower {w : World} {B B' g : Nat} {v : Value} {us : List Nat} {P : PS} (h : PollIn w B g v us P) (hB : B' ≤ B) : PollIn w B' g v us P :=
  ⟨Nat.le_trans hB h.ge, h.blk, own_lower h.row hB, h.len, h.nd, fun a ha => Nat.le_trans hB (h.lo a ha), h.pe, h.n40, h.tn, h.sb⟩
/-- A call on another poll leaves this one as it was. -/
theorem PollIn.other {w w' : World} {B B' g g2 : Nat} {v v2 : Value} {us us2 : List Nat} {P Q : PS} (h : PollIn w B g2 v2 us2 Q) (hp : PollIn w B' g v us P) (k : KeptU g us w w') (hne : g2 ≠ g) (hd : ∀ a ∈ us2, a ∉ us) : PollIn w' B g2 v2 us2 Q := by
  have hg2 : g2 ∉ us := fun hm => by
    obtain ⟨cs, hh⟩ := hp.ty hm
    rw [h.blk] at hh
    cases hh
  refine ⟨h.ge, (k.block g2 h.lt hne hg2).trans h.blk, own_keep h.row fun b hb => ?_, h.len, h.nd, h.lo, fun i a p ha hq => ?_, h.n40, h.tn, h.sb⟩
  · obtain ⟨cs, fr, hh⟩ := own_ty h.row b hb
    refine k.block b (blk_lt hh) (fun e => ?_) (fun e => ?_)
    · subst e
      rw [hp.blk] at hh
      cases hh
    · obtain ⟨cs', h2⟩ := hp.ty e
      rw [h2] at hh
      cases hh
  · have hh := h.pe i a p ha hq
    refine (k.block a (blk_lt hh) (fun e => ?_) (hd a (List.mem_of_getElem? ha))).trans hh
    subst e
    have h2 := hp.blk
    unfold PeerAt at hh
    rw [h2] at hh
    cases hh
structure Two (w wr : World) (g h : Nat) (v v2 : Value) (us us2 : List Nat) (P Q : PS) : Prop where
  be : Below w.heap.size w wr
  p : PollIn wr w.heap.size g v us P
  q : PollIn wr w.heap.size h v2 us2 Q
  ne : g ≠ h
  dj : ∀ a ∈ us, a ∉ us2
theorem Two.left {w wr w2 : World} {g h : Nat} {v v2 : Value} {us us2 : List Nat} {P Q P' : PS} (t : Two w wr g h v v2 us us2 P Q) (k : KeptU g us wr w2) (hp : PollIn w2 w.heap.size g v us P') : Two w w2 g h v v2 us us2 P' Q :=
  ⟨t.be.trans ((k.kept t.p).below t.be.size), hp, t.q.other t.p k t.ne.symm fun a ha hb => t.dj a hb ha, t.ne, t.dj⟩
theorem Two.right {w wr w2 : World} {g h : Nat} {v v2 : Value} {us us2 : List Nat} {P Q Q' : PS} (t : Two w wr g h v v2 us us2 P Q) (k : KeptU h us2 wr w2) (hq : PollIn w2 w.heap.size h v2 us2 Q') : Two w w2 g h v v2 us us2 P Q' :=
  ⟨t.be.trans ((k.kept t.q).below t.be.size), t.p.other t.q k t.ne t.dj, hq, t.ne, t.dj⟩
theorem Two.below {w wr w2 : World} {g h : Nat} {v v2 : Value} {us us2 : List Nat} {P Q : PS} (t : Two w wr g h v v2 us us2 P Q) (hb : Below wr.heap.size wr w2) : Two w w2 g h v v2 us us2 P Q :=
  ⟨t.be.trans (hb.mono t.be.size), t.p.below hb, t.q.below hb, t.ne, t.dj⟩
theorem PollIn.at_ {w : World} {B g : Nat} {v : Value} {us : List Nat} {P : PS} (h : PollIn w B g v us P) : PollAt w B g P := ⟨v, us, h⟩
theorem two_start {w w1 w2 w3 : World} {P Q : PS} (h1 : Below w.heap.size w w1) (h2 : Below w1.heap.size w1 w2) (h3 : PollAt w2 w1.heap.size w1.heap.size P) (h4 : Below w2.heap.size w2 w3) (h5 : PollAt w3 w2.heap.size w2.heap.size Q) :
    ∃ v v2 us us2, Two w w3 w1.heap.size w2.heap.size v v2 us us2 P Q := by
  obtain ⟨v, us, hp⟩ := h3
  obtain ⟨v2, us2, hq⟩ := h5
  have hlt := hp.lt
  refine ⟨v, v2, us, us2, (h1.trans (h2.mono h1.size)).trans (h4.mono (Nat.le_trans h1.size h2.size)), (hp.below h4).lower h1.size, hq.lower (Nat.le_trans h1.size h2.size), by omega, fun a ha hb => ?_⟩
  obtain ⟨cs, hh⟩ := hp.ty ha
  have h6 := blk_lt hh
  have h7 := hq.lo a hb
  omega

theorem findF_addr {l l' : List PP} (a : Int) (h : l.map PP.addr = l'.map PP.addr) : findF l a = findF l' a := by
  induction l generalizing l' with
  | nil =>
    have : l' = [] := by simpa using h.symm
    rw [this]
  | cons p r ih =>
    cases l' with
    | nil => simp at h
    | cons q s =>
      simp only [List.map_cons, List.cons.injEq] at h
      simp only [findF, h.1, ih h.2]
theorem addrAt_map (l : List PP) (i : Nat) : addrAt l i = ((l.map PP.addr)[i]?).getD 0 := by
  unfold addrAt
  simp
theorem next_fresh (P : PS) (now : Int) (h : ∀ p ∈ P.row, p.dead = false) : P.next now = if P.row.length = 0 then (0, false, P) else (addrAt P.row (P.turn % P.row.length), true, { P with turn := P.turn % P.row.length + 1 }) := by
  unfold PS.next
  rw [bestF_none (due_fresh h now)]
  by_cases hz : P.row.length = 0
  · rw [if_pos hz]
    have : aliveF P.row P.turn P.row.length 0 = none := by rw [hz]; rfl
    rw [this]
  · rw [if_neg hz]
    have : aliveF P.row P.turn P.row.length 0 = some 0 := by
      obtain ⟨d, hd⟩ : ∃ d, P.row.length = d + 1 := ⟨P.row.length - 1, by omega⟩
      have hlt := Nat.mod_lt P.turn (show 0 < P.row.length by omega)
      have h1 : ((P.row[(P.turn + 0) % P.row.length]?).map PP.dead).getD true = false := by
        rw [Nat.add_zero, List.getElem?_eq_getElem hlt]
        exact h _ (List.getElem_mem _)
      generalize hn : P.row.length = n at *
      subst hd
      simp only [aliveF]
      rw [hn, if_pos h1]
    rw [this]
    rfl
/-- Both have the same addresses, all alive, and the same turn. -/
structure FR (P Q : PS) : Prop where
  p : ∀ x ∈ P.row, x.dead = false
  q : ∀ x ∈ Q.row, x.dead = false
  ad : P.row.map PP.addr = Q.row.map PP.addr
  tn : P.turn = Q.turn
theorem FR.next {P Q : PS} (h : FR P Q) (now : Int) : ∃ (a : Int) (b : Bool) (P' Q' : PS), P.next now = (a, b, P') ∧ Q.next now = (a, b, Q') ∧ FR P' Q' := by
  have hl : P.row.length = Q.row.length := by simpa using congrArg List.length h.ad
  rw [next_fresh P now h.p, next_fresh Q now h.q]
  by_cases hz : P.row.length = 0
  · rw [if_pos hz, if_pos (by omega)]
    exact ⟨_, _, _, _, rfl, rfl, h⟩
  · rw [if_neg hz, if_neg (by omega)]
    refine ⟨_, _, _, ⟨Q.row, Q.turn % Q.row.length + 1⟩, rfl, ?_, h.p, h.q, h.ad, ?_⟩
    · rw [addrAt_map P.row, addrAt_map Q.row, h.ad, hl, h.tn]
    · show P.turn % P.row.length + 1 = _
      rw [hl, h.tn]
theorem FR.back {P Q : PS} (h : FR P Q) (y now : Int) : ∃ (n : Int) (P1 P2 : PS), P.dead y now = (n, P1) ∧ P1.alive y = (n, P2) ∧ FR P2 Q ∧ ((n = 0 ∧ P2.is y = true) ∨ n = 6) := by
  cases hf : findF P.row y with
  | none => exact ⟨6, P, P, by unfold PS.dead; rw [hf], by unfold PS.alive; rw [hf], h, .inr rfl⟩
  | some i =>
    have h1 : (P.row.modify i (deadP now)).map PP.addr = P.row.map PP.addr := modify_addr _ _ (deadP now) fun p => rfl
    have h2 := (findF_addr y h1).trans hf
    have h3 : ((P.row.modify i (deadP now)).modify i backP).map PP.addr = P.row.map PP.addr := (modify_addr _ _ backP fun p => rfl).trans h1
    have h4 := (findF_addr y h3).trans hf
    obtain ⟨p, hp⟩ : ∃ p, P.row[i]? = some p := ⟨_, List.getElem?_eq_getElem (findF_lt hf)⟩
    refine ⟨0, ⟨P.row.modify i (deadP now), P.turn⟩, ⟨(P.row.modify i (deadP now)).modify i backP, P.turn⟩, by unfold PS.dead; rw [hf]; rfl, by unfold PS.alive; simp only [h2]; rfl, ⟨back_fresh h.p now, h.q, h3.trans h.ad, h.tn⟩, .inl ⟨rfl, ?_⟩⟩
    unfold PS.is
    simp only [h4, modify_self backP (modify_self (deadP now) hp)]
    rfl
end Go.Proofs.Ytmkbleeideddkaa
