/- The contracts of package slave over the plain state: New, Reset, Offer, Take, Pending, Session. -/
import Derived.Test.YtmhdckpmkgkglaaSc
import Derived.Test.YtmhdckpmkgkglaaSd
import Derived.Test.YtmhdckpmkgkglaaT1
import Derived.Test.YtmhdckpmkgkglaaT2
import Derived.Test.YtmhdckpmkgkglaaT3
import Derived.Test.YtmhdckpmkgkglaaMod
set_option linter.unusedVariables false
set_option linter.unusedSimpArgs false
namespace Go.Proofs.Ytmhdckpmkgkglaa
open Go.RowKit

/-- The slave S lies at block g of w; all that it holds lies from block B on. -/
structure SlaveAt (w : World) (B g : Nat) (S : SS) : Prop where
  ge : B ≤ g
  t01 : S.tells = 0 ∨ S.tells = 1
  x01 : S.next = 0 ∨ S.next = 1
  len : S.pend.length ≤ 24
  ex : ∃ v, w.heap[g]? = some (.cells #[.int .u8 S.num, .int .u8 S.tells, .int .u8 S.next, .int .u8 S.addr, v] 43 (0, 0)) ∧ w.ownsRow B 5 1 v S.pend.length (bytesV S.pend)
theorem SlaveAt.lt {w : World} {B g : Nat} {S : SS} (h : SlaveAt w B g S) : g < w.heap.size := by
  obtain ⟨v, hg, _⟩ := h.ex
  exact blk_lt hg
theorem SlaveAt.keep {w w1 : World} {B g : Nat} {S : SS} (h : SlaveAt w B g S) (hk : ∀ k, B ≤ k → k < w.heap.size → (∃ cs t fr, w.heap[k]? = some (.cells cs t fr) ∧ (t = 43 ∨ t = 5)) → w1.heap[k]? = w.heap[k]?) : SlaveAt w1 B g S := by
  obtain ⟨v, hg, ho⟩ := h.ex
  refine ⟨h.ge, h.t01, h.x01, h.len, v, (hk g h.ge (blk_lt hg) ⟨_, _, _, hg, .inl rfl⟩).trans hg, own_keep ho fun k hkk => ?_⟩
  refine hk k (own_lt ho k hkk).1 (own_lt ho k hkk).2 ?_
  rcases ho.2 with ⟨hv, _⟩ | ⟨g', cap, cur, hv, _, hh, _⟩
  · rw [hv] at hkk; simp [Value.ownBlock] at hkk
  · rw [hv] at hkk
    simp [Value.ownBlock] at hkk
    subst hkk
    exact ⟨_, _, _, hh, .inr rfl⟩
theorem SlaveAt.below {w w1 : World} {B g : Nat} {S : SS} (h : SlaveAt w B g S) (hb : Below w.heap.size w w1) : SlaveAt w1 B g S :=
  h.keep fun k _ hk _ => hb.block k hk
theorem SlaveAt.grown {w w1 : World} {B g g' : Nat} {S : SS} {cs : Array Value} {t : TypeId} {fr : Nat × Nat} (h : SlaveAt w B g S) (hb : w.grownBy w1 (some g')) (hg : w.heap[g']? = some (.cells cs t fr)) (ht : t ≠ 43 ∧ t ≠ 5) : SlaveAt w1 B g S :=
  h.keep fun k _ hk ⟨cs', t', fr', hc, ht'⟩ => hb.block k hk (by
    rintro he
    injection he with he
    subst he
    rw [hc] at hg
    injection hg with hg
    injection hg with _ h2 _
    subst h2
    rcases ht' with h | h
    · exact ht.1 h
    · exact ht.2 h)

theorem slave_new (w : World) (a : Int) :
    Calls Try.prog 11 #[.int .u8 a] w fun e w' => e = .returned (.pointer (some ⟨w.heap.size, 0, none⟩)) ∧ Below w.heap.size w w' ∧ SlaveAt w' w.heap.size w.heap.size (SS.new a) := by
  refine (new_any w a).mono ?_
  rintro e w' ⟨rfl, rfl⟩
  exact ⟨rfl, (Below.refl _ _).alloc (Nat.le_refl _) _, Nat.le_refl _, .inl rfl, .inl rfl, by simp [SS.new], _, blk_new _ _, World.ownsRow_nil _ _ _ _⟩

theorem slave_reset (w : World) (B g : Nat) (S : SS) (h : SlaveAt w B g S) :
    Calls Try.prog 20 #[.pointer (some ⟨g, 0, none⟩)] w fun e w' => e = .returned (.tuple #[]) ∧ w.grownBy w' (some g) ∧ SlaveAt w' B g (SS.new S.addr) := by
  obtain ⟨v, hg, ho⟩ := h.ex
  refine (reset_any w g S.addr S.num S.tells S.next v hg).mono ?_
  rintro e w' ⟨rfl, hgr, hg'⟩
  exact ⟨rfl, hgr, h.ge, .inl rfl, .inl rfl, by simp [SS.new], _, hg', World.ownsRow_nil _ _ _ _⟩

theorem slave_pending (w : World) (B g : Nat) (S : SS) (h : SlaveAt w B g S) :
    Calls Try.prog 14 #[.pointer (some ⟨g, 0, none⟩)] w fun e w' => e = .returned (.bool (decide (0 < S.pend.length))) ∧ w = w' := by
  obtain ⟨v, hg, ho⟩ := h.ex
  obtain ⟨A, c, rfl⟩ := own_slice ho
  exact pending_any w g A S.pend.length c (blk_cell hg 4)

theorem slave_offer (w : World) (B g : Nat) (S S' : SS) (bv : Value) (b : List UInt8) (n : Int) (h : SlaveAt w B g S) (hb : ReadsB w bv b) (hF : offerF S b = (n, S')) :
    Calls Try.prog 12 #[.pointer (some ⟨g, 0, none⟩), bv] w fun e w' => e = .returned (.int .i64 n) ∧ w.grownBy w' (some g) ∧ SlaveAt w' B g S' := by
  obtain ⟨v, hg, ho⟩ := h.ex
  obtain ⟨A, c, rfl⟩ := own_slice ho
  unfold offerF at hF
  split at hF
  · rename_i hl
    cases hF
    refine (offer_no w g (.slice A S.pend.length c) bv b hb (by rcases hl with hl | hl; exact .inl (List.eq_nil_of_length_eq_zero hl); exact .inr hl)).mono ?_
    rintro e w' ⟨rfl, rfl⟩
    exact ⟨rfl, grown_refl _ _, h⟩
  · rename_i hl
    split at hF
    · rename_i hp
      cases hF
      refine (offer_full w g S.pend.length c A bv b hb (by omega) (by omega) (blk_cell hg 4) hp).mono ?_
      rintro e w' ⟨rfl, rfl⟩
      exact ⟨rfl, grown_refl _ _, h⟩
    · rename_i hp
      cases hF
      have h0 : S.pend.length = 0 := by omega
      rw [h0] at hg
      refine (offer_ok w g S.addr S.num S.tells S.next A c bv b hb (by omega) (by omega) hg).mono ?_
      rintro e w' ⟨rfl, hgr, v', hg', ho'⟩
      exact ⟨rfl, hgr, h.ge, h.t01, h.x01, by simp; omega, v', hg', own_lower ho' (by have := h.ge; have := h.lt; omega)⟩

/-- A frame as a value: its bytes in a slice. -/
def frV (f : FR) (v : Value) : Value := .agg #[.int .u8 f.addr, .int .u8 f.kind, .int .u8 f.sess, .int .u8 f.seq, .int .u8 f.ack, v]

theorem slave_take (w : World) (B g : Nat) (S S' : SS) (f r : FR) (cmd : List UInt8) (ok : Bool) (A : Option Addr) (m c : Nat) (h : SlaveAt w B g S) (hb : ReadsB w (.slice A m c) f.b) (hn : NotIn g (.slice A m c) f.b)
    (hF : takeF S f = (r, cmd, ok, S')) :
    Calls Try.prog 13 #[.pointer (some ⟨g, 0, none⟩), .agg #[.int .u8 f.addr, .int .u8 f.kind, .int .u8 f.sess, .int .u8 f.seq, .int .u8 f.ack, .slice A m c]] w fun e w' =>
      ∃ v1 v2, e = .returned (.tuple #[.agg #[.int .u8 r.addr, .int .u8 r.kind, .int .u8 r.sess, .int .u8 r.seq, .int .u8 r.ack, v1], v2, .bool ok]) ∧
        w'.ownsRow w.heap.size 5 1 v1 r.b.length (bytesV r.b) ∧ w'.ownsRow w.heap.size 5 1 v2 cmd.length (bytesV cmd) ∧ w.grownBy w' (some g) ∧ SlaveAt w' B g S' := by
  obtain ⟨v, hg, ho⟩ := h.ex
  have hlt := h.lt
  have hB : B ≤ w.heap.size := by have := h.ge; omega
  unfold takeF at hF
  split at hF
  · rename_i hno
    cases hF
    refine (take_none w g S.addr S.num S.tells S.next f.addr f.kind f.sess f.seq f.ack v A m c hg hno).mono ?_
    rintro e w' ⟨rfl, hbel⟩
    exact ⟨_, _, rfl, World.ownsRow_nil _ _ _ _, World.ownsRow_nil _ _ _ _, grown_below hbel _, h.below hbel⟩
  · rename_i hno
    have hfa : f.addr = S.addr := by by_cases e : f.addr = S.addr; exact e; exact absurd (.inl e) hno
    split at hF
    · rename_i hk
      cases hF
      rw [hfa, hk]
      refine (take_open w g S.addr S.num S.tells S.next f.sess f.seq f.ack v A m c hg).mono ?_
      rintro e w' ⟨rfl, hgr, hg'⟩
      exact ⟨_, _, rfl, World.ownsRow_nil _ _ _ _, World.ownsRow_nil _ _ _ _, hgr, h.ge, .inl rfl, .inl rfl, h.len, v, hg', own_grown ho hgr fun k hk e => own_ne ho hg (by decide) k hk (by simpa using e)⟩
    · rename_i hk
      have hk3 : f.kind = 2 ∨ f.kind = 3 := by omega
      split at hF
      · rename_i hs
        cases hF
        refine (take_other w g S.addr S.num S.tells S.next f.addr f.kind f.sess f.seq f.ack v A m c hg hfa hk3 hs).mono ?_
        rintro e w' ⟨rfl, hgr, hg'⟩
        exact ⟨_, _, rfl, World.ownsRow_nil _ _ _ _, World.ownsRow_nil _ _ _ _, hgr, h.ge, h.t01, h.x01, h.len, v, hg', own_grown ho hgr fun k hk e => own_ne ho hg (by decide) k hk (by simpa using e)⟩
      · rename_i hs
        have hn0 : S.num ≠ 0 := fun e => hs (.inl e)
        have hsn : f.sess = S.num := by by_cases e : f.sess = S.num; exact e; exact absurd (.inr e) hs
        -- the nine ways
        have key : ∀ (e : Ending) (w' : World) (t' x' : Int) (l' cm : List UInt8) (v' : Value) (T' : SS),
            TakeEnd w g S.addr S.num t' x' l' cm v' e w' → T' = ⟨S.addr, S.num, t', x', l'⟩ → (t' = 0 ∨ t' = 1) → (x' = 0 ∨ x' = 1) → l'.length ≤ 24 →
            (∀ w', w.grownBy w' (some g) → w'.ownsRow B 5 1 v' l'.length (bytesV l')) →
            ∃ v1 v2, e = .returned (.tuple #[.agg #[.int .u8 S.addr, .int .u8 5, .int .u8 S.num, .int .u8 t', .int .u8 x', v1], v2, .bool true]) ∧
              w'.ownsRow w.heap.size 5 1 v1 l'.length (bytesV l') ∧ w'.ownsRow w.heap.size 5 1 v2 cm.length (bytesV cm) ∧ w.grownBy w' (some g) ∧ SlaveAt w' B g T' := by
          rintro e w' t' x' l' cm v' T' ⟨v1, v2, he, ho1, ho2, hgr, hg'⟩ rfl h1 h2 h3 h4
          exact ⟨v1, v2, he, ho1, ho2, hgr, h.ge, h1, h2, h3, v', hg', h4 w' hgr⟩
        have hkeep : ∀ w', w.grownBy w' (some g) → w'.ownsRow B 5 1 v S.pend.length (bytesV S.pend) := fun w' hgr => own_grown ho hgr fun k hk e => own_ne ho hg (by decide) k hk (by simpa using e)
        have hnil : ∀ w', w.grownBy w' (some g) → w'.ownsRow B 5 1 (.slice none 0 0) ([] : List UInt8).length (bytesV []) := fun w' _ => World.ownsRow_nil _ _ _ _
        have hx1 : 1 - S.next = 0 ∨ 1 - S.next = 1 := by rcases h.x01 with e | e <;> omega
        have ht1 : 1 - S.tells = 0 ∨ 1 - S.tells = 1 := by rcases h.t01 with e | e <;> omega
        by_cases hp : S.pend = []
        · have hh : S.heard f = S := by unfold SS.heard; rw [if_neg (by simp [hp])]
          rw [hh] at hF
          rcases hk3 with k2 | k3
          · by_cases hq : f.seq = S.next
            · have e1 : S.took f = { S with next := 1 - S.next } := by unfold SS.took; rw [if_pos ⟨k2, hq⟩]
              have e2 : S.command f = f.b := by unfold SS.command; rw [if_pos ⟨k2, hq⟩]
              simp only [e1, e2] at hF
              cases hF
              exact (take_nn w g B S.addr S.num S.tells S.next f.addr f.kind f.sess f.seq f.ack v S.pend f.b A m c hg h.t01 h.x01 ho h.len hb hn hfa hn0 hsn hp k2 hq).mono fun e w' he => key _ _ _ _ _ _ _ _ he rfl h.t01 hx1 h.len hkeep
            · have e1 : S.took f = S := by unfold SS.took; rw [if_neg (fun e => hq e.2)]
              have e2 : S.command f = [] := by unfold SS.command; rw [if_neg (fun e => hq e.2)]
              simp only [e1, e2] at hF
              cases hF
              exact (take_no w g B S.addr S.num S.tells S.next f.addr f.kind f.sess f.seq f.ack v S.pend f.b A m c hg h.t01 h.x01 ho h.len hb hn hfa hn0 hsn hp k2 hq).mono fun e w' he => key _ _ _ _ _ _ _ _ he rfl h.t01 h.x01 h.len hkeep
          · have e1 : S.took f = S := by unfold SS.took; rw [if_neg (fun e => by omega)]
            have e2 : S.command f = [] := by unfold SS.command; rw [if_neg (fun e => by omega)]
            simp only [e1, e2] at hF
            cases hF
            exact (take_np w g B S.addr S.num S.tells S.next f.addr f.kind f.sess f.seq f.ack v S.pend f.b A m c hg h.t01 h.x01 ho h.len hb hn hfa hn0 hsn hp k3).mono fun e w' he => key _ _ _ _ _ _ _ _ he rfl h.t01 h.x01 h.len hkeep
        · have hp0 : 0 < S.pend.length := List.length_pos_iff.2 hp
          by_cases hac : f.ack = S.tells
          · have hh : S.heard f = S := by unfold SS.heard; rw [if_neg (fun e => e.2 hac)]
            rw [hh] at hF
            rcases hk3 with k2 | k3
            · by_cases hq : f.seq = S.next
              · have e1 : S.took f = { S with next := 1 - S.next } := by unfold SS.took; rw [if_pos ⟨k2, hq⟩]
                have e2 : S.command f = f.b := by unfold SS.command; rw [if_pos ⟨k2, hq⟩]
                simp only [e1, e2] at hF
                cases hF
                exact (take_sn w g B S.addr S.num S.tells S.next f.addr f.kind f.sess f.seq f.ack v S.pend f.b A m c hg h.t01 h.x01 ho h.len hb hn hfa hn0 hsn hp0 hac k2 hq).mono fun e w' he => key _ _ _ _ _ _ _ _ he rfl h.t01 hx1 h.len hkeep
              · have e1 : S.took f = S := by unfold SS.took; rw [if_neg (fun e => hq e.2)]
                have e2 : S.command f = [] := by unfold SS.command; rw [if_neg (fun e => hq e.2)]
                simp only [e1, e2] at hF
                cases hF
                exact (take_so w g B S.addr S.num S.tells S.next f.addr f.kind f.sess f.seq f.ack v S.pend f.b A m c hg h.t01 h.x01 ho h.len hb hn hfa hn0 hsn hp0 hac k2 hq).mono fun e w' he => key _ _ _ _ _ _ _ _ he rfl h.t01 h.x01 h.len hkeep
            · have e1 : S.took f = S := by unfold SS.took; rw [if_neg (fun e => by omega)]
              have e2 : S.command f = [] := by unfold SS.command; rw [if_neg (fun e => by omega)]
              simp only [e1, e2] at hF
              cases hF
              exact (take_sp w g B S.addr S.num S.tells S.next f.addr f.kind f.sess f.seq f.ack v S.pend f.b A m c hg h.t01 h.x01 ho h.len hb hn hfa hn0 hsn hp0 hac k3).mono fun e w' he => key _ _ _ _ _ _ _ _ he rfl h.t01 h.x01 h.len hkeep
          · have hh : S.heard f = { S with tells := 1 - S.tells, pend := [] } := by unfold SS.heard; rw [if_pos ⟨hp0, hac⟩]
            rw [hh] at hF
            rcases hk3 with k2 | k3
            · by_cases hq : f.seq = S.next
              · have e1 : SS.took { S with tells := 1 - S.tells, pend := [] } f = { S with tells := 1 - S.tells, pend := [], next := 1 - S.next } := by unfold SS.took; rw [if_pos ⟨k2, hq⟩]
                have e2 : SS.command { S with tells := 1 - S.tells, pend := [] } f = f.b := by unfold SS.command; rw [if_pos ⟨k2, hq⟩]
                simp only [e1, e2] at hF
                cases hF
                exact (take_hn w g B S.addr S.num S.tells S.next f.addr f.kind f.sess f.seq f.ack v S.pend f.b A m c hg h.t01 h.x01 ho h.len hb hn hfa hn0 hsn hp0 hac k2 hq).mono fun e w' he => key _ _ _ _ _ _ _ _ he rfl ht1 hx1 (by simp) hnil
              · have e1 : SS.took { S with tells := 1 - S.tells, pend := [] } f = { S with tells := 1 - S.tells, pend := [] } := by unfold SS.took; rw [if_neg (fun e => hq e.2)]
                have e2 : SS.command { S with tells := 1 - S.tells, pend := [] } f = [] := by unfold SS.command; rw [if_neg (fun e => hq e.2)]
                simp only [e1, e2] at hF
                cases hF
                exact (take_ho w g B S.addr S.num S.tells S.next f.addr f.kind f.sess f.seq f.ack v S.pend f.b A m c hg h.t01 h.x01 ho h.len hb hn hfa hn0 hsn hp0 hac k2 hq).mono fun e w' he => key _ _ _ _ _ _ _ _ he rfl ht1 h.x01 (by simp) hnil
            · have e1 : SS.took { S with tells := 1 - S.tells, pend := [] } f = { S with tells := 1 - S.tells, pend := [] } := by unfold SS.took; rw [if_neg (fun e => by omega)]
              have e2 : SS.command { S with tells := 1 - S.tells, pend := [] } f = [] := by unfold SS.command; rw [if_neg (fun e => by omega)]
              simp only [e1, e2] at hF
              cases hF
              exact (take_hp w g B S.addr S.num S.tells S.next f.addr f.kind f.sess f.seq f.ack v S.pend f.b A m c hg h.t01 h.x01 ho h.len hb hn hfa hn0 hsn hp0 hac k3).mono fun e w' he => key _ _ _ _ _ _ _ _ he rfl ht1 h.x01 (by simp) hnil
end Go.Proofs.Ytmhdckpmkgkglaa
