/- The plain laws of the line: exchanges in which all comes. -/
import Derived.Test.YtmhdckpmkgkglaaLr
set_option linter.unusedVariables false
set_option linter.unusedSimpArgs false
namespace Go.Proofs.Ytmhdckpmkgkglaa

theorem heardF_is {L : LS} {f : FR} {us : List FR} {M' : MS} {b : List UInt8} {h' : Nat} (hup : L.up = f :: us) (hF : L.M.heardF f = (b, true, M')) (hb : (b = [] ∧ h' = L.heard) ∨ (b = two L.heard 2 ∧ h' = L.heard + 1 ∧ L.heard < L.offered)) :
    (L.heardF).2 = { L with M := M', up := us, heard := h' } := by
  unfold LS.heardF
  rw [hup]
  simp only []
  rw [hF]
  simp only []
  rw [if_neg (by simp)]
  rcases hb with ⟨rfl, rfl⟩ | ⟨rfl, rfl, hlt⟩
  · rw [if_pos (show ([] : List UInt8).length = 0 from rfl)]
  · rw [if_neg (by rw [two_len]; omega), if_neg (by rintro (hh | hh); omega; exact hh rfl)]
theorem takeF_is {L : LS} {f r : FR} {ds : List FR} {S' : SS} {b : List UInt8} {c' : Nat} (hd : L.down = f :: ds) (hu : L.up.length < 20) (hF : Go.Proofs.Ytmhdckpmkgkglaa.takeF L.S f = (r, b, true, S')) (hb : (b = [] ∧ c' = L.came) ∨ (b = two L.came 1 ∧ c' = L.came + 1 ∧ L.came < L.sent)) :
    (L.takeF).2 = { L with S := S', down := ds, up := L.up ++ [r], came := c' } := by
  unfold LS.takeF
  rw [hd]
  simp only []
  rw [if_neg (by omega), hF]
  simp only []
  rw [if_neg (by simp)]
  rcases hb with ⟨rfl, rfl⟩ | ⟨rfl, rfl, hlt⟩
  · rw [if_pos (show ([] : List UInt8).length = 0 from rfl)]
  · rw [if_neg (by rw [two_len]; omega), if_neg (by rintro (hh | hh); omega; exact hh rfl)]

def LS.busy (L : LS) : Nat := L.down.length + L.up.length
def LS.turn (L : LS) : LS := ((L.takeF).2.heardF).2
def LS.turns : Nat → LS → LS
  | 0, L => L
  | n + 1, L => (LS.turns n L).turn
def LS.xchg (L : LS) : LS := LS.turns L.nextF.busy L.nextF
/-- What holds behind an exchange. -/
def Fine (L : LS) : Prop := ∃ A T, Inv L A T
theorem Fine.does {L : LS} (h : Fine L) (k : Int) : (L.doesF k).1 = true ∧ Fine (L.doesF k).2 := by
  obtain ⟨A, T, h⟩ := h
  exact h.does k
theorem Fine.next {L : LS} (h : Fine L) : Fine L.nextF := by
  obtain ⟨A, T, h⟩ := h
  exact ⟨A, T, h.next⟩
theorem Fine.take {L : LS} (h : Fine L) : (L.takeF).1 = true ∧ Fine (L.takeF).2 := by
  obtain ⟨A, T, h⟩ := h
  exact ⟨h.take.1, A, h.take.2⟩
theorem Fine.heard {L : LS} (h : Fine L) : (L.heardF).1 = true ∧ Fine (L.heardF).2 := by
  obtain ⟨A, T, h⟩ := h
  obtain ⟨h1, A', h2⟩ := h.heard'
  exact ⟨h1, A', T, h2⟩
theorem Fine.busy {L : LS} (h : Fine L) : L.busy ≤ 40 := by
  obtain ⟨A, T, h⟩ := h
  have := h.d20
  have := h.u20
  unfold LS.busy
  omega
theorem Fine.turn {L : LS} (h : Fine L) : Fine L.turn := h.take.2.heard.2
theorem Fine.turn_less {L : LS} (h : Fine L) (h0 : 0 < L.busy) : L.turn.busy + 1 = L.busy ∧ L.turn.sent = L.sent ∧ L.turn.offered = L.offered := by
  have key : ∀ {L : LS}, Fine L → 0 < L.up.length → (L.heardF).2.busy + 1 = L.busy ∧ (L.heardF).2.sent = L.sent ∧ (L.heardF).2.offered = L.offered := by
    intro L h h0
    obtain ⟨A, T, hi⟩ := h
    cases hu : L.up with
    | nil => rw [hu] at h0; simp at h0
    | cons f us =>
      obtain ⟨A', h', M', b, hF, hb, hj⟩ := hi.hears hu
      rw [heardF_is hu hF hb]
      refine ⟨?_, rfl, rfl⟩
      unfold LS.busy
      rw [hu]
      simp only [List.length_cons]
      omega
  obtain ⟨A, T, hi⟩ := h
  unfold LS.turn
  have hf : Fine (L.takeF).2 := ⟨A, hi.take.2⟩
  cases hd : L.down with
  | nil =>
    have e : (L.takeF).2 = L := by unfold LS.takeF; rw [hd]
    rw [e]
    refine key ⟨A, T, hi⟩ ?_
    unfold LS.busy at h0
    rw [hd] at h0
    simpa using h0
  | cons f ds =>
    by_cases hu : 20 ≤ L.up.length
    · have e : (L.takeF).2 = L := by unfold LS.takeF; rw [hd]; simp only []; rw [if_pos hu]
      rw [e]
      exact key ⟨A, T, hi⟩ (by omega)
    · obtain ⟨T', c', S', b, hF, hb, hj⟩ := hi.takes hd
      have e := takeF_is hd (by omega) hF hb
      obtain ⟨q1, q2, q3⟩ := key hf (by rw [e]; simp)
      rw [e] at q1 q2 q3 ⊢
      refine ⟨?_, q2, q3⟩
      rw [q1]
      unfold LS.busy
      simp only [hd, List.length_cons, List.length_append, List.length_nil]
      omega
theorem Fine.turns {L : LS} (h : Fine L) : ∀ n, n ≤ L.busy → Fine (LS.turns n L) ∧ (LS.turns n L).busy + n = L.busy ∧ (LS.turns n L).sent = L.sent ∧ (LS.turns n L).offered = L.offered := by
  intro n
  induction n with
  | zero => intro _; exact ⟨h, rfl, rfl, rfl⟩
  | succ n ih =>
    intro hn
    obtain ⟨h1, h2, h3, h4⟩ := ih (by omega)
    obtain ⟨k1, k2, k3⟩ := h1.turn_less (by omega)
    exact ⟨h1.turn, by show (LS.turns n L).turn.busy + (n + 1) = _; omega, k2.trans h3, k3.trans h4⟩
theorem nextF_same (L : LS) : L.nextF.sent = L.sent ∧ L.nextF.offered = L.offered := by unfold LS.nextF; split <;> exact ⟨rfl, rfl⟩
theorem Fine.xchg {L : LS} (h : Fine L) : Fine L.xchg ∧ L.xchg.busy = 0 ∧ L.xchg.sent = L.sent ∧ L.xchg.offered = L.offered := by
  obtain ⟨h1, h2, h3, h4⟩ := h.next.turns L.nextF.busy (Nat.le_refl _)
  have hn := nextF_same L
  exact ⟨h1, by unfold LS.xchg; omega, h3.trans hn.1, h4.trans hn.2⟩
theorem busy_nil {L : LS} (h : L.busy = 0) : L.down = [] ∧ L.up = [] := by
  unfold LS.busy at h
  exact ⟨List.eq_nil_of_length_eq_zero (by omega), List.eq_nil_of_length_eq_zero (by omega)⟩
/-- An exchange of which all comes. -/
theorem Fine.clean {L : LS} (h : Fine L) (h0 : L.busy = 0) : L.xchg.M.queue = L.M.queue.tail ∧ L.xchg.heard = L.offered ∧ (L.heard = L.offered → L.xchg.S.pend = []) := by
  obtain ⟨hd, hu⟩ := busy_nil h0
  have hn : L.nextF = { L with down := [L.M.nextF] } := by unfold LS.nextF; rw [hd]; rfl
  have hb1 : L.nextF.busy = 1 := by rw [hn]; unfold LS.busy; rw [hu]; rfl
  have hx : L.xchg = L.nextF.turn := by unfold LS.xchg; rw [hb1]; rfl
  obtain ⟨A, T, hi⟩ := h
  have h1 : Inv L.nextF A T := hi.next
  rw [hx]
  unfold LS.turn
  have hd1 : L.nextF.down = L.M.nextF :: [] := by rw [hn]
  obtain ⟨T', c', S', b, hF, hb, hj⟩ := h1.takes hd1
  have e := takeF_is hd1 (by rw [hn]; show L.up.length < 20; rw [hu]; decide) hF hb
  have h2 := hj L.nextF.up h1.un (by rw [hn]; show L.up.length < 20; rw [hu]; decide)
  rw [e]
  have hup : ({ L.nextF with S := S', down := [], up := L.nextF.up ++ [⟨3, 5, 1, (T' % 2 : Nat), (c' % 2 : Nat), S'.pend⟩], came := c' } : LS).up = ⟨3, 5, 1, (T' % 2 : Nat), (c' % 2 : Nat), S'.pend⟩ :: [] := by
    show L.nextF.up ++ _ = _
    rw [hn]
    show L.up ++ _ = _
    rw [hu]
    rfl
  obtain ⟨A', h', M', b', hF', hb', hj'⟩ := h2.hears hup
  rw [heardF_is hup hF' hb']
  show M'.queue = L.M.queue.tail ∧ h' = L.offered ∧ (L.heard = L.offered → S'.pend = [])
  have hM : L.nextF.M = L.M := by rw [hn]
  have hS : L.nextF.S = L.S := by rw [hn]
  have hcm : L.nextF.came = L.came := by rw [hn]
  have hhd : L.nextF.heard = L.heard := by rw [hn]
  have hof : L.nextF.offered = L.offered := by rw [hn]
  have hse : L.nextF.sent = L.sent := by rw [hn]
  rw [hM] at hF'
  rw [hS] at hF
  rw [hof] at hb'
  rw [hhd] at hb'
  -- the frame down
  have hms := hi.ms
  have hmh := hi.mh
  have hma := hi.ma
  have hmn := hi.mn
  have hmst := hi.mst
  have hsa := hi.sa
  have hsn := hi.sn
  have hst := hi.st
  have hsx := hi.sx
  have hc0 := hi.c0
  have hc1 := hi.c1
  have hc2 := hi.c2
  have hq := hi.q
  have hh0 := hi.h0
  have hh1 := hi.h1
  obtain ⟨f, hf⟩ : ∃ f, f = L.M.nextF := ⟨_, rfl⟩
  have hfr : f.addr = 3 ∧ f.sess = 1 ∧ f.seq = (A % 2 : Nat) ∧ f.ack = (L.heard % 2 : Nat) ∧ ((L.M.queue = [] ∧ f.kind = 3) ∨ (∃ q qs, L.M.queue = q :: qs ∧ f.kind = 2 ∧ f.b = two A 1)) := by
    rw [hf]
    unfold MS.nextF
    rw [if_neg (by omega)]
    cases hqq : L.M.queue with
    | nil => exact ⟨hma, hmn, hms, hmh, .inl ⟨rfl, rfl⟩⟩
    | cons q qs =>
      refine ⟨hma, hmn, hms, hmh, .inr ⟨q, qs, rfl, rfl, ?_⟩⟩
      have := hi.qs 0 q (by rw [hqq]; rfl)
      simpa using this
  rw [← hf] at hF
  clear hf
  obtain ⟨f1, f2, f3, f4, f5⟩ := hfr
  have hT : Go.Proofs.Ytmhdckpmkgkglaa.takeF L.S f = (⟨3, 5, 1, ((L.S.heard f).took f).tells, ((L.S.heard f).took f).next, ((L.S.heard f).took f).pend⟩, (L.S.heard f).command f, true, (L.S.heard f).took f) := by
    have hkind : f.kind = 2 ∨ f.kind = 3 := by
      rcases f5 with ⟨_, q⟩ | ⟨_, _, _, q, _⟩
      · exact .inr q
      · exact .inl q
    unfold Go.Proofs.Ytmhdckpmkgkglaa.takeF
    rw [if_neg (by omega), if_neg (by omega), if_neg (by omega)]
    simp only [hsa, hsn]
  rw [hT] at hF
  simp only [Prod.mk.injEq, FR.mk.injEq, true_and] at hF
  obtain ⟨⟨g1, g2, g3⟩, g4, g5⟩ := hF
  have htp : ((L.S.heard f).took f).pend = (L.S.heard f).pend := by unfold SS.took; split <;> rfl
  have htt : ((L.S.heard f).took f).tells = (L.S.heard f).tells := by unfold SS.took; split <;> rfl
  have hnx : (L.S.heard f).next = L.S.next := by unfold SS.heard; split <;> rfl
  have hp3 : L.heard = L.offered → S'.pend = [] := by
    intro he
    rw [← g5, htp]
    unfold SS.heard
    rcases hi.p with ⟨p1, p2, p3⟩ | ⟨p1, p2⟩
    · rw [if_neg (by rw [p1]; simp)]; exact p1
    · rw [if_pos ⟨by rw [p1, two_len]; omega, by omega⟩]
  have hp4 : L.heard ≠ L.offered → S'.pend = two L.heard 2 ∧ (T' % 2 : Nat) = L.heard % 2 ∧ L.offered = L.heard + 1 := by
    intro he
    rcases hi.p with ⟨p1, p2, p3⟩ | ⟨p1, p2⟩
    · omega
    · have hTh : L.heard = T := by omega
      have hs1 : L.S.heard f = L.S := by
        unfold SS.heard
        rw [if_neg (by rintro ⟨_, hx⟩; exact hx (by omega))]
      refine ⟨by rw [← g5, htp, hs1, p1, hTh], ?_, by omega⟩
      rw [htt, hs1] at g1
      omega
  have hc' : L.M.queue ≠ [] → (c' : Int) % 2 ≠ (A : Int) % 2 := by
    intro hne
    rcases f5 with ⟨q, _⟩ | ⟨q, qs, hqq, hk, hbb⟩
    · exact absurd q hne
    · rw [show (c' : Int) % 2 = ((c' % 2 : Nat) : Int) by omega, ← g2]
      unfold SS.took
      rw [hnx, hsx]
      by_cases hcA : L.came = A
      · rw [if_pos ⟨hk, by rw [f3, hcA]⟩]
        show (1 : Int) - ((L.came % 2 : Nat) : Int) ≠ _
        omega
      · rw [if_neg (by rintro ⟨_, hx⟩; omega)]
        rw [hnx, hsx]
        omega
  obtain ⟨r, hr⟩ : ∃ r : FR, r = ⟨3, 5, 1, (T' % 2 : Nat), (c' % 2 : Nat), S'.pend⟩ := ⟨_, rfl⟩
  rw [← hr] at hF'
  have hH : L.M.heardF r = ((MS.replyF { L.M with misses := 0 } r).1, true, (MS.replyF { L.M with misses := 0 } r).2) := by
    unfold MS.heardF
    rw [if_neg (by rw [hr]; simp; omega), if_neg (by omega), if_neg (by rw [hr]; simp; omega), if_neg (by rw [hr]; simp)]
  rw [hH] at hF'
  simp only [Prod.mk.injEq, true_and] at hF'
  obtain ⟨e1, e2⟩ := hF'
  have hak : (MS.acked { L.M with misses := 0 } r).queue = L.M.queue.tail ∧ (MS.acked { L.M with misses := 0 } r).hears = L.M.hears := by
    unfold MS.acked
    cases hqq : L.M.queue with
    | nil => rw [if_neg (by simp)]; exact ⟨hqq, rfl⟩
    | cons q qs =>
      rw [if_pos ⟨by simp, by rw [hr]; show (((c' % 2 : Nat)) : Int) ≠ L.M.sends; have := hc' (by rw [hqq]; simp); omega⟩]
      exact ⟨rfl, rfl⟩
  refine ⟨?_, ?_, hp3⟩
  · rw [← e2]
    unfold MS.replyF
    split <;> exact hak.1
  · by_cases he : L.heard = L.offered
    · have hb0 : b' = [] := by
        rw [← e1]
        unfold MS.replyF
        rw [if_pos (.inl (by rw [hr]; show S'.pend.length = 0; rw [hp3 he]; rfl))]
      rcases hb' with ⟨_, q⟩ | ⟨q, _⟩
      · omega
      · rw [hb0] at q
        cases q
    · obtain ⟨p1, p2, p3⟩ := hp4 he
      rcases hb' with ⟨q, _⟩ | ⟨_, q, _⟩
      · exfalso
        rw [← e1] at q
        unfold MS.replyF at q
        rw [if_neg (by
          rintro (hx | hx)
          · rw [hr] at hx
            simp only [p1, two_len] at hx
            omega
          · rw [hak.2, hmh, hr] at hx
            exact hx (by show (((T' % 2 : Nat)) : Int) = _; omega))] at q
        simp only [hr, p1] at q
        cases q
      · omega
/-- n exchanges. -/
def LS.xchgs : Nat → LS → LS
  | 0, L => L
  | n + 1, L => (LS.xchgs n L).xchg
theorem Fine.q8 {L : LS} (h : Fine L) : L.M.queue.length ≤ 8 := by
  obtain ⟨A, T, h⟩ := h
  exact h.mq8
theorem Fine.xchgs {L : LS} (h : Fine L) : ∀ n, Fine (LS.xchgs n L) ∧ (LS.xchgs n L).sent = L.sent ∧ (LS.xchgs n L).offered = L.offered ∧ (1 ≤ n → (LS.xchgs n L).busy = 0 ∧ (LS.xchgs n L).M.queue.length ≤ 9 - n) ∧ (2 ≤ n → (LS.xchgs n L).heard = L.offered) ∧ (3 ≤ n → (LS.xchgs n L).S.pend = []) := by
  intro n
  induction n with
  | zero => exact ⟨h, rfl, rfl, fun h => by omega, fun h => by omega, fun h => by omega⟩
  | succ n ih =>
    obtain ⟨h1, h2, h3, h4, h5, h6⟩ := ih
    obtain ⟨k1, k2, k3, k4⟩ := h1.xchg
    show Fine (LS.xchgs n L).xchg ∧ (LS.xchgs n L).xchg.sent = _ ∧ (LS.xchgs n L).xchg.offered = _ ∧ (_ → (LS.xchgs n L).xchg.busy = 0 ∧ (LS.xchgs n L).xchg.M.queue.length ≤ _) ∧ (_ → (LS.xchgs n L).xchg.heard = _) ∧ (_ → (LS.xchgs n L).xchg.S.pend = [])
    refine ⟨k1, k3.trans h2, k4.trans h3, fun _ => ⟨k2, ?_⟩, fun hn => ?_, fun hn => ?_⟩
    · by_cases hn : n = 0
      · subst hn
        have := k1.q8
        omega
      · obtain ⟨b0, q0⟩ := h4 (by omega)
        rw [(h1.clean b0).1, List.length_tail]
        omega
    · obtain ⟨b0, q0⟩ := h4 (by omega)
      rw [(h1.clean b0).2.1]
      exact h3
    · obtain ⟨b0, q0⟩ := h4 (by omega)
      exact (h1.clean b0).2.2 ((h5 (by omega)).trans h3.symm)
/-- Behind forty exchanges in which all comes. -/
theorem Fine.forty {L : LS} (h : Fine L) : (LS.xchgs 40 L).came = (LS.xchgs 40 L).sent ∧ (LS.xchgs 40 L).heard = (LS.xchgs 40 L).offered ∧ (LS.xchgs 40 L).M.queue = [] ∧ (LS.xchgs 40 L).S.pend = [] := by
  obtain ⟨h1, h2, h3, h4, h5, h6⟩ := h.xchgs 40
  have hq : (LS.xchgs 40 L).M.queue = [] := List.eq_nil_of_length_eq_zero (by have := (h4 (by omega)).2; omega)
  obtain ⟨A, T, hi⟩ := h1
  refine ⟨?_, (h5 (by omega)).trans h3.symm, hq, h6 (by omega)⟩
  have h7 := hi.q
  have h8 := hi.c0
  have h9 := hi.c2
  rw [hq] at h7
  simp at h7
  omega
end Go.Proofs.Ytmhdckpmkgkglaa
