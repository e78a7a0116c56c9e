/- The plain laws of the line: Take and Heard. -/
import Derived.Test.YtmhdckpmkgkglaaLq
set_option linter.unusedVariables false
set_option linter.unusedSimpArgs false
namespace Go.Proofs.Ytmhdckpmkgkglaa

/-- What the slave does with the first frame down. -/
theorem Inv.takes {L : LS} {A T : Nat} {f : FR} {ds : List FR} (h : Inv L A T) (hd : L.down = f :: ds) :
    ∃ (T' c' : Nat) (S' : SS) (b : List UInt8), takeF L.S f = (⟨3, 5, 1, (T' % 2 : Nat), (c' % 2 : Nat), S'.pend⟩, b, true, S') ∧ ((b = [] ∧ c' = L.came) ∨ (b = two L.came 1 ∧ c' = L.came + 1 ∧ L.came < L.sent)) ∧
      ∀ up, Row (uOk L.offered) T L.came (L.heard - 1) A up → up.length < 20 → Inv { L with S := S', down := ds, up := up ++ [⟨3, 5, 1, (T' % 2 : Nat), (c' % 2 : Nat), S'.pend⟩], came := c' } A T' := by
  have hdn := h.dn
  rw [hd] at hdn
  obtain ⟨d, e, e1, e2, hok, hrow⟩ := hdn
  obtain ⟨k1, k2, k3, k4, k5⟩ := hok
  have hen := hrow.ends
  have hc0 := h.c0
  have hc1 := h.c1
  have hc2 := h.c2
  have hh0 := h.h0
  have hh1 := h.h1
  have hst := h.st
  have hsx := h.sx
  have hd20 := h.d20
  rw [hd] at hd20
  simp only [List.length_cons] at hd20
  -- what was pending
  obtain ⟨T', S1, hS1, hTT, hT1, ht1, hx1, ha1, hn1, hp1⟩ : ∃ (T' : Nat) (S1 : SS), L.S.heard f = S1 ∧ T ≤ T' ∧ T' ≤ e ∧ S1.tells = (T' % 2 : Nat) ∧ S1.next = L.S.next ∧ S1.addr = 3 ∧ S1.num = 1 ∧ ((S1.pend = [] ∧ L.offered = T' ∧ L.heard = T') ∨ (S1.pend = two T' 2 ∧ L.offered = T' + 1)) := by
    unfold SS.heard
    rcases h.p with ⟨p1, p2, p3⟩ | ⟨p1, p2⟩
    · rw [if_neg (by rw [p1]; simp)]
      exact ⟨T, L.S, rfl, Nat.le_refl _, e2, hst, rfl, h.sa, h.sn, .inl ⟨p1, p2, p3⟩⟩
    · by_cases he : e = T + 1
      · rw [if_pos ⟨by rw [p1, two_len]; omega, by omega⟩]
        exact ⟨T + 1, _, rfl, by omega, by omega, by show 1 - L.S.tells = _; omega, rfl, h.sa, h.sn, .inl ⟨rfl, p2, by omega⟩⟩
      · rw [if_neg (by rintro ⟨_, hx⟩; exact hx (by omega))]
        exact ⟨T, L.S, rfl, Nat.le_refl _, e2, hst, rfl, h.sa, h.sn, .inr ⟨p1, p2⟩⟩
  have htk : ∀ (S2 : SS) (b : List UInt8), S1.took f = S2 → S1.command f = b → takeF L.S f = (⟨3, 5, 1, S2.tells, S2.next, S2.pend⟩, b, true, S2) := by
    intro S2 b q1 q2
    have hkind : f.kind = 2 ∨ f.kind = 3 := by
      rcases k5 with ⟨q, _⟩ | ⟨q, _⟩
      · exact .inr q
      · exact .inl q
    unfold takeF
    have hsa := h.sa
    have hsn := h.sn
    rw [if_neg (by omega), if_neg (by omega), if_neg (by omega)]
    simp only [hS1, q1, q2, hsa, hsn]
  by_cases hc : f.kind = 2 ∧ d = L.came
  · obtain ⟨hk2, hdc⟩ := hc
    have hb : f.b = two L.came 1 ∧ L.came < L.sent := by
      rcases k5 with ⟨q, _⟩ | ⟨q, q2, q3⟩
      · omega
      · rw [← hdc]
        exact ⟨q2, q3⟩
    have hsq : f.seq = S1.next := by rw [hx1, hsx, k3, hdc]
    have q1 : S1.took f = { S1 with next := 1 - S1.next } := by unfold SS.took; rw [if_pos ⟨hk2, hsq⟩]
    have q2 : S1.command f = two L.came 1 := by unfold SS.command; rw [if_pos ⟨hk2, hsq⟩, hb.1]
    have hnx : 1 - S1.next = ((L.came + 1) % 2 : Nat) := by rw [hx1, hsx]; omega
    refine ⟨T', L.came + 1, { S1 with next := 1 - S1.next }, two L.came 1, ?_, .inr ⟨rfl, rfl, hb.2⟩, fun up hup hul => ?_⟩
    · rw [htk _ _ q1 q2]
      simp only [ht1, hnx]
    · refine ⟨h.ma, h.mst, h.mn, h.mep, h.mq8, h.ms, h.mh, ha1, hn1, ht1, hnx, h.q, h.qs, by show A ≤ L.came + 1; omega, by show L.came + 1 ≤ A + 1; omega, by show L.came + 1 ≤ L.sent; omega, by show T' ≤ L.heard; omega, by show L.heard ≤ T' + 1; omega, hp1, hrow.low (by show L.came + 1 - 1 ≤ d; omega) hT1, ?_, by show ds.length ≤ 20; omega, by simp; omega⟩
      refine Row.add ⟨rfl, rfl, rfl, rfl, rfl, ?_⟩ (hup.up hTT (show L.came ≤ L.came + 1 by omega) fun _ _ _ hh => hh)
      rcases hp1 with ⟨x1, x2, x3⟩ | ⟨x1, x2⟩
      · exact .inl x1
      · exact .inr ⟨x1, by show T' < L.offered; omega⟩
  · have hno : ¬ (f.kind = 2 ∧ f.seq = S1.next) := by
      rintro ⟨y1, y2⟩
      apply hc
      refine ⟨y1, ?_⟩
      rw [hx1, hsx, k3] at y2
      omega
    have q1 : S1.took f = S1 := by unfold SS.took; rw [if_neg hno]
    have q2 : S1.command f = [] := by unfold SS.command; rw [if_neg hno]
    refine ⟨T', L.came, S1, [], ?_, .inl ⟨rfl, rfl⟩, fun up hup hul => ?_⟩
    · rw [htk _ _ q1 q2]
      simp only [ht1, hx1, hsx]
    · refine ⟨h.ma, h.mst, h.mn, h.mep, h.mq8, h.ms, h.mh, ha1, hn1, ht1, by show S1.next = _; rw [hx1, hsx], h.q, h.qs, hc0, hc1, hc2, by show T' ≤ L.heard; omega, by show L.heard ≤ T' + 1; omega, hp1, hrow.low e1 hT1, ?_, by show ds.length ≤ 20; omega, by simp; omega⟩
      refine Row.add ⟨rfl, rfl, rfl, rfl, rfl, ?_⟩ (hup.up hTT (Nat.le_refl _) fun _ _ _ hh => hh)
      rcases hp1 with ⟨x1, x2, x3⟩ | ⟨x1, x2⟩
      · exact .inl x1
      · exact .inr ⟨x1, by show T' < L.offered; omega⟩

theorem Inv.take {L : LS} {A T : Nat} (h : Inv L A T) : (L.takeF).1 = true ∧ ∃ T', Inv (L.takeF).2 A T' := by
  unfold LS.takeF
  cases hd : L.down with
  | nil => exact ⟨rfl, T, h⟩
  | cons f ds =>
    simp only []
    by_cases hu : 20 ≤ L.up.length
    · rw [if_pos hu]
      exact ⟨rfl, T, h⟩
    · rw [if_neg hu]
      obtain ⟨T', c', S', b, hF, hb, hinv⟩ := h.takes hd
      have hi := hinv L.up h.un (by omega)
      rw [hF]
      simp only []
      rw [if_neg (by simp)]
      rcases hb with ⟨rfl, rfl⟩ | ⟨rfl, rfl, hlt⟩
      · rw [if_pos (show ([] : List UInt8).length = 0 from rfl)]
        exact ⟨rfl, T', hi⟩
      · rw [if_neg (by rw [two_len]; omega), if_neg (by rintro (hh | hh); omega; exact hh rfl)]
        exact ⟨rfl, T', hi⟩

/-- What the master does with the first frame up. -/
theorem Inv.hears {L : LS} {A T : Nat} {f : FR} {us : List FR} (h : Inv L A T) (hu : L.up = f :: us) :
    ∃ (A' h' : Nat) (M' : MS) (b : List UInt8), L.M.heardF f = (b, true, M') ∧ ((b = [] ∧ h' = L.heard) ∨ (b = two L.heard 2 ∧ h' = L.heard + 1 ∧ L.heard < L.offered)) ∧ Inv { L with M := M', up := us, heard := h' } A' T := by
  have hun := h.un
  rw [hu] at hun
  obtain ⟨t, a, e1, e2, hok, hrow⟩ := hun
  obtain ⟨k1, k2, k3, k4, k5, k6⟩ := hok
  have hen := hrow.ends
  have hc0 := h.c0
  have hc1 := h.c1
  have hc2 := h.c2
  have hh0 := h.h0
  have hh1 := h.h1
  have hms := h.ms
  have hmh := h.mh
  have hq := h.q
  have hu20 := h.u20
  rw [hu] at hu20
  simp only [List.length_cons] at hu20
  -- the acknowledgement
  obtain ⟨A', M1, hM1, hAA, hA1, hA2, hs1, hy1, ha1, hn1, hst1, hep1, hq1, hql1, hqs1⟩ : ∃ (A' : Nat) (M1 : MS), MS.acked { L.M with misses := 0 } f = M1 ∧ A ≤ A' ∧ A' ≤ a ∧ L.came ≤ A' + 1 ∧ M1.sends = (A' % 2 : Nat) ∧ M1.hears = L.M.hears ∧ M1.addr = 3 ∧ M1.num = 1 ∧ M1.state = 1 ∧ M1.epoch = 1 ∧ A' + M1.queue.length = L.sent ∧ M1.queue.length ≤ 8 ∧ ∀ (i : Nat) (b : List UInt8), M1.queue[i]? = some b → b = two (A' + i) 1 := by
    unfold MS.acked
    by_cases ha : a = A + 1
    · have hqp : 0 < L.M.queue.length := by omega
      rw [if_pos ⟨hqp, by show f.ack ≠ L.M.sends; omega⟩]
      refine ⟨A + 1, _, rfl, by omega, by omega, by omega, by show 1 - L.M.sends = _; omega, rfl, h.ma, h.mn, h.mst, h.mep, ?_, ?_, ?_⟩
      · show A + 1 + L.M.queue.tail.length = L.sent
        simp
        omega
      · show L.M.queue.tail.length ≤ 8
        have := h.mq8
        simp
        omega
      · intro i b hb
        have hb' : L.M.queue.tail[i]? = some b := hb
        rw [List.getElem?_tail] at hb'
        rw [h.qs _ _ hb', show A + (i + 1) = A + 1 + i by omega]
    · rw [if_neg (by rintro ⟨_, hx⟩; exact hx (by show f.ack = L.M.sends; omega))]
      exact ⟨A, _, rfl, Nat.le_refl _, e2, by omega, hms, rfl, h.ma, h.mn, h.mst, h.mep, hq, h.mq8, h.qs⟩
  have hH : L.M.heardF f = ((MS.replyF { L.M with misses := 0 } f).1, true, (MS.replyF { L.M with misses := 0 } f).2) := by
    have hma := h.ma
    have hmst := h.mst
    have hmn := h.mn
    unfold MS.heardF
    rw [if_neg (by omega), if_neg (by omega), if_neg (by omega), if_neg (by omega)]
  rw [hH]
  unfold MS.replyF
  rw [hM1]
  by_cases hc : f.b = two L.heard 2 ∧ t = L.heard
  · obtain ⟨hb, ht⟩ := hc
    have hlt : L.heard < L.offered := by
      rcases k6 with q | ⟨_, q⟩
      · rw [q] at hb
        cases hb
      · omega
    rw [if_neg (by rintro (hx | hx); rw [hb, two_len] at hx; omega; exact hx (by rw [hy1]; omega))]
    refine ⟨A', L.heard + 1, _, _, rfl, .inr ⟨hb, rfl, hlt⟩, ⟨ha1, hst1, hn1, hep1, hql1, hs1, ?_, h.sa, h.sn, h.st, h.sx, hq1, hqs1, by show A' ≤ L.came; omega, hA2, hc2, by show T ≤ L.heard + 1; omega, by show L.heard + 1 ≤ T + 1; omega, ?_, h.dn.up hAA (by show L.heard ≤ L.heard + 1; omega) fun _ _ _ hh => hh, hrow.low (by show L.heard + 1 - 1 ≤ t; omega) hA1, h.d20, by show us.length ≤ 20; omega⟩⟩
    · show 1 - M1.hears = ((L.heard + 1) % 2 : Nat)
      rw [hy1]
      omega
    · rcases h.p with ⟨p1, p2, p3⟩ | ⟨p1, p2⟩
      · omega
      · exact .inr ⟨p1, p2⟩
  · have hno : f.b.length = 0 ∨ f.seq ≠ M1.hears := by
      rcases k6 with q | ⟨q, q2⟩
      · exact .inl (by rw [q]; rfl)
      · right
        intro hx
        rw [hy1, hmh, k4] at hx
        have ht : t = L.heard := by omega
        exact hc ⟨by rw [q, ht], ht⟩
    rw [if_pos hno]
    exact ⟨A', L.heard, _, _, rfl, .inl ⟨rfl, rfl⟩, ⟨ha1, hst1, hn1, hep1, hql1, hs1, by show M1.hears = _; rw [hy1]; exact hmh, h.sa, h.sn, h.st, h.sx, hq1, hqs1, by show A' ≤ L.came; omega, hA2, hc2, hh0, hh1, h.p, h.dn.up hAA (Nat.le_refl _) fun _ _ _ hh => hh, hrow.low e1 hA1, h.d20, by show us.length ≤ 20; omega⟩⟩

theorem Inv.heard' {L : LS} {A T : Nat} (h : Inv L A T) : (L.heardF).1 = true ∧ ∃ A', Inv (L.heardF).2 A' T := by
  unfold LS.heardF
  cases hu : L.up with
  | nil => exact ⟨rfl, A, h⟩
  | cons f us =>
    obtain ⟨A', h', M', b, hF, hb, hi⟩ := h.hears hu
    simp only []
    rw [hF]
    simp only []
    rw [if_neg (by simp)]
    rcases hb with ⟨rfl, rfl⟩ | ⟨rfl, rfl, hlt⟩
    · rw [if_pos (show ([] : List UInt8).length = 0 from rfl)]
      exact ⟨rfl, A', hi⟩
    · rw [if_neg (by rw [two_len]; omega), if_neg (by rintro (hh | hh); omega; exact hh rfl)]
      exact ⟨rfl, A', hi⟩
/-- Behind each op. -/
theorem Inv.does {L : LS} {A T : Nat} (h : Inv L A T) (k : Int) : (L.doesF k).1 = true ∧ ∃ A' T', Inv (L.doesF k).2 A' T' := by
  unfold LS.doesF
  by_cases k0 : k = 0
  · rw [if_pos k0]
    exact ⟨rfl, A, T, h.send⟩
  rw [if_neg k0]
  by_cases k1 : k = 1
  · rw [if_pos k1]
    exact ⟨rfl, A, T, h.offer⟩
  rw [if_neg k1]
  by_cases k2 : k = 2 ∨ k = 3
  · rw [if_pos k2]
    exact ⟨rfl, A, T, h.next⟩
  rw [if_neg k2]
  by_cases k4 : k = 4 ∨ k = 5 ∨ k = 6
  · rw [if_pos k4]
    exact ⟨h.take.1, A, h.take.2⟩
  rw [if_neg k4]
  by_cases k7 : k = 7 ∨ k = 8 ∨ k = 9
  · rw [if_pos k7]
    obtain ⟨h1, A', h2⟩ := h.heard'
    exact ⟨h1, A', T, h2⟩
  rw [if_neg k7]
  by_cases k10 : k = 10
  · rw [if_pos k10]
    exact ⟨rfl, A, T, h.lose⟩
  rw [if_neg k10]
  by_cases k11 : k = 11
  · rw [if_pos k11]
    exact ⟨rfl, A, T, h.loseUp⟩
  rw [if_neg k11]
  by_cases k12 : k = 12
  · rw [if_pos k12]
    exact ⟨rfl, A, T, h.dup⟩
  rw [if_neg k12]
  by_cases k13 : k = 13
  · rw [if_pos k13]
    exact ⟨rfl, A, T, h.dupUp⟩
  rw [if_neg k13]
  exact ⟨rfl, A, T, h⟩
end Go.Proofs.Ytmhdckpmkgkglaa
