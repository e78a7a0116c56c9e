/- The plain laws of the line: what holds behind each op. -/
import Derived.Test.YtmhdckpmkgkglaaLp
set_option linter.unusedVariables false
set_option linter.unusedSimpArgs false
namespace Go.Proofs.Ytmhdckpmkgkglaa

/-- A wire on which two counts do not fall. -/
def Row (ok : Nat → Nat → FR → Prop) (A H : Nat) : Nat → Nat → List FR → Prop
  | d0, h0, [] => d0 ≤ A ∧ h0 ≤ H
  | d0, h0, f :: fs => ∃ d h, d0 ≤ d ∧ h0 ≤ h ∧ ok d h f ∧ Row ok A H d h fs
section
variable {ok ok' : Nat → Nat → FR → Prop} {A H A' H' : Nat}
theorem Row.low {fs : List FR} : ∀ {d0 h0 d1 h1 : Nat}, Row ok A H d0 h0 fs → d1 ≤ d0 → h1 ≤ h0 → Row ok A H d1 h1 fs := by
  cases fs with
  | nil => intro d0 h0 d1 h1 h k1 k2; exact ⟨by have := h.1; omega, by have := h.2; omega⟩
  | cons f fs => intro d0 h0 d1 h1 h k1 k2; obtain ⟨d, hh, e1, e2, e3, e4⟩ := h; exact ⟨d, hh, by omega, by omega, e3, e4⟩
theorem Row.ends {fs : List FR} : ∀ {d0 h0 : Nat}, Row ok A H d0 h0 fs → d0 ≤ A ∧ h0 ≤ H := by
  induction fs with
  | nil => intro d0 h0 h; exact h
  | cons f fs ih => intro d0 h0 h; obtain ⟨d, hh, e1, e2, e3, e4⟩ := h; have := ih e4; omega
theorem Row.up {fs : List FR} (hA : A ≤ A') (hH : H ≤ H') (hk : ∀ d h f, ok d h f → ok' d h f) : ∀ {d0 h0 : Nat}, Row ok A H d0 h0 fs → Row ok' A' H' d0 h0 fs := by
  induction fs with
  | nil => intro d0 h0 h; exact ⟨by have := h.1; omega, by have := h.2; omega⟩
  | cons f fs ih => intro d0 h0 h; obtain ⟨d, hh, e1, e2, e3, e4⟩ := h; exact ⟨d, hh, e1, e2, hk _ _ _ e3, ih e4⟩
theorem Row.add {f : FR} (hf : ok A H f) {fs : List FR} : ∀ {d0 h0 : Nat}, Row ok A H d0 h0 fs → Row ok A H d0 h0 (fs ++ [f]) := by
  induction fs with
  | nil => intro d0 h0 h; exact ⟨A, H, h.1, h.2, hf, Nat.le_refl _, Nat.le_refl _⟩
  | cons g fs ih => intro d0 h0 h; obtain ⟨d, hh, e1, e2, e3, e4⟩ := h; exact ⟨d, hh, e1, e2, e3, ih e4⟩
theorem Row.tail {d0 h0 : Nat} {fs : List FR} (h : Row ok A H d0 h0 fs) : Row ok A H d0 h0 fs.tail := by
  cases fs with
  | nil => exact h
  | cons f fs => obtain ⟨d, hh, e1, e2, e3, e4⟩ := h; exact e4.low e1 e2
theorem Row.dup {d0 h0 : Nat} {fs : List FR} (h : Row ok A H d0 h0 fs) : Row ok A H d0 h0 (dupF fs) := by
  cases fs with
  | nil => exact h
  | cons f fs =>
    show Row ok A H d0 h0 (if fs.length + 1 < 20 then f :: f :: fs else f :: fs)
    split
    · obtain ⟨d, hh, e1, e2, e3, e4⟩ := h
      exact ⟨d, hh, e1, e2, e3, d, hh, Nat.le_refl _, Nat.le_refl _, e3, e4⟩
    · exact h
end

def dOk (sent : Nat) (d h : Nat) (f : FR) : Prop := f.addr = 3 ∧ f.sess = 1 ∧ f.seq = (d % 2 : Nat) ∧ f.ack = (h % 2 : Nat) ∧ ((f.kind = 3 ∧ f.b = []) ∨ (f.kind = 2 ∧ f.b = two d 1 ∧ d < sent))
def uOk (offered : Nat) (t a : Nat) (f : FR) : Prop := f.addr = 3 ∧ f.sess = 1 ∧ f.kind = 5 ∧ f.seq = (t % 2 : Nat) ∧ f.ack = (a % 2 : Nat) ∧ (f.b = [] ∨ (f.b = two t 2 ∧ t < offered))

/-- What holds of a line whose session is open: A commands are acknowledged, T offers are. -/
structure Inv (L : LS) (A T : Nat) : Prop where
  ma : L.M.addr = 3
  mst : L.M.state = 1
  mn : L.M.num = 1
  mep : L.M.epoch = 1
  mq8 : L.M.queue.length ≤ 8
  ms : L.M.sends = (A % 2 : Nat)
  mh : L.M.hears = (L.heard % 2 : Nat)
  sa : L.S.addr = 3
  sn : L.S.num = 1
  st : L.S.tells = (T % 2 : Nat)
  sx : L.S.next = (L.came % 2 : Nat)
  q : A + L.M.queue.length = L.sent
  qs : ∀ (i : Nat) (b : List UInt8), L.M.queue[i]? = some b → b = two (A + i) 1
  c0 : A ≤ L.came
  c1 : L.came ≤ A + 1
  c2 : L.came ≤ L.sent
  h0 : T ≤ L.heard
  h1 : L.heard ≤ T + 1
  p : (L.S.pend = [] ∧ L.offered = T ∧ L.heard = T) ∨ (L.S.pend = two T 2 ∧ L.offered = T + 1)
  dn : Row (dOk L.sent) A L.heard (L.came - 1) T L.down
  un : Row (uOk L.offered) T L.came (L.heard - 1) A L.up
  d20 : L.down.length ≤ 20
  u20 : L.up.length ≤ 20

theorem Inv.send {L : LS} {A T : Nat} (h : Inv L A T) : Inv L.sendF A T := by
  unfold LS.sendF MS.sendF
  rw [if_neg (by rw [two_len]; omega), if_neg (by have := h.mst; omega)]
  by_cases hq : 8 ≤ L.M.queue.length
  · rw [if_pos hq]
    exact h
  · rw [if_neg hq]
    simp only [if_true]
    have hs : ∀ d e f, dOk L.sent d e f → dOk (L.sent + 1) d e f := by
      rintro d e f ⟨a1, a2, a3, a4, a5⟩
      refine ⟨a1, a2, a3, a4, a5.imp id fun ⟨b1, b2, b3⟩ => ⟨b1, b2, by omega⟩⟩
    refine ⟨h.ma, h.mst, h.mn, h.mep, ?_, h.ms, h.mh, h.sa, h.sn, h.st, h.sx, ?_, ?_, h.c0, h.c1, ?_, h.h0, h.h1, h.p, h.dn.up (Nat.le_refl _) (Nat.le_refl _) hs, h.un, h.d20, h.u20⟩
    · simp; omega
    · have := h.q; simp; omega
    · intro i b hb
      simp only at hb
      by_cases hi : i < L.M.queue.length
      · rw [List.getElem?_append_left hi] at hb
        exact h.qs i b hb
      · rw [List.getElem?_append_right (by omega)] at hb
        have hi2 : i - L.M.queue.length < 1 := by
          have := (List.getElem?_eq_some_iff.1 hb).1
          simpa using this
        have hi3 : i = L.M.queue.length := by omega
        subst hi3
        simp at hb
        rw [← hb, h.q]
    · have := h.c2; simp only; omega

theorem Inv.offer {L : LS} {A T : Nat} (h : Inv L A T) : Inv L.offerF A T := by
  unfold LS.offerF offerF
  rw [if_neg (by rw [two_len]; omega)]
  rcases h.p with ⟨p1, p2, p3⟩ | ⟨p1, p2⟩
  · rw [p1, if_neg (by simp)]
    simp only [if_true]
    have hs : ∀ d e f, uOk L.offered d e f → uOk (L.offered + 1) d e f := by
      rintro d e f ⟨a1, a2, a3, a4, a5, a6⟩
      refine ⟨a1, a2, a3, a4, a5, a6.imp id fun ⟨b1, b2⟩ => ⟨b1, by omega⟩⟩
    exact ⟨h.ma, h.mst, h.mn, h.mep, h.mq8, h.ms, h.mh, h.sa, h.sn, h.st, h.sx, h.q, h.qs, h.c0, h.c1, h.c2, h.h0, h.h1, .inr ⟨by simp only [p2], by simp only [p2]⟩, h.dn, h.un.up (Nat.le_refl _) (Nat.le_refl _) hs, h.d20, h.u20⟩
  · rw [p1, if_pos (by rw [two_len]; omega)]
    exact ⟨h.ma, h.mst, h.mn, h.mep, h.mq8, h.ms, h.mh, h.sa, h.sn, h.st, h.sx, h.q, h.qs, h.c0, h.c1, h.c2, h.h0, h.h1, .inr ⟨p1, p2⟩, h.dn, h.un, h.d20, h.u20⟩

theorem Inv.nextOk {L : LS} {A T : Nat} (h : Inv L A T) : dOk L.sent A L.heard L.M.nextF := by
  unfold MS.nextF
  rw [if_neg (by have := h.mst; omega)]
  cases hq : L.M.queue with
  | nil => exact ⟨h.ma, h.mn, h.ms, h.mh, .inl ⟨rfl, rfl⟩⟩
  | cons b bs =>
    refine ⟨h.ma, h.mn, h.ms, h.mh, .inr ⟨rfl, ?_, ?_⟩⟩
    · exact h.qs 0 b (by rw [hq]; rfl)
    · have := h.q
      rw [hq] at this
      simp at this
      omega
theorem Inv.next {L : LS} {A T : Nat} (h : Inv L A T) : Inv L.nextF A T := by
  unfold LS.nextF
  split
  · exact ⟨h.ma, h.mst, h.mn, h.mep, h.mq8, h.ms, h.mh, h.sa, h.sn, h.st, h.sx, h.q, h.qs, h.c0, h.c1, h.c2, h.h0, h.h1, h.p, h.dn.add h.nextOk, h.un, by simp; omega, h.u20⟩
  · exact h
theorem Inv.lose {L : LS} {A T : Nat} (h : Inv L A T) : Inv { L with down := L.down.tail } A T :=
  ⟨h.ma, h.mst, h.mn, h.mep, h.mq8, h.ms, h.mh, h.sa, h.sn, h.st, h.sx, h.q, h.qs, h.c0, h.c1, h.c2, h.h0, h.h1, h.p, h.dn.tail, h.un, by have := h.d20; simp; omega, h.u20⟩
theorem Inv.loseUp {L : LS} {A T : Nat} (h : Inv L A T) : Inv { L with up := L.up.tail } A T :=
  ⟨h.ma, h.mst, h.mn, h.mep, h.mq8, h.ms, h.mh, h.sa, h.sn, h.st, h.sx, h.q, h.qs, h.c0, h.c1, h.c2, h.h0, h.h1, h.p, h.dn, h.un.tail, h.d20, by have := h.u20; simp; omega⟩
theorem dup_len {l : List FR} (h : l.length ≤ 20) : (dupF l).length ≤ 20 := by
  unfold dupF
  split
  · exact h
  · split
    · simp; omega
    · exact h
theorem Inv.dup {L : LS} {A T : Nat} (h : Inv L A T) : Inv { L with down := dupF L.down } A T :=
  ⟨h.ma, h.mst, h.mn, h.mep, h.mq8, h.ms, h.mh, h.sa, h.sn, h.st, h.sx, h.q, h.qs, h.c0, h.c1, h.c2, h.h0, h.h1, h.p, h.dn.dup, h.un, dup_len h.d20, h.u20⟩
theorem Inv.dupUp {L : LS} {A T : Nat} (h : Inv L A T) : Inv { L with up := dupF L.up } A T :=
  ⟨h.ma, h.mst, h.mn, h.mep, h.mq8, h.ms, h.mh, h.sa, h.sn, h.st, h.sx, h.q, h.qs, h.c0, h.c1, h.c2, h.h0, h.h1, h.p, h.dn, h.un.dup, h.d20, dup_len h.u20⟩
end Go.Proofs.Ytmhdckpmkgkglaa
