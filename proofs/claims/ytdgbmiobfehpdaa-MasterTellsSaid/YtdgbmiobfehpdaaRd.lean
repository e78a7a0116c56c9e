/- The reference's Heard over the plain state. -/
import Derived.Test.YtdgbmiobfehpdaaRc
set_option linter.unusedVariables false
set_option linter.unusedSimpArgs false
namespace Go.Proofs.Ytdgbmiobfehpdaa
open Go.RowKit

theorem refm_reply (w : World) (B g : Nat) (M M' : MS) (f : FR) (l : List UInt8) (h : RefMAt w B g M) (hst : M.state = 1) (hfa : f.addr = M.addr) (hfk : f.kind = 5) (hfs : f.sess = M.num)
    (hF : MS.replyF { M with misses := 0 } f = (l, M')) :
    Calls Try.prog 20 #[.pointer (some ⟨g, 0, none⟩), .agg #[.int .u8 f.addr, .int .u8 f.kind, .int .u8 f.sess, .int .u8 f.seq, .int .u8 f.ack, .string ⟨f.b.toArray⟩]] w fun e w' =>
      e = .returned (.tuple #[strV l, .bool true]) ∧ w.grownBy w' (some g) ∧ RefMAt w' B g M' := by
  have hok := h.ok.misses0.reply f
  rw [hF] at hok
  obtain ⟨v, hg, hq⟩ := h.ex
  have ha : (MS.acked { M with misses := 0 } f).hears = M.hears := by unfold MS.acked; split <;> rfl
  have e1 : l = (if f.b.length = 0 ∨ f.seq ≠ M.hears then [] else f.b) := by
    unfold MS.replyF at hF
    rw [ha] at hF
    split at hF <;> (cases hF; rename_i hc; simp only [hc]; simp)
  have e2 : M' = { MS.acked { M with misses := 0 } f with hears := (if f.b.length = 0 ∨ f.seq ≠ M.hears then M.hears else 1 - M.hears) } := by
    unfold MS.replyF at hF
    rw [ha] at hF
    split at hF
    · rename_i hc
      cases hF
      rw [if_pos hc]
      have hx : ∀ X : MS, X.hears = M.hears → X = { X with hears := M.hears } := by
        rintro ⟨_, _, _, _, _, _, _, _, _⟩ hX
        simp only at hX
        subst hX
        rfl
      exact hx _ ha
    · rename_i hc
      cases hF
      rw [if_neg hc]
  have hR : RepF f.b f.seq M.hears (if f.b.length = 0 ∨ f.seq ≠ M.hears then M.hears else 1 - M.hears) l := ⟨rfl, e1⟩
  rw [hst] at hg
  rw [hfa, hfk, hfs]
  rcases hM : M.queue with _ | ⟨b0, q⟩
  · have e3 : MS.acked { M with misses := 0 } f = { M with misses := 0 } := by unfold MS.acked; rw [if_neg (by simp [hM])]
    rw [e3] at e2
    have hq' := hq
    rw [hM] at hq
    obtain ⟨A', c', rfl⟩ := hq.slice
    refine (rheard_r1 w g M.addr M.num M.tries M.epoch M.sends M.hears M.misses f.seq f.ack A' c' 0 f.b h.ok.s01 h.ok.h01 _ l hR hg).mono ?_
    rintro e w' ⟨rfl, hgr, hg'⟩
    refine ⟨rfl, hgr, ?_⟩
    rw [e2] at hok ⊢
    refine RefMAt.bits h.ge hok hg (by simpa [hM] using hq) hgr ?_
    dsimp only
    rw [hst]
    exact hg'
  · have hq' := hq
    rw [hM] at hq
    obtain ⟨i0, hi, hz0, hz1, hz2⟩ := info_parts Try.infoStr
    obtain ⟨v', hsl, ho', _⟩ := OffRow.tail (P := Try.prog) (t := 49) Try.underlying49 hi hz1 hq
    obtain ⟨A2, c2, rfl⟩ := ho'.slice
    obtain ⟨A', c', rfl⟩ := hq.slice
    by_cases hac : f.ack = M.sends
    · have e3 : MS.acked { M with misses := 0 } f = { M with misses := 0 } := by unfold MS.acked; rw [if_neg (fun e => e.2 hac)]
      rw [e3] at e2
      refine (rheard_r2 w g M.addr M.num M.tries M.epoch M.sends M.hears M.misses f.seq f.ack A' c' (q.length + 1) f.b (by omega) hac h.ok.s01 h.ok.h01 _ l hR hg).mono ?_
      rintro e w' ⟨rfl, hgr, hg'⟩
      refine ⟨rfl, hgr, ?_⟩
      rw [e2] at hok ⊢
      refine RefMAt.bits h.ge hok hg hq' hgr ?_
      dsimp only
      rw [hst]
      exact hg'
    · have e3 : MS.acked { M with misses := 0 } f = { M with misses := 0, queue := q, sends := 1 - M.sends } := by unfold MS.acked; rw [if_pos ⟨by simp [hM], hac⟩]; simp [hM]
      rw [e3] at e2
      refine (rheard_r3 w g M.addr M.num M.tries M.epoch M.sends M.hears M.misses f.seq f.ack A' c' (q.length + 1) f.b (by omega) hac A2 c2 q.length hsl h.ok.s01 h.ok.h01 _ l hR hg).mono ?_
      rintro e w' ⟨rfl, hgr, hg'⟩
      refine ⟨rfl, hgr, ?_⟩
      rw [e2] at hok ⊢
      refine RefMAt.bits h.ge hok hg (by simpa using ho') hgr ?_
      dsimp only
      rw [hst]
      exact hg'

theorem refm_heard (w : World) (B g : Nat) (M M' : MS) (f : FR) (l : List UInt8) (ok : Bool) (h : RefMAt w B g M) (he0 : 0 ≤ M.epoch) (he1 : M.epoch ≤ 1000000000) (hF : M.heardF f = (l, ok, M')) :
    Calls Try.prog 20 #[.pointer (some ⟨g, 0, none⟩), .agg #[.int .u8 f.addr, .int .u8 f.kind, .int .u8 f.sess, .int .u8 f.seq, .int .u8 f.ack, .string ⟨f.b.toArray⟩]] w fun e w' =>
      e = .returned (.tuple #[strV l, .bool ok]) ∧ w.grownBy w' (some g) ∧ RefMAt w' B g M' := by
  have hok := h.ok.heard hF
  obtain ⟨v, hg, hq⟩ := h.ex
  unfold MS.heardF at hF
  split at hF
  · rename_i hno
    cases hF
    refine (rheard_none w g _ _ _ _ _ _ _ _ f.addr f.kind f.sess f.seq f.ack v f.b hno hg).mono ?_
    rintro e w' ⟨rfl, hbel⟩
    exact ⟨rfl, grown_below hbel _, h.below hbel⟩
  · rename_i hno
    have hfa : f.addr = M.addr := by by_cases e : f.addr = M.addr; exact e; exact absurd (.inl e) hno
    have hk45 : f.kind = 4 ∨ f.kind = 5 := by
      by_cases e : f.kind = 4
      · exact .inl e
      · by_cases e' : f.kind = 5
        · exact .inr e'
        · exact absurd (.inr ⟨e, e'⟩) hno
    split at hF
    · rename_i hst
      split at hF
      · rename_i hk
        cases hF
        rw [hfa]
        refine (rheard_quiet w g _ _ _ _ _ _ _ _ 0 f.kind f.sess f.seq f.ack v f.b hst (by
          rcases hk45 with k | k
          · refine .inr ⟨k, ?_⟩
            rcases hk with k' | k'
            · exact absurd k k'
            · exact k'
          · exact .inl k) hg).mono ?_
        rintro e w' ⟨rfl, hbel⟩
        exact ⟨rfl, grown_below hbel _, h.below hbel⟩
      · rename_i hk
        cases hF
        have k4 : f.kind = 4 := by by_cases e : f.kind = 4; exact e; exact absurd (.inl e) hk
        have ks : f.sess = M.num := by by_cases e : f.sess = M.num; exact e; exact absurd (.inr e) hk
        rw [hfa, k4, ks]
        refine (rheard_opens w g _ _ _ _ _ _ _ _ 0 0 0 f.seq f.ack v f.b hst he0 he1 hg).mono ?_
        rintro e w' ⟨rfl, hgr, hg'⟩
        exact ⟨rfl, hgr, RefMAt.bits h.ge hok hg hq hgr hg'⟩
    · rename_i hst
      have hst1 : M.state = 1 := by by_cases e : M.state = 1; exact e; exact absurd e hst
      split at hF
      · rename_i hs
        cases hF
        rw [hfa]
        rw [hst1] at hg
        refine (rheard_closes w g _ _ _ 0 _ _ _ _ 0 f.kind f.sess f.seq f.ack v f.b hk45 hs h.ok.n0 h.ok.n1 hg).mono ?_
        rintro e w' ⟨rfl, hgr, hg'⟩
        exact ⟨rfl, hgr, RefMAt.bits h.ge hok hg (OffRow.nil _ _ _ _) hgr hg'⟩
      · rename_i hs
        have ks : f.sess = M.num := by by_cases e : f.sess = M.num; exact e; exact absurd e hs
        split at hF
        · rename_i hk
          cases hF
          rw [hfa, hk, ks]
          rw [hst1] at hg
          refine (rheard_again w g _ _ _ 0 _ _ _ _ 0 0 0 f.seq f.ack v f.b hg).mono ?_
          rintro e w' ⟨rfl, hgr, hg'⟩
          refine ⟨rfl, hgr, RefMAt.bits h.ge hok hg hq hgr ?_⟩
          dsimp only
          rw [hst1]
          exact hg'
        · rename_i hk
          cases hF
          exact refm_reply w B g M _ f _ h hst1 hfa (by rcases hk45 with k | k; exact absurd k hk; exact k) ks rfl
end Go.Proofs.Ytdgbmiobfehpdaa
