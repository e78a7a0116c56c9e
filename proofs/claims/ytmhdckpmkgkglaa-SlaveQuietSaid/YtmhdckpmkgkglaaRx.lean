/- The contract of the reference's Take over the plain state. -/
import Derived.Test.YtmhdckpmkgkglaaQ1
import Derived.Test.YtmhdckpmkgkglaaQ2
import Derived.Test.YtmhdckpmkgkglaaQ3
import Derived.Test.YtmhdckpmkgkglaaQ4
set_option linter.unusedVariables false
set_option linter.unusedSimpArgs false
namespace Go.Proofs.Ytmhdckpmkgkglaa
open Go.RowKit

theorem ref_take (w : World) (g : Nat) (S S' : SS) (f r : FR) (cmd : List UInt8) (ok : Bool) (h : RefAt w g S) (t01 : S.tells = 0 ∨ S.tells = 1) (x01 : S.next = 0 ∨ S.next = 1)
    (hF : takeF S f = (r, cmd, ok, S')) :
    Calls Try.prog 18 #[.pointer (some ⟨g, 0, none⟩), .agg #[.int .u8 f.addr, .int .u8 f.kind, .int .u8 f.sess, .int .u8 f.seq, .int .u8 f.ack, .string ⟨f.b.toArray⟩]] w fun e w' =>
      e = .returned (.tuple #[.agg #[.int .u8 r.addr, .int .u8 r.kind, .int .u8 r.sess, .int .u8 r.seq, .int .u8 r.ack, .string ⟨r.b.toArray⟩], .string ⟨cmd.toArray⟩, .bool ok]) ∧ w.grownBy w' (some g) ∧ RefAt w' g S' := by
  unfold takeF at hF
  split at hF
  · rename_i hno
    cases hF
    by_cases ha : f.addr = S.addr
    · by_cases hk : f.kind < 1
      · exact rtake_no2 w g S.addr S.num S.tells S.next f.addr f.kind f.sess f.seq f.ack S.pend f.b h ha hk
      · exact rtake_no3 w g S.addr S.num S.tells S.next f.addr f.kind f.sess f.seq f.ack S.pend f.b h ha (by omega)
    · exact rtake_no1 w g S.addr S.num S.tells S.next f.addr f.kind f.sess f.seq f.ack S.pend f.b h ha
  · rename_i hno
    have hfa : f.addr = S.addr := by by_cases e : f.addr = S.addr; exact e; exact absurd (.inl e) hno
    split at hF
    · rename_i hk
      cases hF
      exact rtake_open w g S.addr S.num S.tells S.next f.addr f.kind f.sess f.seq f.ack S.pend f.b h hfa hk
    · rename_i hk
      have hk3 : f.kind = 2 ∨ f.kind = 3 := by omega
      split at hF
      · rename_i hs
        cases hF
        by_cases hs' : f.sess = S.num
        · have hn : S.num = 0 := by rcases hs with e | e; exact e; exact absurd hs' e
          rcases hk3 with k | k
          · exact rtake_oth2b w g S.addr S.num S.tells S.next f.addr f.kind f.sess f.seq f.ack S.pend f.b h hfa k hs' hn
          · exact rtake_oth3b w g S.addr S.num S.tells S.next f.addr f.kind f.sess f.seq f.ack S.pend f.b h hfa k hs' hn
        · rcases hk3 with k | k
          · exact rtake_oth2a w g S.addr S.num S.tells S.next f.addr f.kind f.sess f.seq f.ack S.pend f.b h hfa k hs'
          · exact rtake_oth3a w g S.addr S.num S.tells S.next f.addr f.kind f.sess f.seq f.ack S.pend f.b h hfa k hs'
      · rename_i hs
        have hn0 : S.num ≠ 0 := fun e => hs (.inl e)
        have hsn : f.sess = S.num := by by_cases e : f.sess = S.num; exact e; exact absurd (.inr e) hs
        by_cases hp : S.pend = []
        · have hh : S.heard f = S := by unfold SS.heard; rw [if_neg (by simp [hp])]
          rw [hh] at hF
          have hS : S = ⟨S.addr, S.num, S.tells, S.next, []⟩ := by rw [← hp]
          rcases hk3 with k2 | k3
          · by_cases hq : f.seq = S.next
            · have e1 : S.took f = { S with next := 1 - S.next } := by unfold SS.took; rw [if_pos ⟨k2, hq⟩]
              have e2 : S.command f = f.b := by unfold SS.command; rw [if_pos ⟨k2, hq⟩]
              simp only [e1, e2] at hF
              cases hF
              simp only [RefAt, hp] at h ⊢
              exact rtake_nn w g S.addr S.num S.tells S.next f.addr f.kind f.sess f.seq f.ack [] f.b h t01 x01 hfa hn0 hsn rfl k2 hq
            · have e1 : S.took f = S := by unfold SS.took; rw [if_neg (fun e => hq e.2)]
              have e2 : S.command f = [] := by unfold SS.command; rw [if_neg (fun e => hq e.2)]
              simp only [e1, e2] at hF
              cases hF
              simp only [RefAt, hp] at h ⊢
              exact rtake_no w g S.addr S.num S.tells S.next f.addr f.kind f.sess f.seq f.ack [] f.b h t01 x01 hfa hn0 hsn rfl k2 hq
          · have e1 : S.took f = S := by unfold SS.took; rw [if_neg (fun e => by omega)]
            have e2 : S.command f = [] := by unfold SS.command; rw [if_neg (fun e => by omega)]
            simp only [e1, e2] at hF
            cases hF
            simp only [RefAt, hp] at h ⊢
            exact rtake_np w g S.addr S.num S.tells S.next f.addr f.kind f.sess f.seq f.ack [] f.b h t01 x01 hfa hn0 hsn rfl k3
        · have hp0 : 0 < S.pend.length := List.length_pos_iff.2 hp
          by_cases hac : f.ack = S.tells
          · have hh : S.heard f = S := by unfold SS.heard; rw [if_neg (fun e => e.2 hac)]
            rw [hh] at hF
            rcases hk3 with k2 | k3
            · by_cases hq : f.seq = S.next
              · have e1 : S.took f = { S with next := 1 - S.next } := by unfold SS.took; rw [if_pos ⟨k2, hq⟩]
                have e2 : S.command f = f.b := by unfold SS.command; rw [if_pos ⟨k2, hq⟩]
                simp only [e1, e2] at hF
                cases hF
                exact rtake_sn w g S.addr S.num S.tells S.next f.addr f.kind f.sess f.seq f.ack S.pend f.b h t01 x01 hfa hn0 hsn hp0 hac k2 hq
              · have e1 : S.took f = S := by unfold SS.took; rw [if_neg (fun e => hq e.2)]
                have e2 : S.command f = [] := by unfold SS.command; rw [if_neg (fun e => hq e.2)]
                simp only [e1, e2] at hF
                cases hF
                exact rtake_so w g S.addr S.num S.tells S.next f.addr f.kind f.sess f.seq f.ack S.pend f.b h t01 x01 hfa hn0 hsn hp0 hac k2 hq
            · have e1 : S.took f = S := by unfold SS.took; rw [if_neg (fun e => by omega)]
              have e2 : S.command f = [] := by unfold SS.command; rw [if_neg (fun e => by omega)]
              simp only [e1, e2] at hF
              cases hF
              exact rtake_sp w g S.addr S.num S.tells S.next f.addr f.kind f.sess f.seq f.ack S.pend f.b h t01 x01 hfa hn0 hsn hp0 hac k3
          · have hh : S.heard f = { S with tells := 1 - S.tells, pend := [] } := by unfold SS.heard; rw [if_pos ⟨hp0, hac⟩]
            rw [hh] at hF
            rcases hk3 with k2 | k3
            · by_cases hq : f.seq = S.next
              · have e1 : SS.took { S with tells := 1 - S.tells, pend := [] } f = { S with tells := 1 - S.tells, pend := [], next := 1 - S.next } := by unfold SS.took; rw [if_pos ⟨k2, hq⟩]
                have e2 : SS.command { S with tells := 1 - S.tells, pend := [] } f = f.b := by unfold SS.command; rw [if_pos ⟨k2, hq⟩]
                simp only [e1, e2] at hF
                cases hF
                exact rtake_hn w g S.addr S.num S.tells S.next f.addr f.kind f.sess f.seq f.ack S.pend f.b h t01 x01 hfa hn0 hsn hp0 hac k2 hq
              · have e1 : SS.took { S with tells := 1 - S.tells, pend := [] } f = { S with tells := 1 - S.tells, pend := [] } := by unfold SS.took; rw [if_neg (fun e => hq e.2)]
                have e2 : SS.command { S with tells := 1 - S.tells, pend := [] } f = [] := by unfold SS.command; rw [if_neg (fun e => hq e.2)]
                simp only [e1, e2] at hF
                cases hF
                exact rtake_ho w g S.addr S.num S.tells S.next f.addr f.kind f.sess f.seq f.ack S.pend f.b h t01 x01 hfa hn0 hsn hp0 hac k2 hq
            · have e1 : SS.took { S with tells := 1 - S.tells, pend := [] } f = { S with tells := 1 - S.tells, pend := [] } := by unfold SS.took; rw [if_neg (fun e => by omega)]
              have e2 : SS.command { S with tells := 1 - S.tells, pend := [] } f = [] := by unfold SS.command; rw [if_neg (fun e => by omega)]
              simp only [e1, e2] at hF
              cases hF
              exact rtake_hp w g S.addr S.num S.tells S.next f.addr f.kind f.sess f.seq f.ack S.pend f.b h t01 x01 hfa hn0 hsn hp0 hac k3
end Go.Proofs.Ytmhdckpmkgkglaa
