/- Master.reply over the plain state. -/
import Derived.Test.YtmhdckpmkgkglaaMh
set_option linter.unusedVariables false
set_option linter.unusedSimpArgs false
namespace Go.Proofs.Ytmhdckpmkgkglaa
open Go.RowKit

theorem QueueAt.tail {w : World} {B : Nat} {v : Value} {b : List UInt8} {q : List (List UInt8)} (h : QueueAt w B v (b :: q)) :
    ∃ A2 c2, (∀ W : World, (Instr.slice 75 v (some (.int .i64 1)) none none).run Try.prog W = .ok (.slice A2 q.length c2) W) ∧ QueueAt w B (.slice A2 q.length c2) q := by
  obtain ⟨i0, hi, hz0, hz1, hz2⟩ := info_parts Try.infoSl
  obtain ⟨vs, hl, ho, hr⟩ := h
  obtain ⟨v', hsl, ho', _⟩ := OffRow.tail (P := Try.prog) (t := 75) Try.underlying75 hi hz1 ho
  obtain ⟨A2, c2, rfl⟩ := ho'.slice
  refine ⟨A2, c2, hsl, vs.drop 1, by simp [hl], ho', fun i u x hu hx => hr (i + 1) u x ?_ ?_⟩
  · rw [List.getElem?_drop] at hu
    rw [Nat.add_comm]
    exact hu
  · simpa using hx

theorem MasterAt.bits {w w1 : World} {B g : Nat} {M' : MS} {v : Value} {cs : Array Value} (hB : B ≤ g) (hok : M'.Ok) (hg : w.heap[g]? = some (.cells cs 77 (0, 0))) (hq : QueueAt w B v M'.queue) (hgr : w.grownBy w1 (some g))
    (hn : w1.heap[g]? = some (.cells #[.int .u8 M'.sends, .int .u8 M'.hears, .int .u8 M'.addr, .int .u8 M'.num, .int .i64 M'.tries, .int .i64 M'.state, .int .i64 M'.epoch, v, .int .i64 M'.misses] 77 (0, 0))) : MasterAt w1 B g M' :=
  ⟨hB, hok, v, hn, hq.kept (Kept.of_grown (ts := [77]) hgr hg (by simp) hB) (by decide) (by decide)⟩

theorem master_reply (w : World) (B g : Nat) (M M' : MS) (f : FR) (A : Option Addr) (c : Nat) (l : List UInt8) (h : MasterAt w B g M) (hb : ReadsB w (.slice A f.b.length c) f.b) (hn : NotIn g (.slice A f.b.length c) f.b)
    (hF : M.replyF f = (l, M')) :
    Calls Try.prog 36 #[.pointer (some ⟨g, 0, none⟩), .agg #[.int .u8 f.addr, .int .u8 f.kind, .int .u8 f.sess, .int .u8 f.seq, .int .u8 f.ack, .slice A f.b.length c]] w fun e w' =>
      ∃ r, e = .returned r ∧ w'.ownsRow w.heap.size 5 1 r l.length (bytesV l) ∧ w.grownBy w' (some g) ∧ MasterAt w' B g M' := by
  have hok := h.ok.reply f
  rw [hF] at hok
  obtain ⟨v, hg, hq⟩ := h.ex
  have hR : Nat → RepF f.b f.seq M.hears (if f.b.length = 0 ∨ f.seq ≠ M.hears then M.hears else 1 - M.hears) (if f.b.length = 0 ∨ f.seq ≠ M.hears then [] else f.b) := fun _ => ⟨rfl, rfl⟩
  have ha : (M.acked f).hears = M.hears := by unfold MS.acked; split <;> rfl
  have e1 : l = (if f.b.length = 0 ∨ f.seq ≠ M.hears then [] else f.b) := by
    unfold MS.replyF at hF
    rw [ha] at hF
    split at hF <;> (cases hF; rename_i hc; simp only [hc]; simp)
  have e2 : M' = { M.acked f with hears := (if f.b.length = 0 ∨ f.seq ≠ M.hears then M.hears else 1 - M.hears) } := by
    unfold MS.replyF at hF
    rw [ha] at hF
    split at hF
    · rename_i hc
      cases hF
      rw [if_pos hc, ← ha]
    · rename_i hc
      cases hF
      rw [if_neg hc]
  rcases hM : M.queue with _ | ⟨b0, q⟩
  · have e3 : M.acked f = M := by unfold MS.acked; rw [if_neg (by rw [hM]; simp)]
    rw [e3] at e2
    have hq' := hq
    rw [hM] at hq
    obtain ⟨vs, _, ho, _⟩ := hq
    obtain ⟨A', c', rfl⟩ := ho.slice
    refine (reply_1 w g M.sends M.hears M.addr M.num M.tries M.state M.epoch M.misses f.addr f.kind f.sess f.seq f.ack A A' c c' 0 f.b h.ok.s01 h.ok.h01 hg _ _ (hR 0) hb hn).mono ?_
    rintro e w' ⟨r, rfl, hown, hgr, hg'⟩
    rw [← e1] at hown
    refine ⟨r, rfl, hown, hgr, ?_⟩
    rw [e2] at hok ⊢
    exact MasterAt.bits h.ge hok hg (by simpa [hM] using hq') hgr hg'
  · have hq' := hq
    rw [hM] at hq
    have hl := hq.tail
    obtain ⟨A2, c2, hsl, hqt⟩ := hl
    obtain ⟨ad, c', u, rfl, _⟩ := hq.head
    by_cases hac : f.ack = M.sends
    · have e3 : M.acked f = M := by unfold MS.acked; rw [if_neg (fun e => e.2 hac)]
      rw [e3] at e2
      refine (reply_2 w g M.sends M.hears M.addr M.num M.tries M.state M.epoch M.misses f.addr f.kind f.sess f.seq f.ack A (some ad) c c' (q.length + 1) f.b (by omega) hac h.ok.s01 h.ok.h01 hg _ _ (hR 0) hb hn).mono ?_
      rintro e w' ⟨r, rfl, hown, hgr, hg'⟩
      rw [← e1] at hown
      refine ⟨r, rfl, hown, hgr, ?_⟩
      rw [e2] at hok ⊢
      exact MasterAt.bits h.ge hok hg hq' hgr hg'
    · have e3 : M.acked f = { M with queue := q, sends := 1 - M.sends } := by unfold MS.acked; rw [if_pos ⟨by rw [hM]; simp, hac⟩, hM]; rfl
      rw [e3] at e2
      refine (reply_3 w g M.sends M.hears M.addr M.num M.tries M.state M.epoch M.misses f.addr f.kind f.sess f.seq f.ack A (some ad) c c' (q.length + 1) f.b (by omega) hac A2 c2 q.length hsl h.ok.s01 h.ok.h01 hg _ _ (hR 0) hb hn).mono ?_
      rintro e w' ⟨r, rfl, hown, hgr, hg'⟩
      rw [← e1] at hown
      refine ⟨r, rfl, hown, hgr, ?_⟩
      rw [e2] at hok ⊢
      exact MasterAt.bits h.ge hok hg hqt hgr hg'
end Go.Proofs.Ytmhdckpmkgkglaa
