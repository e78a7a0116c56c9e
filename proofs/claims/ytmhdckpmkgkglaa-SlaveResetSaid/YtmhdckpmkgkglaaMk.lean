/- Laws of steps for the laws on masters: from call to call. -/
import Derived.Test.YtmhdckpmkgkglaaMj
set_option linter.unusedVariables false
set_option linter.unusedSimpArgs false
namespace Go.Proofs.Ytmhdckpmkgkglaa
open Go.RowKit

theorem Kept.own {B B' n : Nat} {ts : List TypeId} {w w' : World} {t size : Nat} {v : Value} {xs : List Value} (h : Kept B ts w w') (ht : t ∉ ts) (ho : w.ownsRow B' t size v n xs) : w'.ownsRow B' t size v n xs :=
  own_keep ho fun k hk => by
    obtain ⟨cs, fr, hh⟩ := own_ty ho k hk
    exact h.block k (blk_lt hh) (.inr ⟨_, _, _, hh, ht⟩)
section
variable {w wi W wj : World} {B Bw : Nat} {ts : List TypeId}
theorem stepK (h : Below Bw w wi) (hB : Bw ≤ wi.heap.size) (hW : Below wi.heap.size wi W) (hk : Kept B ts W wj) (hBw : Bw ≤ B) : Below Bw w wj :=
  (h.trans (hW.mono hB)).trans ⟨hk.os, hk.tape, hk.output, hk.size, fun i hi => by
    by_cases hs : i < W.heap.size
    · exact hk.block i hs (.inl (by omega))
    · have := hW.size
      omega⟩
theorem boxK {k : Nat} {cs : Array Value} {t : TypeId} {fr : Nat × Nat} (hx : wi.heap[k]? = some (.cells cs t fr)) (hW : Below wi.heap.size wi W) (hk : Kept B ts W wj) (ht : t ∉ ts) : wj.heap[k]? = some (.cells cs t fr) :=
  hk.blk (blk_below' hx hW) ht
theorem rowK {B' n t size : Nat} {v : Value} {xs : List Value} (ho : wi.ownsRow B' t size v n xs) (hW : Below wi.heap.size wi W) (hk : Kept B ts W wj) (ht : t ∉ ts) : wj.ownsRow B' t size v n xs :=
  hk.own ht (own_below ho hW)
end

theorem masterK_heard (w : World) (B g : Nat) (M M' : MS) (f : FR) (A : Option Addr) (m c : Nat) (l : List UInt8) (ok : Bool) (hm : m = f.b.length) (h : MasterAt w B g M) (hb : ReadsB w (.slice A m c) f.b) (hn : NotIn g (.slice A m c) f.b)
    (he0 : 0 ≤ M.epoch) (he1 : M.epoch ≤ 1000000000) (hF : M.heardF f = (l, ok, M')) :
    Calls Try.prog 27 #[.pointer (some ⟨g, 0, none⟩), .agg #[.int .u8 f.addr, .int .u8 f.kind, .int .u8 f.sess, .int .u8 f.seq, .int .u8 f.ack, .slice A m c]] w fun e w' =>
      ∃ r, e = .returned (.tuple #[r, .bool ok]) ∧ w'.ownsRow w.heap.size 5 1 r l.length (bytesV l) ∧ Kept B [77, 22] w w' ∧ MasterAt w' B g M' := by
  subst hm
  refine (master_heard w B g M M' f A c l ok h hb hn he0 he1 hF).mono ?_
  rintro e w' ⟨r, rfl, ho, hgr, hm⟩
  obtain ⟨v, hg, hq⟩ := h.ex
  exact ⟨r, rfl, ho, Kept.of_grown hgr hg (by simp) h.ge, hm⟩
theorem masterK_send (w : World) (B g : Nat) (M M' : MS) (bv : Value) (b : List UInt8) (n : Int) (h : MasterAt w B g M) (hb : ReadsB w bv b) (hF : M.sendF b = (n, M')) :
    Calls Try.prog 33 #[.pointer (some ⟨g, 0, none⟩), bv] w fun e w' => e = .returned (.int .i64 n) ∧ Kept B [77, 22] w w' ∧ MasterAt w' B g M' := by
  obtain ⟨v, hg, hq⟩ := h.ex
  unfold MS.sendF at hF
  split at hF
  · rename_i hl
    cases hF
    refine (send_no w g bv b hb (by rcases hl with hl | hl; exact .inl (List.eq_nil_of_length_eq_zero hl); exact .inr hl)).mono ?_
    rintro e w' ⟨rfl, rfl⟩
    exact ⟨rfl, Kept.refl _ _ _, h⟩
  · rename_i hl
    split at hF
    · rename_i hst
      cases hF
      refine (send_state w g M.state bv b hb (by omega) (by omega) (blk_cell hg 5) hst).mono ?_
      rintro e w' ⟨rfl, rfl⟩
      exact ⟨rfl, Kept.refl _ _ _, h⟩
    · rename_i hst
      have hst1 : M.state = 1 := by by_cases e : M.state = 1; exact e; exact absurd e hst
      split at hF
      · rename_i hq8
        cases hF
        obtain ⟨vs, _, ho, _⟩ := hq
        obtain ⟨A', c', rfl⟩ := ho.slice
        refine (send_full w g M.queue.length c' A' bv b hb (by omega) (by omega) (by have := blk_cell hg 5; rw [hst1] at this; exact this) (blk_cell hg 7) hq8).mono ?_
        rintro e w' ⟨rfl, rfl⟩
        exact ⟨rfl, Kept.refl _ _ _, h⟩
      · rename_i hq8
        cases hF
        exact send_ok w B g M bv b hb (by omega) (by omega) h hst1 (by omega)
end Go.Proofs.Ytmhdckpmkgkglaa
