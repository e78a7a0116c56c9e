/- Master.Heard. Written by gen_heard.py. -/
import Derived.Test.YtmhdckpmkgkglaaMi
set_option linter.unusedVariables false
set_option linter.unusedSimpArgs false
namespace Go.Proofs.Ytmhdckpmkgkglaa
open Go.RowKit

set_option maxHeartbeats 2000000 in
set_option maxRecDepth 100000 in
theorem heard_none (w : World) (g : Nat) (s h a n t st ep ms fa fk fs fq fc : Int) (v : Value) (A : Option Addr) (m c : Nat) (hno : fa ≠ a ∨ fk ≠ 4 ∧ fk ≠ 5)
    (hg : w.heap[g]? = some (.cells #[.int .u8 s, .int .u8 h, .int .u8 a, .int .u8 n, .int .i64 t, .int .i64 st, .int .i64 ep, v, .int .i64 ms] 77 (0, 0))) :
    Calls Try.prog 27 #[.pointer (some ⟨g, 0, none⟩), .agg #[.int .u8 fa, .int .u8 fk, .int .u8 fs, .int .u8 fq, .int .u8 fc, .slice A m c]] w fun e w' => e = .returned (.tuple #[.slice none 0 0, .bool false]) ∧ Below w.heap.size w w' := by
  obtain ⟨h0, h1, h2, h3, h4, h5, h6, h7, h8⟩ := blk9 hg
  obtain ⟨f0, f1, f2, f3, f4, f5, f6, f7, f8⟩ := frz9 hg
  have hlt := blk_lt hg
  have hne := World.new_ne w ⟨g, 0, none⟩ h0
  simp only [] at hne
  have hne5 : ¬ (g = w.heap.size) := by omega
  have HG := Lib.hid hg
  clear hg
  by_cases k1 : fa = a
  · subst k1
    have e1 : (fa != fa) = false := by simp
    have k2 : fk ≠ 4 ∧ fk ≠ 5 := by rcases hno with k | k; exact absurd rfl k; exact k
    have e2 : (fk != 4) = true := by simpa using k2.1
    have e3 : (fk != 5) = true := by simpa using k2.2
    clear hno k2
    go_enter Try.func27, Try.ntmps27
    go_wp2_with fail
    go_quiet (fail)
    go_wp2_with fail
    go_quiet (fail)
    go_wp2_with fail
    go_ret2
    refine ⟨rfl, ?_⟩
    repeat' (first | (with_reducible exact Below.refl _ _) | (with_reducible refine below_drewN ?_ _) | (with_reducible refine Below.drew ?_) | (with_reducible refine Below.setCell ?_ ?_ _) | (with_reducible refine Below.alloc ?_ ?_ _) | (simp; done) | (simp; omega))
  · have e1 : (fa != a) = true := by simpa using k1
    clear hno
    go_enter Try.func27, Try.ntmps27
    go_wp2_with fail
    go_quiet (fail)
    go_wp2_with fail
    go_quiet (fail)
    go_wp2_with fail
    go_ret2
    refine ⟨rfl, ?_⟩
    repeat' (first | (with_reducible exact Below.refl _ _) | (with_reducible refine below_drewN ?_ _) | (with_reducible refine Below.drew ?_) | (with_reducible refine Below.setCell ?_ ?_ _) | (with_reducible refine Below.alloc ?_ ?_ _) | (simp; done) | (simp; omega))

set_option maxHeartbeats 2000000 in
set_option maxRecDepth 100000 in
theorem heard_quiet (w : World) (g : Nat) (s h a n t st ep ms fa fk fs fq fc : Int) (v : Value) (A : Option Addr) (m c : Nat) (hst : st ≠ 1) (hk : fk = 5 ∨ fk = 4 ∧ fs ≠ n)
    (hg : w.heap[g]? = some (.cells #[.int .u8 s, .int .u8 h, .int .u8 a, .int .u8 n, .int .i64 t, .int .i64 st, .int .i64 ep, v, .int .i64 ms] 77 (0, 0))) :
    Calls Try.prog 27 #[.pointer (some ⟨g, 0, none⟩), .agg #[.int .u8 a, .int .u8 fk, .int .u8 fs, .int .u8 fq, .int .u8 fc, .slice A m c]] w fun e w' => e = .returned (.tuple #[.slice none 0 0, .bool false]) ∧ Below w.heap.size w w' := by
  obtain ⟨h0, h1, h2, h3, h4, h5, h6, h7, h8⟩ := blk9 hg
  obtain ⟨f0, f1, f2, f3, f4, f5, f6, f7, f8⟩ := frz9 hg
  have hlt := blk_lt hg
  have hne := World.new_ne w ⟨g, 0, none⟩ h0
  simp only [] at hne
  have hne5 : ¬ (g = w.heap.size) := by omega
  have HG := Lib.hid hg
  clear hg
  have e0 : (st != 1) = true := by simpa using hst
  have e1 : (a != a) = false := by simp
  rcases hk with rfl | ⟨rfl, hs⟩
  · have e2 : ((5 : Int) != 4) = true := by decide
    go_enter Try.func27, Try.ntmps27
    go_wp2_with fail
    go_quiet (fail)
    go_wp2_with fail
    go_quiet (fail)
    go_wp2_with fail
    go_ret2
    refine ⟨rfl, ?_⟩
    repeat' (first | (with_reducible exact Below.refl _ _) | (with_reducible refine below_drewN ?_ _) | (with_reducible refine Below.drew ?_) | (with_reducible refine Below.setCell ?_ ?_ _) | (with_reducible refine Below.alloc ?_ ?_ _) | (simp; done) | (simp; omega))
  · have e2 : (fs == n) = false := by simpa using hs
    go_enter Try.func27, Try.ntmps27
    go_wp2_with fail
    go_quiet (fail)
    go_wp2_with fail
    go_quiet (fail)
    go_wp2_with fail
    go_ret2
    refine ⟨rfl, ?_⟩
    repeat' (first | (with_reducible exact Below.refl _ _) | (with_reducible refine below_drewN ?_ _) | (with_reducible refine Below.drew ?_) | (with_reducible refine Below.setCell ?_ ?_ _) | (with_reducible refine Below.alloc ?_ ?_ _) | (simp; done) | (simp; omega))

set_option maxHeartbeats 2000000 in
set_option maxRecDepth 100000 in
theorem heard_opens (w : World) (g : Nat) (s h a n t st ep ms fa fk fs fq fc : Int) (v : Value) (A : Option Addr) (m c : Nat) (hst : st ≠ 1) (he0 : 0 ≤ ep) (he1 : ep ≤ 1000000000)
    (hg : w.heap[g]? = some (.cells #[.int .u8 s, .int .u8 h, .int .u8 a, .int .u8 n, .int .i64 t, .int .i64 st, .int .i64 ep, v, .int .i64 ms] 77 (0, 0))) :
    Calls Try.prog 27 #[.pointer (some ⟨g, 0, none⟩), .agg #[.int .u8 a, .int .u8 4, .int .u8 n, .int .u8 fq, .int .u8 fc, .slice A m c]] w fun e w' => e = .returned (.tuple #[.slice none 0 0, .bool true]) ∧ w.grownBy w' (some g) ∧ w'.heap[g]? = some (.cells #[.int .u8 0, .int .u8 0, .int .u8 a, .int .u8 n, .int .i64 t, .int .i64 1, .int .i64 (ep + 1), v, .int .i64 0] 77 (0, 0)) := by
  obtain ⟨h0, h1, h2, h3, h4, h5, h6, h7, h8⟩ := blk9 hg
  obtain ⟨f0, f1, f2, f3, f4, f5, f6, f7, f8⟩ := frz9 hg
  have hlt := blk_lt hg
  have hne := World.new_ne w ⟨g, 0, none⟩ h0
  simp only [] at hne
  have hne5 : ¬ (g = w.heap.size) := by omega
  have HG := Lib.hid hg
  clear hg
  have e0 : (st != 1) = true := by simpa using hst
  have e1 : (a != a) = false := by simp
  have e2 : (n == n) = true := by simp
  go_enter Try.func27, Try.ntmps27
  go_wp2_with fail
  go_quiet (fail)
  go_wp2_with fail
  go_quiet (fail)
  go_wp2_with fail
  refine (m_opens _ g s h a n t st ep 0 v he0 he1 ?_).mono ?_
  · exact blk_set (blk_alloc HG.out _) 8 (.int .i64 0)
  rintro e w2 ⟨rfl, hgr, hg2⟩
  have HG2 := Lib.hid hg2
  have HGR : Hid (w.grownBy w2 (some g)) := by
    refine grown_trans ?_ hgr
    repeat' (first | (with_reducible exact grown_refl _ _) | (with_reducible refine grown_drewN ?_ _) | (with_reducible refine grown_drew ?_) | (with_reducible refine grown_set ?_ _ _) | (with_reducible refine grown_alloc ?_ _))
  clear hg2 hgr
  go_wp2_with fail
  go_ret2
  exact ⟨rfl, HGR.out, HG2.out⟩

set_option maxHeartbeats 2000000 in
set_option maxRecDepth 100000 in
theorem heard_closes (w : World) (g : Nat) (s h a n t st ep ms fa fk fs fq fc : Int) (v : Value) (A : Option Addr) (m c : Nat) (hk : fk = 4 ∨ fk = 5) (hs : fs ≠ n) (hn0 : 1 ≤ n) (hn1 : n ≤ 255)
    (hg : w.heap[g]? = some (.cells #[.int .u8 s, .int .u8 h, .int .u8 a, .int .u8 n, .int .i64 t, .int .i64 1, .int .i64 ep, v, .int .i64 ms] 77 (0, 0))) :
    Calls Try.prog 27 #[.pointer (some ⟨g, 0, none⟩), .agg #[.int .u8 a, .int .u8 fk, .int .u8 fs, .int .u8 fq, .int .u8 fc, .slice A m c]] w fun e w' => e = .returned (.tuple #[.slice none 0 0, .bool true]) ∧ w.grownBy w' (some g) ∧ w'.heap[g]? = some (.cells #[.int .u8 s, .int .u8 h, .int .u8 a, .int .u8 (n % 255 + 1), .int .i64 t, .int .i64 0, .int .i64 ep, .slice none 0 0, .int .i64 0] 77 (0, 0)) := by
  obtain ⟨h0, h1, h2, h3, h4, h5, h6, h7, h8⟩ := blk9 hg
  obtain ⟨f0, f1, f2, f3, f4, f5, f6, f7, f8⟩ := frz9 hg
  have hlt := blk_lt hg
  have hne := World.new_ne w ⟨g, 0, none⟩ h0
  simp only [] at hne
  have hne5 : ¬ (g = w.heap.size) := by omega
  have HG := Lib.hid hg
  clear hg
  have e1 : (a != a) = false := by simp
  have e2 : (fs == n) = false := by simpa using hs
  rcases hk with rfl | rfl
  · have e3 : ((4 : Int) != 4) = false := by decide
    go_enter Try.func27, Try.ntmps27
    go_wp2_with fail
    go_quiet (fail)
    go_wp2_with fail
    go_quiet (fail)
    go_wp2_with fail
    refine (m_close _ g s h a n t 1 ep 0 0 v hn0 hn1 ?_).mono ?_
    · exact blk_set (blk_alloc HG.out _) 8 (.int .i64 0)
    rintro e w2 ⟨rfl, hgr, hg2⟩
    have HG2 := Lib.hid hg2
    have HGR : Hid (w.grownBy w2 (some g)) := by
      refine grown_trans ?_ hgr
      repeat' (first | (with_reducible exact grown_refl _ _) | (with_reducible refine grown_drewN ?_ _) | (with_reducible refine grown_drew ?_) | (with_reducible refine grown_set ?_ _ _) | (with_reducible refine grown_alloc ?_ _))
    clear hg2 hgr
    go_wp2_with fail
    go_ret2
    exact ⟨rfl, HGR.out, HG2.out⟩
  · have e3 : ((5 : Int) != 4) = true := by decide
    go_enter Try.func27, Try.ntmps27
    go_wp2_with fail
    go_quiet (fail)
    go_wp2_with fail
    go_quiet (fail)
    go_wp2_with fail
    refine (m_close _ g s h a n t 1 ep 0 0 v hn0 hn1 ?_).mono ?_
    · exact blk_set (blk_alloc HG.out _) 8 (.int .i64 0)
    rintro e w2 ⟨rfl, hgr, hg2⟩
    have HG2 := Lib.hid hg2
    have HGR : Hid (w.grownBy w2 (some g)) := by
      refine grown_trans ?_ hgr
      repeat' (first | (with_reducible exact grown_refl _ _) | (with_reducible refine grown_drewN ?_ _) | (with_reducible refine grown_drew ?_) | (with_reducible refine grown_set ?_ _ _) | (with_reducible refine grown_alloc ?_ _))
    clear hg2 hgr
    go_wp2_with fail
    go_ret2
    exact ⟨rfl, HGR.out, HG2.out⟩

set_option maxHeartbeats 2000000 in
set_option maxRecDepth 100000 in
theorem heard_again (w : World) (g : Nat) (s h a n t st ep ms fa fk fs fq fc : Int) (v : Value) (A : Option Addr) (m c : Nat) 
    (hg : w.heap[g]? = some (.cells #[.int .u8 s, .int .u8 h, .int .u8 a, .int .u8 n, .int .i64 t, .int .i64 1, .int .i64 ep, v, .int .i64 ms] 77 (0, 0))) :
    Calls Try.prog 27 #[.pointer (some ⟨g, 0, none⟩), .agg #[.int .u8 a, .int .u8 4, .int .u8 n, .int .u8 fq, .int .u8 fc, .slice A m c]] w fun e w' => e = .returned (.tuple #[.slice none 0 0, .bool true]) ∧ w.grownBy w' (some g) ∧ w'.heap[g]? = some (.cells #[.int .u8 s, .int .u8 h, .int .u8 a, .int .u8 n, .int .i64 t, .int .i64 1, .int .i64 ep, v, .int .i64 0] 77 (0, 0)) := by
  obtain ⟨h0, h1, h2, h3, h4, h5, h6, h7, h8⟩ := blk9 hg
  obtain ⟨f0, f1, f2, f3, f4, f5, f6, f7, f8⟩ := frz9 hg
  have hlt := blk_lt hg
  have hne := World.new_ne w ⟨g, 0, none⟩ h0
  simp only [] at hne
  have hne5 : ¬ (g = w.heap.size) := by omega
  have HG := Lib.hid hg
  clear hg
  have e1 : (a != a) = false := by simp
  have e2 : (n == n) = true := by simp
  go_enter Try.func27, Try.ntmps27
  go_wp2_with fail
  go_quiet (fail)
  go_wp2_with fail
  go_quiet (fail)
  go_wp2_with fail
  go_ret2
  refine ⟨rfl, ?_, ?_⟩
  · repeat' (first | (with_reducible exact grown_refl _ _) | (with_reducible refine grown_drewN ?_ _) | (with_reducible refine grown_drew ?_) | (with_reducible refine grown_set ?_ _ _) | (with_reducible refine grown_alloc ?_ _))
  · exact blk_set (blk_alloc HG.out _) 8 (.int .i64 0)

set_option maxHeartbeats 2000000 in
set_option maxRecDepth 100000 in
theorem heard_reply (w : World) (B g : Nat) (M M' : MS) (f : FR) (A : Option Addr) (c : Nat) (l : List UInt8) (h : MasterAt w B g M) (hb : ReadsB w (.slice A f.b.length c) f.b) (hn : NotIn g (.slice A f.b.length c) f.b)
    (hst : M.state = 1) (hfa : f.addr = M.addr) (hfk : f.kind = 5) (hfs : f.sess = M.num) (hF : MS.replyF { M with misses := 0 } f = (l, M')) :
    Calls Try.prog 27 #[.pointer (some ⟨g, 0, none⟩), .agg #[.int .u8 f.addr, .int .u8 f.kind, .int .u8 f.sess, .int .u8 f.seq, .int .u8 f.ack, .slice A f.b.length c]] w fun e w' =>
      ∃ r, e = .returned (.tuple #[r, .bool true]) ∧ w'.ownsRow w.heap.size 5 1 r l.length (bytesV l) ∧ w.grownBy w' (some g) ∧ MasterAt w' B g M' := by
  obtain ⟨v, hg, hq⟩ := h.ex
  rw [hst] at hg
  have hlt := blk_lt hg
  have hne5 : ¬ (g = w.heap.size) := by omega
  have hm0 : ∀ o k, MasterAt (((w.alloc o).drewN k).setCell ⟨g, 8, none⟩ (.int .i64 0)) B g { M with misses := 0 } := fun o k => by
    refine MasterAt.bits (w := w) h.ge h.ok.misses0 hg hq (grown_set (grown_drewN (grown_alloc (grown_refl _ _) _) _) _ _) ?_
    have := blk_set (blk_alloc hg o) 8 (.int .i64 0)
    rw [← hst] at this
    exact this
  have HM := Lib.hid hm0
  have HR := Lib.hid hb
  have HN := Lib.hid hn
  have HF := Lib.hid hF
  obtain ⟨fa, fk, fs, fq, fc, b⟩ := f
  simp only at hfa hfk hfs
  subst hfa hfk hfs
  have e1 : (M.addr != M.addr) = false := by simp
  have e2 : (M.num == M.num) = true := by simp
  obtain ⟨h0, h1, h2, h3, h4, h5, h6, h7, h8⟩ := blk9 hg
  obtain ⟨f0, f1, f2, f3, f4, f5, f6, f7, f8⟩ := frz9 hg
  have hne := World.new_ne w ⟨g, 0, none⟩ h0
  simp only [] at hne
  clear hg hq hm0 hb hn hF h hst
  go_enter Try.func27, Try.ntmps27
  go_wp2_with fail
  go_quiet (fail)
  go_wp2_with fail
  go_quiet (fail)
  go_wp2_with fail
  refine (master_reply _ B g { M with misses := 0 } M' ⟨M.addr, 5, M.num, fq, fc, b⟩ A c l (HM.out _ _) ?_ HN.out HF.out).mono ?_
  · refine HR.out.grown (g := g) ?_ HN.out
    repeat' (first | (with_reducible exact grown_refl _ _) | (with_reducible refine grown_drewN ?_ _) | (with_reducible refine grown_drew ?_) | (with_reducible refine grown_set ?_ _ _) | (with_reducible refine grown_alloc ?_ _))
  rintro e w2 ⟨r, rfl, hown, hgr, hm2⟩
  obtain ⟨A2, c2, rfl⟩ := own_slice hown
  have HO := Lib.hid hown
  have HGR : Hid (w.grownBy w2 (some g)) := by
    refine grown_trans ?_ hgr
    repeat' (first | (with_reducible exact grown_refl _ _) | (with_reducible refine grown_drewN ?_ _) | (with_reducible refine grown_drew ?_) | (with_reducible refine grown_set ?_ _ _) | (with_reducible refine grown_alloc ?_ _))
  have HM2 := Lib.hid hm2
  clear hown hgr hm2
  go_wp2_with fail
  go_ret2
  exact ⟨_, rfl, own_lower HO.out (by simp), HGR.out, HM2.out⟩

theorem master_heard (w : World) (B g : Nat) (M M' : MS) (f : FR) (A : Option Addr) (c : Nat) (l : List UInt8) (ok : Bool) (h : MasterAt w B g M) (hb : ReadsB w (.slice A f.b.length c) f.b) (hn : NotIn g (.slice A f.b.length c) f.b)
    (he0 : 0 ≤ M.epoch) (he1 : M.epoch ≤ 1000000000) (hF : M.heardF f = (l, ok, M')) :
    Calls Try.prog 27 #[.pointer (some ⟨g, 0, none⟩), .agg #[.int .u8 f.addr, .int .u8 f.kind, .int .u8 f.sess, .int .u8 f.seq, .int .u8 f.ack, .slice A f.b.length c]] w fun e w' =>
      ∃ r, e = .returned (.tuple #[r, .bool ok]) ∧ w'.ownsRow w.heap.size 5 1 r l.length (bytesV l) ∧ w.grownBy w' (some g) ∧ MasterAt w' B g M' := by
  have hok := h.ok.heard hF
  obtain ⟨v, hg, hq⟩ := h.ex
  unfold MS.heardF at hF
  split at hF
  · rename_i hno
    cases hF
    refine (heard_none w g _ _ _ _ _ _ _ _ f.addr f.kind f.sess f.seq f.ack v A _ c hno hg).mono ?_
    rintro e w' ⟨rfl, hbel⟩
    exact ⟨_, rfl, World.ownsRow_nil _ _ _ _, grown_below hbel _, h.below hbel⟩
  · rename_i hno
    have hfa : f.addr = M.addr := by by_cases e : f.addr = M.addr; exact e; exact absurd (.inl e) hno
    have hk45 : f.kind = 4 ∨ f.kind = 5 := by
      by_cases e : f.kind = 4
      · exact .inl e
      · by_cases e' : f.kind = 5
        · exact .inr e'
        · exact absurd (.inr ⟨e, e'⟩) hno
    split at hF
    · rename_i hst
      split at hF
      · rename_i hk
        cases hF
        rw [hfa]
        refine (heard_quiet w g _ _ _ _ _ _ _ _ 0 f.kind f.sess f.seq f.ack v A _ c hst (by
          rcases hk45 with k | k
          · refine .inr ⟨k, ?_⟩
            rcases hk with k' | k'
            · exact absurd k k'
            · exact k'
          · exact .inl k) hg).mono ?_
        rintro e w' ⟨rfl, hbel⟩
        exact ⟨_, rfl, World.ownsRow_nil _ _ _ _, grown_below hbel _, h.below hbel⟩
      · rename_i hk
        cases hF
        have k4 : f.kind = 4 := by by_cases e : f.kind = 4; exact e; exact absurd (.inl e) hk
        have ks : f.sess = M.num := by by_cases e : f.sess = M.num; exact e; exact absurd (.inr e) hk
        rw [hfa, k4, ks]
        refine (heard_opens w g _ _ _ _ _ _ _ _ 0 0 0 f.seq f.ack v A _ c hst he0 he1 hg).mono ?_
        rintro e w' ⟨rfl, hgr, hg'⟩
        exact ⟨_, rfl, World.ownsRow_nil _ _ _ _, hgr, MasterAt.bits h.ge hok hg hq hgr hg'⟩
    · rename_i hst
      have hst1 : M.state = 1 := by by_cases e : M.state = 1; exact e; exact absurd e hst
      split at hF
      · rename_i hs
        cases hF
        rw [hfa]
        rw [hst1] at hg
        refine (heard_closes w g _ _ _ _ _ 0 _ _ 0 f.kind f.sess f.seq f.ack v A _ c hk45 hs h.ok.n0 h.ok.n1 hg).mono ?_
        rintro e w' ⟨rfl, hgr, hg'⟩
        exact ⟨_, rfl, World.ownsRow_nil _ _ _ _, hgr, ⟨h.ge, hok, _, hg', QueueAt.nil _ _⟩⟩
      · rename_i hs
        have ks : f.sess = M.num := by by_cases e : f.sess = M.num; exact e; exact absurd e hs
        split at hF
        · rename_i hk
          cases hF
          rw [hfa, hk, ks]
          rw [hst1] at hg
          refine (heard_again w g _ _ _ _ _ 0 _ _ 0 0 0 f.seq f.ack v A _ c hg).mono ?_
          rintro e w' ⟨rfl, hgr, hg'⟩
          refine ⟨_, rfl, World.ownsRow_nil _ _ _ _, hgr, MasterAt.bits h.ge hok hg hq hgr ?_⟩
          rw [← hst1] at hg'
          exact hg'
        · rename_i hk
          cases hF
          exact heard_reply w B g M _ f A c _ h hb hn hst1 hfa (by rcases hk45 with k | k; exact absurd k hk; exact k) ks rfl
end Go.Proofs.Ytmhdckpmkgkglaa
