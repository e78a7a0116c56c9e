/- The reference's Heard. Written by gen_refc.py. -/
import Derived.Test.YtdgbmiobfehpdaaRb
import Derived.Test.YtdgbmiobfehpdaaMh
set_option linter.unusedVariables false
set_option linter.unusedSimpArgs false
namespace Go.Proofs.Ytdgbmiobfehpdaa
open Go.RowKit

def RefEnd (w : World) (g : Nat) (a n t st ep s h ms : Int) (v : Value) (l : List UInt8) (ok : Bool) (e : Ending) (w' : World) : Prop :=
  e = .returned (.tuple #[strV l, .bool ok]) ∧ w.grownBy w' (some g) ∧ w'.heap[g]? = some (.cells #[.int .u8 a, .int .u8 n, .int .i64 t, .int .i64 st, .int .i64 ep, .int .u8 s, .int .u8 h, v, .int .i64 ms] 51 (0, 0))

set_option maxHeartbeats 2000000 in
set_option maxRecDepth 100000 in
theorem rheard_none (w : World) (g : Nat) (a n t st ep s h ms fa fk fs fq fc : Int) (v : Value) (b : List UInt8) (hno : fa ≠ a ∨ fk ≠ 4 ∧ fk ≠ 5)
    (hg : w.heap[g]? = some (.cells #[.int .u8 a, .int .u8 n, .int .i64 t, .int .i64 st, .int .i64 ep, .int .u8 s, .int .u8 h, v, .int .i64 ms] 51 (0, 0))) :
    Calls Try.prog 20 #[.pointer (some ⟨g, 0, none⟩), .agg #[.int .u8 fa, .int .u8 fk, .int .u8 fs, .int .u8 fq, .int .u8 fc, .string ⟨b.toArray⟩]] w fun e w' => e = .returned (.tuple #[.string ⟨#[]⟩, .bool false]) ∧ Below w.heap.size w w' := by
  obtain ⟨h0, h1, h2, h3, h4, h5, h6, h7, h8⟩ := blk9 hg
  obtain ⟨f0, f1, f2, f3, f4, f5, f6, f7, f8⟩ := frz9 hg
  have hlt := blk_lt hg
  have hne := World.new_ne w ⟨g, 0, none⟩ h0
  simp only [] at hne
  have hne5 : ¬ (g = w.heap.size) := by omega
  have HG := Lib.hid hg
  clear hg
  by_cases k1 : fa = a
  · subst k1
    have e1 : (fa != fa) = false := by simp
    have k2 : fk ≠ 4 ∧ fk ≠ 5 := by rcases hno with k | k; exact absurd rfl k; exact k
    have e2 : (fk != 4) = true := by simpa using k2.1
    have e3 : (fk != 5) = true := by simpa using k2.2
    clear hno k2
    go_enter Try.func20, Try.ntmps20
    go_wp2_with fail
    go_quiet (fail)
    go_wp2_with fail
    go_ret2
    refine ⟨rfl, ?_⟩
    repeat' (first | (with_reducible exact Below.refl _ _) | (with_reducible refine below_drewN ?_ _) | (with_reducible refine Below.drew ?_) | (with_reducible refine Below.setCell ?_ ?_ _) | (with_reducible refine Below.alloc ?_ ?_ _) | (simp; done) | (simp; omega))
  · have e1 : (fa != a) = true := by simpa using k1
    clear hno
    go_enter Try.func20, Try.ntmps20
    go_wp2_with fail
    go_quiet (fail)
    go_wp2_with fail
    go_ret2
    refine ⟨rfl, ?_⟩
    repeat' (first | (with_reducible exact Below.refl _ _) | (with_reducible refine below_drewN ?_ _) | (with_reducible refine Below.drew ?_) | (with_reducible refine Below.setCell ?_ ?_ _) | (with_reducible refine Below.alloc ?_ ?_ _) | (simp; done) | (simp; omega))

set_option maxHeartbeats 2000000 in
set_option maxRecDepth 100000 in
theorem rheard_quiet (w : World) (g : Nat) (a n t st ep s h ms fa fk fs fq fc : Int) (v : Value) (b : List UInt8) (hst : st ≠ 1) (hk : fk = 5 ∨ fk = 4 ∧ fs ≠ n)
    (hg : w.heap[g]? = some (.cells #[.int .u8 a, .int .u8 n, .int .i64 t, .int .i64 st, .int .i64 ep, .int .u8 s, .int .u8 h, v, .int .i64 ms] 51 (0, 0))) :
    Calls Try.prog 20 #[.pointer (some ⟨g, 0, none⟩), .agg #[.int .u8 a, .int .u8 fk, .int .u8 fs, .int .u8 fq, .int .u8 fc, .string ⟨b.toArray⟩]] w fun e w' => e = .returned (.tuple #[.string ⟨#[]⟩, .bool false]) ∧ Below w.heap.size w w' := by
  obtain ⟨h0, h1, h2, h3, h4, h5, h6, h7, h8⟩ := blk9 hg
  obtain ⟨f0, f1, f2, f3, f4, f5, f6, f7, f8⟩ := frz9 hg
  have hlt := blk_lt hg
  have hne := World.new_ne w ⟨g, 0, none⟩ h0
  simp only [] at hne
  have hne5 : ¬ (g = w.heap.size) := by omega
  have HG := Lib.hid hg
  clear hg
  have e0 : (st != 1) = true := by simpa using hst
  have e1 : (a != a) = false := by simp
  rcases hk with rfl | ⟨rfl, hs⟩
  · have e2 : ((5 : Int) != 4) = true := by decide
    go_enter Try.func20, Try.ntmps20
    go_wp2_with fail
    go_quiet (fail)
    go_wp2_with fail
    go_quiet (fail)
    go_wp2_with fail
    go_ret2
    refine ⟨rfl, ?_⟩
    repeat' (first | (with_reducible exact Below.refl _ _) | (with_reducible refine below_drewN ?_ _) | (with_reducible refine Below.drew ?_) | (with_reducible refine Below.setCell ?_ ?_ _) | (with_reducible refine Below.alloc ?_ ?_ _) | (simp; done) | (simp; omega))
  · have e2 : (fs != n) = true := by simpa using hs
    go_enter Try.func20, Try.ntmps20
    go_wp2_with fail
    go_quiet (fail)
    go_wp2_with fail
    go_quiet (fail)
    go_wp2_with fail
    go_ret2
    refine ⟨rfl, ?_⟩
    repeat' (first | (with_reducible exact Below.refl _ _) | (with_reducible refine below_drewN ?_ _) | (with_reducible refine Below.drew ?_) | (with_reducible refine Below.setCell ?_ ?_ _) | (with_reducible refine Below.alloc ?_ ?_ _) | (simp; done) | (simp; omega))

set_option maxHeartbeats 2000000 in
set_option maxRecDepth 100000 in
theorem rheard_opens (w : World) (g : Nat) (a n t st ep s h ms fa fk fs fq fc : Int) (v : Value) (b : List UInt8) (hst : st ≠ 1) (he0 : 0 ≤ ep) (he1 : ep ≤ 1000000000)
    (hg : w.heap[g]? = some (.cells #[.int .u8 a, .int .u8 n, .int .i64 t, .int .i64 st, .int .i64 ep, .int .u8 s, .int .u8 h, v, .int .i64 ms] 51 (0, 0))) :
    Calls Try.prog 20 #[.pointer (some ⟨g, 0, none⟩), .agg #[.int .u8 a, .int .u8 4, .int .u8 n, .int .u8 fq, .int .u8 fc, .string ⟨b.toArray⟩]] w fun e w' => e = .returned (.tuple #[.string ⟨#[]⟩, .bool true]) ∧ w.grownBy w' (some g) ∧ w'.heap[g]? = some (.cells #[.int .u8 a, .int .u8 n, .int .i64 t, .int .i64 1, .int .i64 (ep + 1), .int .u8 0, .int .u8 0, v, .int .i64 0] 51 (0, 0)) := by
  obtain ⟨h0, h1, h2, h3, h4, h5, h6, h7, h8⟩ := blk9 hg
  obtain ⟨f0, f1, f2, f3, f4, f5, f6, f7, f8⟩ := frz9 hg
  have hlt := blk_lt hg
  have hne := World.new_ne w ⟨g, 0, none⟩ h0
  simp only [] at hne
  have hne5 : ¬ (g = w.heap.size) := by omega
  have HG := Lib.hid hg
  clear hg
  have e0 : (st != 1) = true := by simpa using hst
  have e1 : (a != a) = false := by simp
  have e2 : (n != n) = false := by simp
  go_enter Try.func20, Try.ntmps20
  go_wp2_with fail
  go_quiet (fail)
  go_wp2_with fail
  go_quiet (fail)
  go_wp2_with fail
  go_ret2
  refine ⟨rfl, ?_, ?_⟩
  · repeat' (first | (with_reducible exact grown_refl _ _) | (with_reducible refine grown_drewN ?_ _) | (with_reducible refine grown_drew ?_) | (with_reducible refine grown_set ?_ _ _) | (with_reducible refine grown_alloc ?_ _))
  · have := (blk_set (blk_set (blk_set (blk_set (blk_set (blk_alloc HG.out (.cells #[.int .u8 a, .int .u8 4, .int .u8 n, .int .u8 fq, .int .u8 fc, .string ⟨b.toArray⟩] 46)) 3 (.int .i64 1)) 4 (.int .i64 (ep + 1))) 5 (.int .u8 0)) 6 (.int .u8 0)) 8 (.int .i64 0))
    simp only [List.setIfInBounds_toArray, List.set_cons_zero, List.set_cons_succ] at this
    exact this

set_option maxHeartbeats 2000000 in
set_option maxRecDepth 100000 in
theorem rheard_closes (w : World) (g : Nat) (a n t st ep s h ms fa fk fs fq fc : Int) (v : Value) (b : List UInt8) (hk : fk = 4 ∨ fk = 5) (hs : fs ≠ n) (hn0 : 1 ≤ n) (hn1 : n ≤ 255)
    (hg : w.heap[g]? = some (.cells #[.int .u8 a, .int .u8 n, .int .i64 t, .int .i64 1, .int .i64 ep, .int .u8 s, .int .u8 h, v, .int .i64 ms] 51 (0, 0))) :
    Calls Try.prog 20 #[.pointer (some ⟨g, 0, none⟩), .agg #[.int .u8 a, .int .u8 fk, .int .u8 fs, .int .u8 fq, .int .u8 fc, .string ⟨b.toArray⟩]] w fun e w' => e = .returned (.tuple #[.string ⟨#[]⟩, .bool true]) ∧ w.grownBy w' (some g) ∧ w'.heap[g]? = some (.cells #[.int .u8 a, .int .u8 (n % 255 + 1), .int .i64 t, .int .i64 0, .int .i64 ep, .int .u8 s, .int .u8 h, .slice none 0 0, .int .i64 0] 51 (0, 0)) := by
  obtain ⟨h0, h1, h2, h3, h4, h5, h6, h7, h8⟩ := blk9 hg
  obtain ⟨f0, f1, f2, f3, f4, f5, f6, f7, f8⟩ := frz9 hg
  have hlt := blk_lt hg
  have hne := World.new_ne w ⟨g, 0, none⟩ h0
  simp only [] at hne
  have hne5 : ¬ (g = w.heap.size) := by omega
  have HG := Lib.hid hg
  clear hg
  have e1 : (a != a) = false := by simp
  have e2 : (fs != n) = true := by simpa using hs
  rcases hk with rfl | rfl
  · have e3 : ((4 : Int) != 4) = false := by decide
    go_enter Try.func20, Try.ntmps20
    go_wp2_with fail
    go_quiet (fail)
    go_wp2_with fail
    go_quiet (fail)
    go_wp2_with fail
    refine (refm_closes _ g a n t 1 ep s h 0 0 v hn0 hn1 ?_).mono ?_
    · exact blk_set (blk_alloc HG.out _) 8 (.int .i64 0)
    rintro e w2 ⟨rfl, hgr, hg2⟩
    have HG2 := Lib.hid hg2
    have HGR : Hid (w.grownBy w2 (some g)) := by
      refine grown_trans ?_ hgr
      repeat' (first | (with_reducible exact grown_refl _ _) | (with_reducible refine grown_drewN ?_ _) | (with_reducible refine grown_drew ?_) | (with_reducible refine grown_set ?_ _ _) | (with_reducible refine grown_alloc ?_ _))
    clear hg2 hgr
    go_wp2_with fail
    go_ret2
    exact ⟨rfl, HGR.out, HG2.out⟩
  · have e3 : ((5 : Int) != 4) = true := by decide
    go_enter Try.func20, Try.ntmps20
    go_wp2_with fail
    go_quiet (fail)
    go_wp2_with fail
    go_quiet (fail)
    go_wp2_with fail
    refine (refm_closes _ g a n t 1 ep s h 0 0 v hn0 hn1 ?_).mono ?_
    · exact blk_set (blk_alloc HG.out _) 8 (.int .i64 0)
    rintro e w2 ⟨rfl, hgr, hg2⟩
    have HG2 := Lib.hid hg2
    have HGR : Hid (w.grownBy w2 (some g)) := by
      refine grown_trans ?_ hgr
      repeat' (first | (with_reducible exact grown_refl _ _) | (with_reducible refine grown_drewN ?_ _) | (with_reducible refine grown_drew ?_) | (with_reducible refine grown_set ?_ _ _) | (with_reducible refine grown_alloc ?_ _))
    clear hg2 hgr
    go_wp2_with fail
    go_ret2
    exact ⟨rfl, HGR.out, HG2.out⟩

set_option maxHeartbeats 2000000 in
set_option maxRecDepth 100000 in
theorem rheard_again (w : World) (g : Nat) (a n t st ep s h ms fa fk fs fq fc : Int) (v : Value) (b : List UInt8)
    (hg : w.heap[g]? = some (.cells #[.int .u8 a, .int .u8 n, .int .i64 t, .int .i64 1, .int .i64 ep, .int .u8 s, .int .u8 h, v, .int .i64 ms] 51 (0, 0))) :
    Calls Try.prog 20 #[.pointer (some ⟨g, 0, none⟩), .agg #[.int .u8 a, .int .u8 4, .int .u8 n, .int .u8 fq, .int .u8 fc, .string ⟨b.toArray⟩]] w fun e w' => e = .returned (.tuple #[.string ⟨#[]⟩, .bool true]) ∧ w.grownBy w' (some g) ∧ w'.heap[g]? = some (.cells #[.int .u8 a, .int .u8 n, .int .i64 t, .int .i64 1, .int .i64 ep, .int .u8 s, .int .u8 h, v, .int .i64 0] 51 (0, 0)) := by
  obtain ⟨h0, h1, h2, h3, h4, h5, h6, h7, h8⟩ := blk9 hg
  obtain ⟨f0, f1, f2, f3, f4, f5, f6, f7, f8⟩ := frz9 hg
  have hlt := blk_lt hg
  have hne := World.new_ne w ⟨g, 0, none⟩ h0
  simp only [] at hne
  have hne5 : ¬ (g = w.heap.size) := by omega
  have HG := Lib.hid hg
  clear hg
  have e1 : (a != a) = false := by simp
  have e2 : (n != n) = false := by simp
  go_enter Try.func20, Try.ntmps20
  go_wp2_with fail
  go_quiet (fail)
  go_wp2_with fail
  go_quiet (fail)
  go_wp2_with fail
  go_ret2
  refine ⟨rfl, ?_, ?_⟩
  · repeat' (first | (with_reducible exact grown_refl _ _) | (with_reducible refine grown_drewN ?_ _) | (with_reducible refine grown_drew ?_) | (with_reducible refine grown_set ?_ _ _) | (with_reducible refine grown_alloc ?_ _))
  · have := (blk_set (blk_alloc HG.out (.cells #[.int .u8 a, .int .u8 4, .int .u8 n, .int .u8 fq, .int .u8 fc, .string ⟨b.toArray⟩] 46)) 8 (.int .i64 0))
    simp only [List.setIfInBounds_toArray, List.set_cons_zero, List.set_cons_succ] at this
    exact this

set_option maxHeartbeats 3000000 in
set_option maxRecDepth 100000 in
theorem rheard_r1 (w : World) (g : Nat) (a n t ep s h ms fq fc : Int) (A' : Option Addr) (c' q : Nat) (b : List UInt8) (hs01 : s = 0 ∨ s = 1) (hh01 : h = 0 ∨ h = 1) (T : Int) (L : List UInt8) (hTL : RepF b fq h T L)
    (hg : w.heap[g]? = some (.cells #[.int .u8 a, .int .u8 n, .int .i64 t, .int .i64 1, .int .i64 ep, .int .u8 s, .int .u8 h, .slice A' 0 c', .int .i64 ms] 51 (0, 0))) :
    Calls Try.prog 20 #[.pointer (some ⟨g, 0, none⟩), .agg #[.int .u8 a, .int .u8 5, .int .u8 n, .int .u8 fq, .int .u8 fc, .string ⟨b.toArray⟩]] w (RefEnd w g a n t 1 ep s T 0 (.slice A' 0 c') L true) := by
  obtain ⟨h0, h1, h2, h3, h4, h5, h6, h7, h8⟩ := blk9 hg
  obtain ⟨f0, f1, f2, f3, f4, f5, f6, f7, f8⟩ := frz9 hg
  have hlt := blk_lt hg
  have hne := World.new_ne w ⟨g, 0, none⟩ h0
  simp only [] at hne
  have hne5 : ¬ (g = w.heap.size) := by omega
  have HG := Lib.hid hg
  clear hg
  have e1 : (a != a) = false := by simp
  have e2 : (n != n) = false := by simp
  have hws : IntKind.u8.wrap (1 - s) = 1 - s := by rcases hs01 with rfl | rfl <;> rfl
  have key : ∀ (T' : Int) (l' : List UInt8) (e : Ending) (w' : World), RepF b fq h T' l' → RefEnd w g a n t 1 ep s T' 0 (.slice A' 0 c') l' true e w' → RefEnd w g a n t 1 ep s T 0 (.slice A' 0 c') L true e w' := by
    rintro T' l' e w' ⟨rfl, rfl⟩ h
    obtain ⟨rfl, rfl⟩ := hTL
    exact h
  have KEY := Lib.hid key
  have hwh : IntKind.u8.wrap (1 - h) = 1 - h := by rcases hh01 with rfl | rfl <;> rfl
  clear key hTL hs01 hh01
  rcases b with _ | ⟨b0, bt⟩
  · have k3 : ([] : List UInt8).isEmpty = true := rfl
    go_enter Try.func20, Try.ntmps20
    go_wp2_with fail
    go_quiet (fail)
    go_wp2_with fail
    go_quiet (fail)
    go_wp2_with fail
    go_quiet (fail)
    go_wp2_with fail
    go_quiet (fail)
    go_wp2_with fail
    go_ret2
    refine KEY.out _ [] _ _ ⟨(if_pos (.inl rfl)).symm, (if_pos (.inl rfl)).symm⟩ ⟨rfl, ?_, ?_⟩
    · repeat' (first | (with_reducible exact grown_refl _ _) | (with_reducible refine grown_drewN ?_ _) | (with_reducible refine grown_drew ?_) | (with_reducible refine grown_set ?_ _ _) | (with_reducible refine grown_alloc ?_ _))
    · have := (blk_set (blk_alloc HG.out (.cells #[.int .u8 a, .int .u8 5, .int .u8 n, .int .u8 fq, .int .u8 fc, .string ⟨([] : List UInt8).toArray⟩] 46)) 8 (.int .i64 0))
      simp only [List.setIfInBounds_toArray, List.set_cons_zero, List.set_cons_succ] at this
      exact this
  · obtain ⟨b, hb⟩ : ∃ b, b = b0 :: bt := ⟨_, rfl⟩
    have k3 : b.isEmpty = false := by rw [hb]; rfl
    have hbl : ¬ b.length = 0 := by rw [hb]; simp
    rw [← hb] at KEY ⊢
    have HBL := Lib.hid hbl
    clear hb hbl
    by_cases hsq : fq = h
    · subst hsq
      have k4 : (fq != fq) = false := by simp
      go_enter Try.func20, Try.ntmps20
      go_wp2_with fail
      go_quiet (fail)
      go_wp2_with fail
      go_quiet (fail)
      go_wp2_with fail
      go_quiet (fail)
      go_wp2_with fail
      go_quiet (fail)
      go_wp2_with fail
      go_ret2
      refine KEY.out (1 - fq) b _ _ ⟨by rw [if_neg]; rintro (e | e); exact HBL.out e; exact e rfl, by rw [if_neg]; rintro (e | e); exact HBL.out e; exact e rfl⟩ ⟨rfl, ?_, ?_⟩
      · repeat' (first | (with_reducible exact grown_refl _ _) | (with_reducible refine grown_drewN ?_ _) | (with_reducible refine grown_drew ?_) | (with_reducible refine grown_set ?_ _ _) | (with_reducible refine grown_alloc ?_ _))
      · have := (blk_set (blk_set (blk_alloc HG.out (.cells #[.int .u8 a, .int .u8 5, .int .u8 n, .int .u8 fq, .int .u8 fc, .string ⟨b.toArray⟩] 46)) 8 (.int .i64 0)) 6 (.int .u8 (1 - fq)))
        simp only [List.setIfInBounds_toArray, List.set_cons_zero, List.set_cons_succ] at this
        exact this
    · have k4 : (fq != h) = true := by simpa using hsq
      go_enter Try.func20, Try.ntmps20
      go_wp2_with fail
      go_quiet (fail)
      go_wp2_with fail
      go_quiet (fail)
      go_wp2_with fail
      go_quiet (fail)
      go_wp2_with fail
      go_quiet (fail)
      go_wp2_with fail
      go_ret2
      refine KEY.out h [] _ _ ⟨(if_pos (.inr hsq)).symm, (if_pos (.inr hsq)).symm⟩ ⟨rfl, ?_, ?_⟩
      · repeat' (first | (with_reducible exact grown_refl _ _) | (with_reducible refine grown_drewN ?_ _) | (with_reducible refine grown_drew ?_) | (with_reducible refine grown_set ?_ _ _) | (with_reducible refine grown_alloc ?_ _))
      · have := (blk_set (blk_alloc HG.out (.cells #[.int .u8 a, .int .u8 5, .int .u8 n, .int .u8 fq, .int .u8 fc, .string ⟨b.toArray⟩] 46)) 8 (.int .i64 0))
        simp only [List.setIfInBounds_toArray, List.set_cons_zero, List.set_cons_succ] at this
        exact this

set_option maxHeartbeats 3000000 in
set_option maxRecDepth 100000 in
theorem rheard_r2 (w : World) (g : Nat) (a n t ep s h ms fq fc : Int) (A' : Option Addr) (c' q : Nat) (b : List UInt8) (hq : 0 < q) (hac : fc = s) (hs01 : s = 0 ∨ s = 1) (hh01 : h = 0 ∨ h = 1) (T : Int) (L : List UInt8) (hTL : RepF b fq h T L)
    (hg : w.heap[g]? = some (.cells #[.int .u8 a, .int .u8 n, .int .i64 t, .int .i64 1, .int .i64 ep, .int .u8 s, .int .u8 h, .slice A' q c', .int .i64 ms] 51 (0, 0))) :
    Calls Try.prog 20 #[.pointer (some ⟨g, 0, none⟩), .agg #[.int .u8 a, .int .u8 5, .int .u8 n, .int .u8 fq, .int .u8 fc, .string ⟨b.toArray⟩]] w (RefEnd w g a n t 1 ep s T 0 (.slice A' q c') L true) := by
  obtain ⟨h0, h1, h2, h3, h4, h5, h6, h7, h8⟩ := blk9 hg
  obtain ⟨f0, f1, f2, f3, f4, f5, f6, f7, f8⟩ := frz9 hg
  have hlt := blk_lt hg
  have hne := World.new_ne w ⟨g, 0, none⟩ h0
  simp only [] at hne
  have hne5 : ¬ (g = w.heap.size) := by omega
  have HG := Lib.hid hg
  clear hg
  have e1 : (a != a) = false := by simp
  have e2 : (n != n) = false := by simp
  have hws : IntKind.u8.wrap (1 - s) = 1 - s := by rcases hs01 with rfl | rfl <;> rfl
  subst hac
  have k2 : (fc != fc) = false := by simp
  have k1 : decide (0 < q) = true := by simpa using hq
  have key : ∀ (T' : Int) (l' : List UInt8) (e : Ending) (w' : World), RepF b fq h T' l' → RefEnd w g a n t 1 ep fc T' 0 (.slice A' q c') l' true e w' → RefEnd w g a n t 1 ep fc T 0 (.slice A' q c') L true e w' := by
    rintro T' l' e w' ⟨rfl, rfl⟩ h
    obtain ⟨rfl, rfl⟩ := hTL
    exact h
  have KEY := Lib.hid key
  have hwh : IntKind.u8.wrap (1 - h) = 1 - h := by rcases hh01 with rfl | rfl <;> rfl
  clear key hTL hs01 hh01
  rcases b with _ | ⟨b0, bt⟩
  · have k3 : ([] : List UInt8).isEmpty = true := rfl
    go_enter Try.func20, Try.ntmps20
    go_wp2_with fail
    go_quiet (fail)
    go_wp2_with fail
    go_quiet (fail)
    go_wp2_with fail
    go_quiet (fail)
    go_wp2_with fail
    go_quiet (fail)
    go_wp2_with fail
    go_ret2
    refine KEY.out _ [] _ _ ⟨(if_pos (.inl rfl)).symm, (if_pos (.inl rfl)).symm⟩ ⟨rfl, ?_, ?_⟩
    · repeat' (first | (with_reducible exact grown_refl _ _) | (with_reducible refine grown_drewN ?_ _) | (with_reducible refine grown_drew ?_) | (with_reducible refine grown_set ?_ _ _) | (with_reducible refine grown_alloc ?_ _))
    · have := (blk_set (blk_alloc HG.out (.cells #[.int .u8 a, .int .u8 5, .int .u8 n, .int .u8 fq, .int .u8 fc, .string ⟨([] : List UInt8).toArray⟩] 46)) 8 (.int .i64 0))
      simp only [List.setIfInBounds_toArray, List.set_cons_zero, List.set_cons_succ] at this
      exact this
  · obtain ⟨b, hb⟩ : ∃ b, b = b0 :: bt := ⟨_, rfl⟩
    have k3 : b.isEmpty = false := by rw [hb]; rfl
    have hbl : ¬ b.length = 0 := by rw [hb]; simp
    rw [← hb] at KEY ⊢
    have HBL := Lib.hid hbl
    clear hb hbl
    by_cases hsq : fq = h
    · subst hsq
      have k4 : (fq != fq) = false := by simp
      go_enter Try.func20, Try.ntmps20
      go_wp2_with fail
      go_quiet (fail)
      go_wp2_with fail
      go_quiet (fail)
      go_wp2_with fail
      go_quiet (fail)
      go_wp2_with fail
      go_quiet (fail)
      go_wp2_with fail
      go_ret2
      refine KEY.out (1 - fq) b _ _ ⟨by rw [if_neg]; rintro (e | e); exact HBL.out e; exact e rfl, by rw [if_neg]; rintro (e | e); exact HBL.out e; exact e rfl⟩ ⟨rfl, ?_, ?_⟩
      · repeat' (first | (with_reducible exact grown_refl _ _) | (with_reducible refine grown_drewN ?_ _) | (with_reducible refine grown_drew ?_) | (with_reducible refine grown_set ?_ _ _) | (with_reducible refine grown_alloc ?_ _))
      · have := (blk_set (blk_set (blk_alloc HG.out (.cells #[.int .u8 a, .int .u8 5, .int .u8 n, .int .u8 fq, .int .u8 fc, .string ⟨b.toArray⟩] 46)) 8 (.int .i64 0)) 6 (.int .u8 (1 - fq)))
        simp only [List.setIfInBounds_toArray, List.set_cons_zero, List.set_cons_succ] at this
        exact this
    · have k4 : (fq != h) = true := by simpa using hsq
      go_enter Try.func20, Try.ntmps20
      go_wp2_with fail
      go_quiet (fail)
      go_wp2_with fail
      go_quiet (fail)
      go_wp2_with fail
      go_quiet (fail)
      go_wp2_with fail
      go_quiet (fail)
      go_wp2_with fail
      go_ret2
      refine KEY.out h [] _ _ ⟨(if_pos (.inr hsq)).symm, (if_pos (.inr hsq)).symm⟩ ⟨rfl, ?_, ?_⟩
      · repeat' (first | (with_reducible exact grown_refl _ _) | (with_reducible refine grown_drewN ?_ _) | (with_reducible refine grown_drew ?_) | (with_reducible refine grown_set ?_ _ _) | (with_reducible refine grown_alloc ?_ _))
      · have := (blk_set (blk_alloc HG.out (.cells #[.int .u8 a, .int .u8 5, .int .u8 n, .int .u8 fq, .int .u8 fc, .string ⟨b.toArray⟩] 46)) 8 (.int .i64 0))
        simp only [List.setIfInBounds_toArray, List.set_cons_zero, List.set_cons_succ] at this
        exact this

set_option maxHeartbeats 3000000 in
set_option maxRecDepth 100000 in
theorem rheard_r3 (w : World) (g : Nat) (a n t ep s h ms fq fc : Int) (A' : Option Addr) (c' q : Nat) (b : List UInt8) (hq : 0 < q) (hac : fc ≠ s) (A2 : Option Addr) (c2 q2 : Nat) (hsl : ∀ W : World, (Instr.slice 49 (.slice A' q c') (some (.int .i64 1)) none none).run Try.prog W = .ok (.slice A2 q2 c2) W) (hs01 : s = 0 ∨ s = 1) (hh01 : h = 0 ∨ h = 1) (T : Int) (L : List UInt8) (hTL : RepF b fq h T L)
    (hg : w.heap[g]? = some (.cells #[.int .u8 a, .int .u8 n, .int .i64 t, .int .i64 1, .int .i64 ep, .int .u8 s, .int .u8 h, .slice A' q c', .int .i64 ms] 51 (0, 0))) :
    Calls Try.prog 20 #[.pointer (some ⟨g, 0, none⟩), .agg #[.int .u8 a, .int .u8 5, .int .u8 n, .int .u8 fq, .int .u8 fc, .string ⟨b.toArray⟩]] w (RefEnd w g a n t 1 ep (1 - s) T 0 (.slice A2 q2 c2) L true) := by
  obtain ⟨h0, h1, h2, h3, h4, h5, h6, h7, h8⟩ := blk9 hg
  obtain ⟨f0, f1, f2, f3, f4, f5, f6, f7, f8⟩ := frz9 hg
  have hlt := blk_lt hg
  have hne := World.new_ne w ⟨g, 0, none⟩ h0
  simp only [] at hne
  have hne5 : ¬ (g = w.heap.size) := by omega
  have HG := Lib.hid hg
  clear hg
  have e1 : (a != a) = false := by simp
  have e2 : (n != n) = false := by simp
  have hws : IntKind.u8.wrap (1 - s) = 1 - s := by rcases hs01 with rfl | rfl <;> rfl
  have k2 : (fc != s) = true := by simpa using hac
  have k1 : decide (0 < q) = true := by simpa using hq
  clear hac
  have key : ∀ (T' : Int) (l' : List UInt8) (e : Ending) (w' : World), RepF b fq h T' l' → RefEnd w g a n t 1 ep (1 - s) T' 0 (.slice A2 q2 c2) l' true e w' → RefEnd w g a n t 1 ep (1 - s) T 0 (.slice A2 q2 c2) L true e w' := by
    rintro T' l' e w' ⟨rfl, rfl⟩ h
    obtain ⟨rfl, rfl⟩ := hTL
    exact h
  have KEY := Lib.hid key
  have hwh : IntKind.u8.wrap (1 - h) = 1 - h := by rcases hh01 with rfl | rfl <;> rfl
  clear key hTL hs01 hh01
  rcases b with _ | ⟨b0, bt⟩
  · have k3 : ([] : List UInt8).isEmpty = true := rfl
    go_enter Try.func20, Try.ntmps20
    go_wp2_with fail
    go_quiet (fail)
    go_wp2_with fail
    go_quiet (fail)
    go_wp2_with fail
    go_quiet (fail)
    go_wp2_with fail
    go_quiet (fail)
    go_wp2_with fail
    go_ret2
    refine KEY.out _ [] _ _ ⟨(if_pos (.inl rfl)).symm, (if_pos (.inl rfl)).symm⟩ ⟨rfl, ?_, ?_⟩
    · repeat' (first | (with_reducible exact grown_refl _ _) | (with_reducible refine grown_drewN ?_ _) | (with_reducible refine grown_drew ?_) | (with_reducible refine grown_set ?_ _ _) | (with_reducible refine grown_alloc ?_ _))
    · have := (blk_set (blk_set (blk_set (blk_alloc HG.out (.cells #[.int .u8 a, .int .u8 5, .int .u8 n, .int .u8 fq, .int .u8 fc, .string ⟨([] : List UInt8).toArray⟩] 46)) 8 (.int .i64 0)) 7 (.slice A2 q2 c2)) 5 (.int .u8 (1 - s)))
      simp only [List.setIfInBounds_toArray, List.set_cons_zero, List.set_cons_succ] at this
      exact this
  · obtain ⟨b, hb⟩ : ∃ b, b = b0 :: bt := ⟨_, rfl⟩
    have k3 : b.isEmpty = false := by rw [hb]; rfl
    have hbl : ¬ b.length = 0 := by rw [hb]; simp
    rw [← hb] at KEY ⊢
    have HBL := Lib.hid hbl
    clear hb hbl
    by_cases hsq : fq = h
    · subst hsq
      have k4 : (fq != fq) = false := by simp
      go_enter Try.func20, Try.ntmps20
      go_wp2_with fail
      go_quiet (fail)
      go_wp2_with fail
      go_quiet (fail)
      go_wp2_with fail
      go_quiet (fail)
      go_wp2_with fail
      go_quiet (fail)
      go_wp2_with fail
      go_ret2
      refine KEY.out (1 - fq) b _ _ ⟨by rw [if_neg]; rintro (e | e); exact HBL.out e; exact e rfl, by rw [if_neg]; rintro (e | e); exact HBL.out e; exact e rfl⟩ ⟨rfl, ?_, ?_⟩
      · repeat' (first | (with_reducible exact grown_refl _ _) | (with_reducible refine grown_drewN ?_ _) | (with_reducible refine grown_drew ?_) | (with_reducible refine grown_set ?_ _ _) | (with_reducible refine grown_alloc ?_ _))
      · have := (blk_set (blk_set (blk_set (blk_set (blk_alloc HG.out (.cells #[.int .u8 a, .int .u8 5, .int .u8 n, .int .u8 fq, .int .u8 fc, .string ⟨b.toArray⟩] 46)) 8 (.int .i64 0)) 7 (.slice A2 q2 c2)) 5 (.int .u8 (1 - s))) 6 (.int .u8 (1 - fq)))
        simp only [List.setIfInBounds_toArray, List.set_cons_zero, List.set_cons_succ] at this
        exact this
    · have k4 : (fq != h) = true := by simpa using hsq
      go_enter Try.func20, Try.ntmps20
      go_wp2_with fail
      go_quiet (fail)
      go_wp2_with fail
      go_quiet (fail)
      go_wp2_with fail
      go_quiet (fail)
      go_wp2_with fail
      go_quiet (fail)
      go_wp2_with fail
      go_ret2
      refine KEY.out h [] _ _ ⟨(if_pos (.inr hsq)).symm, (if_pos (.inr hsq)).symm⟩ ⟨rfl, ?_, ?_⟩
      · repeat' (first | (with_reducible exact grown_refl _ _) | (with_reducible refine grown_drewN ?_ _) | (with_reducible refine grown_drew ?_) | (with_reducible refine grown_set ?_ _ _) | (with_reducible refine grown_alloc ?_ _))
      · have := (blk_set (blk_set (blk_set (blk_alloc HG.out (.cells #[.int .u8 a, .int .u8 5, .int .u8 n, .int .u8 fq, .int .u8 fc, .string ⟨b.toArray⟩] 46)) 8 (.int .i64 0)) 7 (.slice A2 q2 c2)) 5 (.int .u8 (1 - s)))
        simp only [List.setIfInBounds_toArray, List.set_cons_zero, List.set_cons_succ] at this
        exact this

end Go.Proofs.Ytdgbmiobfehpdaa
