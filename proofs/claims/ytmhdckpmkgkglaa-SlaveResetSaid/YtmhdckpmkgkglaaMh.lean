/- Master.reply. Written by gen_reply.py. -/
import Derived.Test.YtmhdckpmkgkglaaMf
set_option linter.unusedVariables false
set_option linter.unusedSimpArgs false
namespace Go.Proofs.Ytmhdckpmkgkglaa
open Go.RowKit

/-- What is known behind a reply. -/
def ReplyEnd (w : World) (g : Nat) (s h a n t st ep ms : Int) (v : Value) (l : List UInt8) (e : Ending) (w' : World) : Prop :=
  ∃ r, e = .returned r ∧ w'.ownsRow w.heap.size 5 1 r l.length (bytesV l) ∧ w.grownBy w' (some g) ∧ w'.heap[g]? = some (.cells #[.int .u8 s, .int .u8 h, .int .u8 a, .int .u8 n, .int .i64 t, .int .i64 st, .int .i64 ep, v, .int .i64 ms] 77 (0, 0))

/-- The bit and the bytes behind a reply. -/
def RepF (b : List UInt8) (fq h T : Int) (l : List UInt8) : Prop := T = (if b.length = 0 ∨ fq ≠ h then h else 1 - h) ∧ l = (if b.length = 0 ∨ fq ≠ h then [] else b)

set_option maxHeartbeats 2000000 in
set_option maxRecDepth 100000 in
theorem reply_1 (w : World) (g : Nat) (s h a n t st ep ms fa fk fs fq fc : Int) (A A' : Option Addr) (c c' q : Nat) (b : List UInt8) (hs01 : s = 0 ∨ s = 1) (hh01 : h = 0 ∨ h = 1)
    (hg : w.heap[g]? = some (.cells #[.int .u8 s, .int .u8 h, .int .u8 a, .int .u8 n, .int .i64 t, .int .i64 st, .int .i64 ep, .slice A' 0 c', .int .i64 ms] 77 (0, 0))) (T : Int) (L : List UInt8) (hTL : RepF b fq h T L) (hb : ReadsB w (.slice A b.length c) b) (hnin : NotIn g (.slice A b.length c) b) :
    Calls Try.prog 36 #[.pointer (some ⟨g, 0, none⟩), .agg #[.int .u8 fa, .int .u8 fk, .int .u8 fs, .int .u8 fq, .int .u8 fc, .slice A b.length c]] w
      (ReplyEnd w g s T a n t st ep ms (.slice A' 0 c') L) := by
  have HR := Lib.hid hb
  have HN := Lib.hid hnin
  have hbl : b.length ≤ 140737488355328 := by obtain ⟨_, _, _, _, h3, _⟩ := hb; exact h3
  have hblc : b.length ≤ c := by
    obtain ⟨_, c2, he, h3, _⟩ := hb
    injection he with _ _ e3
    omega
  clear hb hnin
  obtain ⟨h0, h1, h2, h3, h4, h5, h6, h7, h8⟩ := blk9 hg
  obtain ⟨f0, f1, f2, f3, f4, f5, f6, f7, f8⟩ := frz9 hg
  have hlt := blk_lt hg
  have hne := World.new_ne w ⟨g, 0, none⟩ h0
  simp only [] at hne
  have hne5 : ¬ (g = w.heap.size) := by omega
  have HG := Lib.hid hg
  have HX0 := Lib.hid (blk_new w (.cells #[.int .u8 fa, .int .u8 fk, .int .u8 fs, .int .u8 fq, .int .u8 fc, .slice A b.length c] 29))
  have HH := Lib.hid hh01
  clear hg hh01
  clear hs01
  have key : ∀ (T' : Int) (l' : List UInt8) (e : Ending) (w' : World), RepF b fq h T' l' → ReplyEnd w g s T' a n t st ep ms (.slice A' 0 c') l' e w' → ReplyEnd w g s T a n t st ep ms (.slice A' 0 c') L e w' := by
    rintro T' l' e w' ⟨rfl, rfl⟩ h
    obtain ⟨rfl, rfl⟩ := hTL
    exact h
  have KEY := Lib.hid key
  clear key hTL
  rcases Nat.eq_zero_or_pos b.length with hb0 | hb0
  · have k3 : ((b.length : Int) == 0) = true := by simp; exact List.eq_nil_of_length_eq_zero hb0
    have HB0 := Lib.hid hb0
    clear hb0
    go_enter Try.func36, Try.ntmps36
    go_wp2_with fail
    go_quiet (fail)
    go_wp2_with fail
    go_quiet (fail)
    go_wp2_with fail
    go_ret
    refine KEY.out _ [] _ _ ⟨(if_pos (.inl HB0.out)).symm, (if_pos (.inl HB0.out)).symm⟩ ⟨_, rfl, World.ownsRow_nil _ _ _ _, ?_, ?_⟩
    · repeat' (first | (with_reducible exact grown_refl _ _) | (with_reducible refine grown_drewN ?_ _) | (with_reducible refine grown_drew ?_) | (with_reducible refine grown_alloc ?_ _))
    · exact blk_alloc HG.out _
  · have k3 : ((b.length : Int) == 0) = false := by simp; intro e; simp [e] at hb0
    by_cases hsq : fq = h
    · subst hsq
      have k4 : (fq != fq) = false := by simp
      go_enter Try.func36, Try.ntmps36
      go_wp2_with fail
      go_quiet (fail)
      go_wp2_with fail
      go_quiet (fail)
      go_wp2_with fail
      refine (m_heard _ g s fq a n t st ep ms (.slice A' 0 c') HH.out ?_).mono ?_
      · exact blk_alloc HG.out _
      rintro e w3 ⟨rfl, hgr3, hg3⟩
      have HGR3 : Hid (w.grownBy w3 (some g)) := grown_trans (by repeat' (first | (with_reducible exact grown_refl _ _) | (with_reducible refine grown_drewN ?_ _) | (with_reducible refine grown_drew ?_) | (with_reducible refine grown_alloc ?_ _))) hgr3
      have hx3 : w3.heap[w.heap.size]? = some (.cells #[.int .u8 fa, .int .u8 fk, .int .u8 fs, .int .u8 fq, .int .u8 fc, .slice A b.length c] 29) := by refine blk_grown ?_ hgr3 (by simpa using fun e => hne e); exact HX0.out
      have HG3 := Lib.hid hg3
      have hsz3 : w.heap.size < w3.heap.size := blk_lt hx3
      have hrd3 := HR.out.grown HGR3.out HN.out
      have HRD3 := Lib.hid hrd3
      obtain ⟨x0, x1, x2, x3, x4, x5⟩ := blk6 hx3
      clear hg3 hgr3 hx3 hrd3 h0 h1 h2 h3 h4 h5 h6 h7 h8 f0 f1 f2 f3 f4 f5 f6 f7 f8
      go_wp2_with fail
      refine (clone_any _ (.slice A b.length c) b HRD3.out).mono ?_
      rintro e w4 ⟨v4, rfl, hown, hb4⟩
      obtain ⟨A4, c4, rfl⟩ := own_slice hown
      have HO4 := Lib.hid hown
      have HB4 := Lib.hid hb4
      clear hown hb4 x0 x1 x2 x3 x4 x5
      go_wp2_with fail
      go_ret
      refine KEY.out (1 - fq) b _ _ ⟨by rw [if_neg]; rintro (e | e); omega; exact e rfl, by rw [if_neg]; rintro (e | e); omega; exact e rfl⟩ ⟨_, rfl, own_lower HO4.out (by omega), grown_then HGR3.out HB4.out, blk_below' HG3.out HB4.out⟩
    · have k4 : (fq != h) = true := by simpa using hsq
      go_enter Try.func36, Try.ntmps36
      go_wp2_with fail
      go_quiet (fail)
      go_wp2_with fail
      go_quiet (fail)
      go_wp2_with fail
      go_ret
      refine KEY.out h [] _ _ ⟨(if_pos (.inr hsq)).symm, (if_pos (.inr hsq)).symm⟩ ⟨_, rfl, World.ownsRow_nil _ _ _ _, ?_, ?_⟩
      · repeat' (first | (with_reducible exact grown_refl _ _) | (with_reducible refine grown_drewN ?_ _) | (with_reducible refine grown_drew ?_) | (with_reducible refine grown_alloc ?_ _))
      · exact blk_alloc HG.out _

set_option maxHeartbeats 2000000 in
set_option maxRecDepth 100000 in
theorem reply_2 (w : World) (g : Nat) (s h a n t st ep ms fa fk fs fq fc : Int) (A A' : Option Addr) (c c' q : Nat) (b : List UInt8) (hq : 0 < q) (hac : fc = s) (hs01 : s = 0 ∨ s = 1) (hh01 : h = 0 ∨ h = 1)
    (hg : w.heap[g]? = some (.cells #[.int .u8 s, .int .u8 h, .int .u8 a, .int .u8 n, .int .i64 t, .int .i64 st, .int .i64 ep, .slice A' q c', .int .i64 ms] 77 (0, 0))) (T : Int) (L : List UInt8) (hTL : RepF b fq h T L) (hb : ReadsB w (.slice A b.length c) b) (hnin : NotIn g (.slice A b.length c) b) :
    Calls Try.prog 36 #[.pointer (some ⟨g, 0, none⟩), .agg #[.int .u8 fa, .int .u8 fk, .int .u8 fs, .int .u8 fq, .int .u8 fc, .slice A b.length c]] w
      (ReplyEnd w g s T a n t st ep ms (.slice A' q c') L) := by
  have HR := Lib.hid hb
  have HN := Lib.hid hnin
  have hbl : b.length ≤ 140737488355328 := by obtain ⟨_, _, _, _, h3, _⟩ := hb; exact h3
  have hblc : b.length ≤ c := by
    obtain ⟨_, c2, he, h3, _⟩ := hb
    injection he with _ _ e3
    omega
  clear hb hnin
  obtain ⟨h0, h1, h2, h3, h4, h5, h6, h7, h8⟩ := blk9 hg
  obtain ⟨f0, f1, f2, f3, f4, f5, f6, f7, f8⟩ := frz9 hg
  have hlt := blk_lt hg
  have hne := World.new_ne w ⟨g, 0, none⟩ h0
  simp only [] at hne
  have hne5 : ¬ (g = w.heap.size) := by omega
  have HG := Lib.hid hg
  have HX0 := Lib.hid (blk_new w (.cells #[.int .u8 fa, .int .u8 fk, .int .u8 fs, .int .u8 fq, .int .u8 fc, .slice A b.length c] 29))
  have HH := Lib.hid hh01
  clear hg hh01
  subst hac
  have k2 : (fc != fc) = false := by simp
  have k1 : decide (0 < q) = true := by simpa using hq
  clear hs01
  have key : ∀ (T' : Int) (l' : List UInt8) (e : Ending) (w' : World), RepF b fq h T' l' → ReplyEnd w g fc T' a n t st ep ms (.slice A' q c') l' e w' → ReplyEnd w g fc T a n t st ep ms (.slice A' q c') L e w' := by
    rintro T' l' e w' ⟨rfl, rfl⟩ h
    obtain ⟨rfl, rfl⟩ := hTL
    exact h
  have KEY := Lib.hid key
  clear key hTL
  rcases Nat.eq_zero_or_pos b.length with hb0 | hb0
  · have k3 : ((b.length : Int) == 0) = true := by simp; exact List.eq_nil_of_length_eq_zero hb0
    have HB0 := Lib.hid hb0
    clear hb0
    go_enter Try.func36, Try.ntmps36
    go_wp2_with fail
    go_quiet (fail)
    go_wp2_with fail
    go_quiet (fail)
    go_wp2_with fail
    go_ret
    refine KEY.out _ [] _ _ ⟨(if_pos (.inl HB0.out)).symm, (if_pos (.inl HB0.out)).symm⟩ ⟨_, rfl, World.ownsRow_nil _ _ _ _, ?_, ?_⟩
    · repeat' (first | (with_reducible exact grown_refl _ _) | (with_reducible refine grown_drewN ?_ _) | (with_reducible refine grown_drew ?_) | (with_reducible refine grown_alloc ?_ _))
    · exact blk_alloc HG.out _
  · have k3 : ((b.length : Int) == 0) = false := by simp; intro e; simp [e] at hb0
    by_cases hsq : fq = h
    · subst hsq
      have k4 : (fq != fq) = false := by simp
      go_enter Try.func36, Try.ntmps36
      go_wp2_with fail
      go_quiet (fail)
      go_wp2_with fail
      go_quiet (fail)
      go_wp2_with fail
      refine (m_heard _ g fc fq a n t st ep ms (.slice A' q c') HH.out ?_).mono ?_
      · exact blk_alloc HG.out _
      rintro e w3 ⟨rfl, hgr3, hg3⟩
      have HGR3 : Hid (w.grownBy w3 (some g)) := grown_trans (by repeat' (first | (with_reducible exact grown_refl _ _) | (with_reducible refine grown_drewN ?_ _) | (with_reducible refine grown_drew ?_) | (with_reducible refine grown_alloc ?_ _))) hgr3
      have hx3 : w3.heap[w.heap.size]? = some (.cells #[.int .u8 fa, .int .u8 fk, .int .u8 fs, .int .u8 fq, .int .u8 fc, .slice A b.length c] 29) := by refine blk_grown ?_ hgr3 (by simpa using fun e => hne e); exact HX0.out
      have HG3 := Lib.hid hg3
      have hsz3 : w.heap.size < w3.heap.size := blk_lt hx3
      have hrd3 := HR.out.grown HGR3.out HN.out
      have HRD3 := Lib.hid hrd3
      obtain ⟨x0, x1, x2, x3, x4, x5⟩ := blk6 hx3
      clear hg3 hgr3 hx3 hrd3 h0 h1 h2 h3 h4 h5 h6 h7 h8 f0 f1 f2 f3 f4 f5 f6 f7 f8
      go_wp2_with fail
      refine (clone_any _ (.slice A b.length c) b HRD3.out).mono ?_
      rintro e w4 ⟨v4, rfl, hown, hb4⟩
      obtain ⟨A4, c4, rfl⟩ := own_slice hown
      have HO4 := Lib.hid hown
      have HB4 := Lib.hid hb4
      clear hown hb4 x0 x1 x2 x3 x4 x5
      go_wp2_with fail
      go_ret
      refine KEY.out (1 - fq) b _ _ ⟨by rw [if_neg]; rintro (e | e); omega; exact e rfl, by rw [if_neg]; rintro (e | e); omega; exact e rfl⟩ ⟨_, rfl, own_lower HO4.out (by omega), grown_then HGR3.out HB4.out, blk_below' HG3.out HB4.out⟩
    · have k4 : (fq != h) = true := by simpa using hsq
      go_enter Try.func36, Try.ntmps36
      go_wp2_with fail
      go_quiet (fail)
      go_wp2_with fail
      go_quiet (fail)
      go_wp2_with fail
      go_ret
      refine KEY.out h [] _ _ ⟨(if_pos (.inr hsq)).symm, (if_pos (.inr hsq)).symm⟩ ⟨_, rfl, World.ownsRow_nil _ _ _ _, ?_, ?_⟩
      · repeat' (first | (with_reducible exact grown_refl _ _) | (with_reducible refine grown_drewN ?_ _) | (with_reducible refine grown_drew ?_) | (with_reducible refine grown_alloc ?_ _))
      · exact blk_alloc HG.out _

set_option maxHeartbeats 2000000 in
set_option maxRecDepth 100000 in
theorem reply_3 (w : World) (g : Nat) (s h a n t st ep ms fa fk fs fq fc : Int) (A A' : Option Addr) (c c' q : Nat) (b : List UInt8) (hq : 0 < q) (hac : fc ≠ s) (A2 : Option Addr) (c2 q2 : Nat) (hsl : ∀ W : World, (Instr.slice 75 (.slice A' q c') (some (.int .i64 1)) none none).run Try.prog W = .ok (.slice A2 q2 c2) W) (hs01 : s = 0 ∨ s = 1) (hh01 : h = 0 ∨ h = 1)
    (hg : w.heap[g]? = some (.cells #[.int .u8 s, .int .u8 h, .int .u8 a, .int .u8 n, .int .i64 t, .int .i64 st, .int .i64 ep, .slice A' q c', .int .i64 ms] 77 (0, 0))) (T : Int) (L : List UInt8) (hTL : RepF b fq h T L) (hb : ReadsB w (.slice A b.length c) b) (hnin : NotIn g (.slice A b.length c) b) :
    Calls Try.prog 36 #[.pointer (some ⟨g, 0, none⟩), .agg #[.int .u8 fa, .int .u8 fk, .int .u8 fs, .int .u8 fq, .int .u8 fc, .slice A b.length c]] w
      (ReplyEnd w g (1 - s) T a n t st ep ms (.slice A2 q2 c2) L) := by
  have HR := Lib.hid hb
  have HN := Lib.hid hnin
  have hbl : b.length ≤ 140737488355328 := by obtain ⟨_, _, _, _, h3, _⟩ := hb; exact h3
  have hblc : b.length ≤ c := by
    obtain ⟨_, c2, he, h3, _⟩ := hb
    injection he with _ _ e3
    omega
  clear hb hnin
  obtain ⟨h0, h1, h2, h3, h4, h5, h6, h7, h8⟩ := blk9 hg
  obtain ⟨f0, f1, f2, f3, f4, f5, f6, f7, f8⟩ := frz9 hg
  have hlt := blk_lt hg
  have hne := World.new_ne w ⟨g, 0, none⟩ h0
  simp only [] at hne
  have hne5 : ¬ (g = w.heap.size) := by omega
  have HG := Lib.hid hg
  have HX0 := Lib.hid (blk_new w (.cells #[.int .u8 fa, .int .u8 fk, .int .u8 fs, .int .u8 fq, .int .u8 fc, .slice A b.length c] 29))
  have HH := Lib.hid hh01
  clear hg hh01
  have k2 : (fc != s) = true := by simpa using hac
  have k1 : decide (0 < q) = true := by simpa using hq
  have HS := Lib.hid hs01
  clear hs01 hac
  have key : ∀ (T' : Int) (l' : List UInt8) (e : Ending) (w' : World), RepF b fq h T' l' → ReplyEnd w g (1 - s) T' a n t st ep ms (.slice A2 q2 c2) l' e w' → ReplyEnd w g (1 - s) T a n t st ep ms (.slice A2 q2 c2) L e w' := by
    rintro T' l' e w' ⟨rfl, rfl⟩ h
    obtain ⟨rfl, rfl⟩ := hTL
    exact h
  have KEY := Lib.hid key
  clear key hTL
  rcases Nat.eq_zero_or_pos b.length with hb0 | hb0
  · have k3 : ((b.length : Int) == 0) = true := by simp; exact List.eq_nil_of_length_eq_zero hb0
    have HB0 := Lib.hid hb0
    clear hb0
    go_enter Try.func36, Try.ntmps36
    go_wp2_with fail
    go_quiet (fail)
    go_wp2_with fail
    refine (m_sent _ g s h a n t st ep ms (.slice A2 q2 c2) HS.out ?_).mono ?_
    · exact blk_set (blk_alloc HG.out _) 7 (.slice A2 q2 c2)
    rintro e w2 ⟨rfl, hgr, hg2⟩
    have hgr2 : w.grownBy w2 (some g) := grown_trans (grown_set (grown_drewN (grown_alloc (grown_refl _ _) _) _) 7 (.slice A2 q2 c2)) hgr
    have hx2 : w2.heap[w.heap.size]? = some (.cells #[.int .u8 fa, .int .u8 fk, .int .u8 fs, .int .u8 fq, .int .u8 fc, .slice A b.length c] 29) := by refine blk_grown ?_ hgr (by simpa using fun e => hne e); refine blk_far ?_ (by simp; omega) _; exact HX0.out
    obtain ⟨a0, a1, a2, a3, a4, a5, a6, a7, a8⟩ := blk9 hg2
    obtain ⟨d0, d1, d2, d3, d4, d5, d6, d7, d8⟩ := frz9 hg2
    obtain ⟨b0, b1, b2, b3, b4, b5⟩ := blk6 hx2
    have HG2 := Lib.hid hg2
    have HX2 := Lib.hid hx2
    have HGR2 := Lib.hid hgr2
    have hsz2 : w.heap.size < w2.heap.size := blk_lt hx2
    clear hg2 hgr hgr2 hx2 h0 h1 h2 h3 h4 h5 h6 h7 h8 f0 f1 f2 f3 f4 f5 f6 f7 f8
    go_wp2_with fail
    go_quiet (fail)
    go_wp2_with fail
    go_ret
    refine KEY.out _ [] _ _ ⟨(if_pos (.inl HB0.out)).symm, (if_pos (.inl HB0.out)).symm⟩ ⟨_, rfl, World.ownsRow_nil _ _ _ _, ?_, ?_⟩
    · repeat' (first | (with_reducible exact grown_refl _ _) | (with_reducible refine grown_drewN ?_ _) | (with_reducible refine grown_drew ?_) | (with_reducible refine grown_alloc ?_ _) | exact HGR2.out)
    · exact HG2.out
  · have k3 : ((b.length : Int) == 0) = false := by simp; intro e; simp [e] at hb0
    by_cases hsq : fq = h
    · subst hsq
      have k4 : (fq != fq) = false := by simp
      go_enter Try.func36, Try.ntmps36
      go_wp2_with fail
      go_quiet (fail)
      go_wp2_with fail
      refine (m_sent _ g s fq a n t st ep ms (.slice A2 q2 c2) HS.out ?_).mono ?_
      · exact blk_set (blk_alloc HG.out _) 7 (.slice A2 q2 c2)
      rintro e w2 ⟨rfl, hgr, hg2⟩
      have hgr2 : w.grownBy w2 (some g) := grown_trans (grown_set (grown_drewN (grown_alloc (grown_refl _ _) _) _) 7 (.slice A2 q2 c2)) hgr
      have hx2 : w2.heap[w.heap.size]? = some (.cells #[.int .u8 fa, .int .u8 fk, .int .u8 fs, .int .u8 fq, .int .u8 fc, .slice A b.length c] 29) := by refine blk_grown ?_ hgr (by simpa using fun e => hne e); refine blk_far ?_ (by simp; omega) _; exact HX0.out
      obtain ⟨a0, a1, a2, a3, a4, a5, a6, a7, a8⟩ := blk9 hg2
      obtain ⟨d0, d1, d2, d3, d4, d5, d6, d7, d8⟩ := frz9 hg2
      obtain ⟨b0, b1, b2, b3, b4, b5⟩ := blk6 hx2
      have HG2 := Lib.hid hg2
      have HX2 := Lib.hid hx2
      have HGR2 := Lib.hid hgr2
      have hsz2 : w.heap.size < w2.heap.size := blk_lt hx2
      clear hg2 hgr hgr2 hx2 h0 h1 h2 h3 h4 h5 h6 h7 h8 f0 f1 f2 f3 f4 f5 f6 f7 f8
      go_wp2_with fail
      go_quiet (fail)
      go_wp2_with fail
      refine (m_heard _ g (1 - s) fq a n t st ep ms (.slice A2 q2 c2) HH.out ?_).mono ?_
      · exact HG2.out
      rintro e w3 ⟨rfl, hgr3, hg3⟩
      have HGR3 : Hid (w.grownBy w3 (some g)) := grown_trans (by repeat' (first | (with_reducible exact grown_refl _ _) | (with_reducible refine grown_drewN ?_ _) | (with_reducible refine grown_drew ?_) | (with_reducible refine grown_alloc ?_ _) | exact HGR2.out)) hgr3
      have hx3 : w3.heap[w.heap.size]? = some (.cells #[.int .u8 fa, .int .u8 fk, .int .u8 fs, .int .u8 fq, .int .u8 fc, .slice A b.length c] 29) := by refine blk_grown ?_ hgr3 (by simpa using fun e => hne e); exact HX2.out
      have HG3 := Lib.hid hg3
      have hsz3 : w.heap.size < w3.heap.size := blk_lt hx3
      have hrd3 := HR.out.grown HGR3.out HN.out
      have HRD3 := Lib.hid hrd3
      obtain ⟨x0, x1, x2, x3, x4, x5⟩ := blk6 hx3
      clear hg3 hgr3 hx3 hrd3 a0 a1 a2 a3 a4 a5 a6 a7 a8 d0 d1 d2 d3 d4 d5 d6 d7 d8 b0 b1 b2 b3 b4 b5
      go_wp2_with fail
      refine (clone_any _ (.slice A b.length c) b HRD3.out).mono ?_
      rintro e w4 ⟨v4, rfl, hown, hb4⟩
      obtain ⟨A4, c4, rfl⟩ := own_slice hown
      have HO4 := Lib.hid hown
      have HB4 := Lib.hid hb4
      clear hown hb4 x0 x1 x2 x3 x4 x5
      go_wp2_with fail
      go_ret
      refine KEY.out (1 - fq) b _ _ ⟨by rw [if_neg]; rintro (e | e); omega; exact e rfl, by rw [if_neg]; rintro (e | e); omega; exact e rfl⟩ ⟨_, rfl, own_lower HO4.out (by omega), grown_then HGR3.out HB4.out, blk_below' HG3.out HB4.out⟩
    · have k4 : (fq != h) = true := by simpa using hsq
      go_enter Try.func36, Try.ntmps36
      go_wp2_with fail
      go_quiet (fail)
      go_wp2_with fail
      refine (m_sent _ g s h a n t st ep ms (.slice A2 q2 c2) HS.out ?_).mono ?_
      · exact blk_set (blk_alloc HG.out _) 7 (.slice A2 q2 c2)
      rintro e w2 ⟨rfl, hgr, hg2⟩
      have hgr2 : w.grownBy w2 (some g) := grown_trans (grown_set (grown_drewN (grown_alloc (grown_refl _ _) _) _) 7 (.slice A2 q2 c2)) hgr
      have hx2 : w2.heap[w.heap.size]? = some (.cells #[.int .u8 fa, .int .u8 fk, .int .u8 fs, .int .u8 fq, .int .u8 fc, .slice A b.length c] 29) := by refine blk_grown ?_ hgr (by simpa using fun e => hne e); refine blk_far ?_ (by simp; omega) _; exact HX0.out
      obtain ⟨a0, a1, a2, a3, a4, a5, a6, a7, a8⟩ := blk9 hg2
      obtain ⟨d0, d1, d2, d3, d4, d5, d6, d7, d8⟩ := frz9 hg2
      obtain ⟨b0, b1, b2, b3, b4, b5⟩ := blk6 hx2
      have HG2 := Lib.hid hg2
      have HX2 := Lib.hid hx2
      have HGR2 := Lib.hid hgr2
      have hsz2 : w.heap.size < w2.heap.size := blk_lt hx2
      clear hg2 hgr hgr2 hx2 h0 h1 h2 h3 h4 h5 h6 h7 h8 f0 f1 f2 f3 f4 f5 f6 f7 f8
      go_wp2_with fail
      go_quiet (fail)
      go_wp2_with fail
      go_ret
      refine KEY.out h [] _ _ ⟨(if_pos (.inr hsq)).symm, (if_pos (.inr hsq)).symm⟩ ⟨_, rfl, World.ownsRow_nil _ _ _ _, ?_, ?_⟩
      · repeat' (first | (with_reducible exact grown_refl _ _) | (with_reducible refine grown_drewN ?_ _) | (with_reducible refine grown_drew ?_) | (with_reducible refine grown_alloc ?_ _) | exact HGR2.out)
      · exact HG2.out
end Go.Proofs.Ytmhdckpmkgkglaa
