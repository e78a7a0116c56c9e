/- Slave.Take: a frame that opens; one of another session. Slave.Offer. -/
import Derived.Test.YtmhdckpmkgkglaaSb
set_option linter.unusedVariables false
set_option linter.unusedSimpArgs false
namespace Go.Proofs.Ytmhdckpmkgkglaa
open Go.RowKit

set_option maxHeartbeats 4000000 in
set_option maxRecDepth 100000 in
theorem take_open (w : World) (g : Nat) (a n t x fs fq fc : Int) (v : Value) (A : Option Addr) (m c : Nat) (h : w.heap[g]? = some (.cells #[.int .u8 n, .int .u8 t, .int .u8 x, .int .u8 a, v] 43 (0, 0))) :
    Calls Try.prog 13 #[.pointer (some ⟨g, 0, none⟩), .agg #[.int .u8 a, .int .u8 1, .int .u8 fs, .int .u8 fq, .int .u8 fc, .slice A m c]] w fun e w' =>
      e = .returned (.tuple #[.agg #[.int .u8 a, .int .u8 4, .int .u8 fs, .int .u8 0, .int .u8 0, .slice none 0 0], .slice none 0 0, .bool true]) ∧ w.grownBy w' (some g) ∧
      w'.heap[g]? = some (.cells #[.int .u8 fs, .int .u8 0, .int .u8 0, .int .u8 a, v] 43 (0, 0)) := by
  have T0 := TW.start h 29 #[.int .u8 a, .int .u8 1, .int .u8 fs, .int .u8 fq, .int .u8 fc, .slice A m c] #[.int .u8 0, .int .u8 0, .int .u8 0, .int .u8 0, .int .u8 0, .slice none 0 0]
  obtain ⟨h0, h1, h2, h3, h4⟩ := blk5 h
  obtain ⟨f0, f1, f2, f3, f4⟩ := frz5 h
  have hlt := blk_lt h
  have HT0 := Lib.hid T0
  clear h T0
  have e1 : (a != a) = false := by simp
  go_enter Try.func13, Try.ntmps13
  go_wp2_with fail
  go_quiet (fail)
  go_wp2_with fail
  refine (answer_any _ g a fs 0 0 4 v ?hh).mono ?_
  case hh => exact ((((HT0.out.drewN _).setG 0 (.int .u8 fs)).setG 1 (.int .u8 0)).setG 2 (.int .u8 0)).hg
  rintro e w1 ⟨rfl, hb, hg1⟩
  have T1 := ((((HT0.out.drewN _).setG 0 (.int .u8 fs)).setG 1 (.int .u8 0)).setG 2 (.int .u8 0)).below hb
  simp only [List.setIfInBounds_toArray, List.set_cons_zero, List.set_cons_succ] at T1
  obtain ⟨a0, a1, a2, a3, a4, a5⟩ := blk6 T1.hA
  obtain ⟨b0, b1, b2, b3, b4, b5⟩ := frz6 T1.hA
  have HT1 := Lib.hid T1
  clear hb hg1 T1 HT0
  go_wp2
  have TF := (((((HT1.out.setA 0 (.int .u8 a)).setA 1 (.int .u8 4)).setA 2 (.int .u8 fs)).setA 3 (.int .u8 0)).setA 4 (.int .u8 0)).setA 5 (.slice none 0 0)
  simp only [List.setIfInBounds_toArray, List.set_cons_zero, List.set_cons_succ] at TF
  exact bodyPost_ret (res13 _ _ (w.heap.size + 1) (.int .u8 a) (.int .u8 4) (.int .u8 fs) (.int .u8 0) (.int .u8 0) (.slice none 0 0) (.slice none 0 0) (.bool true) rfl rfl rfl TF.hA) rfl ⟨rfl, TF.gr, TF.hg⟩

set_option maxHeartbeats 4000000 in
set_option maxRecDepth 100000 in
theorem take_other (w : World) (g : Nat) (a n t x fa fk fs fq fc : Int) (v : Value) (A : Option Addr) (m c : Nat) (h : w.heap[g]? = some (.cells #[.int .u8 n, .int .u8 t, .int .u8 x, .int .u8 a, v] 43 (0, 0)))
    (hfa : fa = a) (hk : fk = 2 ∨ fk = 3) (hs : n = 0 ∨ fs ≠ n) :
    Calls Try.prog 13 #[.pointer (some ⟨g, 0, none⟩), .agg #[.int .u8 fa, .int .u8 fk, .int .u8 fs, .int .u8 fq, .int .u8 fc, .slice A m c]] w fun e w' =>
      e = .returned (.tuple #[.agg #[.int .u8 a, .int .u8 5, .int .u8 n, .int .u8 0, .int .u8 0, .slice none 0 0], .slice none 0 0, .bool true]) ∧ w.grownBy w' (some g) ∧
      w'.heap[g]? = some (.cells #[.int .u8 n, .int .u8 t, .int .u8 x, .int .u8 a, v] 43 (0, 0)) := by
  subst hfa
  have hlt := blk_lt h
  have hne := Nat.ne_of_gt hlt
  have HS := Lib.hid hs
  clear hs
  rcases hk with rfl | rfl
  · have T0 := TW.start h 29 #[.int .u8 fa, .int .u8 2, .int .u8 fs, .int .u8 fq, .int .u8 fc, .slice A m c] #[.int .u8 0, .int .u8 0, .int .u8 0, .int .u8 0, .int .u8 0, .slice none 0 0]
    have HT0 := Lib.hid T0
    obtain ⟨h0, h1, h2, h3, h4⟩ := blk5 h
    clear h T0
    have e1 : (fa != fa) = false := by simp
    go_enter Try.func13, Try.ntmps13
    go_wp2_with fail
    go_quiet (fail)
    go_wp2_with fail
    go_region_held3 (fun w' => w'.cell? ⟨g, 0, none⟩ = some (.int .u8 n) ∧ w'.cell? ⟨g, 1, none⟩ = some (.int .u8 t) ∧ w'.cell? ⟨g, 2, none⟩ = some (.int .u8 x) ∧
        w'.cell? ⟨w.heap.size, 0, none⟩ = some (.int .u8 fa) ∧ w'.cell? ⟨w.heap.size, 1, none⟩ = some (.int .u8 2) ∧ w'.cell? ⟨w.heap.size, 2, none⟩ = some (.int .u8 fs) ∧
        w'.cell? ⟨w.heap.size, 3, none⟩ = some (.int .u8 fq) ∧ w'.cell? ⟨w.heap.size, 4, none⟩ = some (.int .u8 fc) ∧ w'.cell? ⟨w.heap.size, 5, none⟩ = some (.slice A m c))
      (first | go_keep | (go_split_ands; refine ⟨?_, ?_, ?_, ?_, ?_, ?_, ?_, ?_, ?_⟩ <;> (rw [hc _ _ (by simp; omega)]; assumption)))
      ((go_at_call 30; refine (is_no _ _ _ _ _ _ _ _ _ _ _ _ HS.out).mono ?_; rintro e w1 ⟨rfl, hb⟩; obtain ⟨hc, hf⟩ := bcell hb))
    have T1 := (HT0.out.drewN _).below hb
    have HT1 := Lib.hid T1
    clear hb hc hf HT0 h0 h1 h2 h3 h4 T1
    go_wp2_with fail
    refine (answer_any _ g fa n t x 5 v ?hh).mono ?_
    case hh => exact HT1.out.hg
    rintro e w2 ⟨rfl, hb, hg2⟩
    have T2 := HT1.out.below hb
    obtain ⟨a0, a1, a2, a3, a4, a5⟩ := blk6 T2.hA
    obtain ⟨b0, b1, b2, b3, b4, b5⟩ := frz6 T2.hA
    have HT2 := Lib.hid T2
    clear hb hg2 T2 HT1
    go_wp2
    have TF := (((((HT2.out.setA 0 (.int .u8 fa)).setA 1 (.int .u8 5)).setA 2 (.int .u8 n)).setA 3 (.int .u8 0)).setA 4 (.int .u8 0)).setA 5 (.slice none 0 0)
    simp only [List.setIfInBounds_toArray, List.set_cons_zero, List.set_cons_succ] at TF
    exact bodyPost_ret (res13 _ _ (w.heap.size + 1) (.int .u8 fa) (.int .u8 5) (.int .u8 n) (.int .u8 0) (.int .u8 0) (.slice none 0 0) (.slice none 0 0) (.bool true) rfl rfl rfl TF.hA) rfl ⟨rfl, TF.gr, TF.hg⟩
  · have T0 := TW.start h 29 #[.int .u8 fa, .int .u8 3, .int .u8 fs, .int .u8 fq, .int .u8 fc, .slice A m c] #[.int .u8 0, .int .u8 0, .int .u8 0, .int .u8 0, .int .u8 0, .slice none 0 0]
    have HT0 := Lib.hid T0
    obtain ⟨h0, h1, h2, h3, h4⟩ := blk5 h
    clear h T0
    have e1 : (fa != fa) = false := by simp
    go_enter Try.func13, Try.ntmps13
    go_wp2_with fail
    go_quiet (fail)
    go_wp2_with fail
    go_region_held3 (fun w' => w'.cell? ⟨g, 0, none⟩ = some (.int .u8 n) ∧ w'.cell? ⟨g, 1, none⟩ = some (.int .u8 t) ∧ w'.cell? ⟨g, 2, none⟩ = some (.int .u8 x) ∧
        w'.cell? ⟨w.heap.size, 0, none⟩ = some (.int .u8 fa) ∧ w'.cell? ⟨w.heap.size, 1, none⟩ = some (.int .u8 3) ∧ w'.cell? ⟨w.heap.size, 2, none⟩ = some (.int .u8 fs) ∧
        w'.cell? ⟨w.heap.size, 3, none⟩ = some (.int .u8 fq) ∧ w'.cell? ⟨w.heap.size, 4, none⟩ = some (.int .u8 fc) ∧ w'.cell? ⟨w.heap.size, 5, none⟩ = some (.slice A m c))
      (first | go_keep | (go_split_ands; refine ⟨?_, ?_, ?_, ?_, ?_, ?_, ?_, ?_, ?_⟩ <;> (rw [hc _ _ (by simp; omega)]; assumption)))
      ((go_at_call 30; refine (is_no _ _ _ _ _ _ _ _ _ _ _ _ HS.out).mono ?_; rintro e w1 ⟨rfl, hb⟩; obtain ⟨hc, hf⟩ := bcell hb))
    have T1 := (HT0.out.drewN _).below hb
    have HT1 := Lib.hid T1
    clear hb hc hf HT0 h0 h1 h2 h3 h4 T1
    go_wp2_with fail
    refine (answer_any _ g fa n t x 5 v ?hh).mono ?_
    case hh => exact HT1.out.hg
    rintro e w2 ⟨rfl, hb, hg2⟩
    have T2 := HT1.out.below hb
    obtain ⟨a0, a1, a2, a3, a4, a5⟩ := blk6 T2.hA
    obtain ⟨b0, b1, b2, b3, b4, b5⟩ := frz6 T2.hA
    have HT2 := Lib.hid T2
    clear hb hg2 T2 HT1
    go_wp2
    have TF := (((((HT2.out.setA 0 (.int .u8 fa)).setA 1 (.int .u8 5)).setA 2 (.int .u8 n)).setA 3 (.int .u8 0)).setA 4 (.int .u8 0)).setA 5 (.slice none 0 0)
    simp only [List.setIfInBounds_toArray, List.set_cons_zero, List.set_cons_succ] at TF
    exact bodyPost_ret (res13 _ _ (w.heap.size + 1) (.int .u8 fa) (.int .u8 5) (.int .u8 n) (.int .u8 0) (.int .u8 0) (.slice none 0 0) (.slice none 0 0) (.bool true) rfl rfl rfl TF.hA) rfl ⟨rfl, TF.gr, TF.hg⟩

set_option maxHeartbeats 2000000 in
theorem offer_no (w : World) (g : Nat) (v bv : Value) (l : List UInt8) (h : ReadsB w bv l) (hl : l = [] ∨ 24 < l.length) :
    Calls Try.prog 12 #[.pointer (some ⟨g, 0, none⟩), bv] w fun e w' => e = .returned (.int .i64 1) ∧ w = w' := by
  obtain ⟨A, c, rfl, hlc, hl2, hnil, hcell⟩ := h
  clear hcell hnil
  rcases hl with rfl | hl
  · go_enter Try.func12, Try.ntmps12
    go_wp2
    go_ret
    exact ⟨rfl, rfl⟩
  · have k1 : ((l.length : Int) == 0) = false := by simp; intro h; simp [h] at hl
    have k2 : decide (24 < l.length) = true := by simpa using hl
    go_enter Try.func12, Try.ntmps12
    go_wp2
    go_ret
    exact ⟨rfl, rfl⟩

set_option maxHeartbeats 2000000 in
theorem offer_full (w : World) (g n' c' : Nat) (A' : Option Addr) (bv : Value) (l : List UInt8) (h : ReadsB w bv l) (hl : 0 < l.length) (hl2 : l.length ≤ 24)
    (h4 : w.cell? ⟨g, 4, none⟩ = some (.slice A' n' c')) (hn : 0 < n') :
    Calls Try.prog 12 #[.pointer (some ⟨g, 0, none⟩), bv] w fun e w' => e = .returned (.int .i64 5) ∧ w = w' := by
  obtain ⟨A, c, rfl, hlc, hl3, hnil, hcell⟩ := h
  clear hcell hnil
  have k1 : ((l.length : Int) == 0) = false := by simp; intro h; simp [h] at hl
  have k2 : decide (24 < l.length) = false := by simp; omega
  go_enter Try.func12, Try.ntmps12
  go_wp2_with (go_at_call 14; refine (pending_yes _ g A' n' c' h4 hn).mono ?_; rintro e w' ⟨rfl, rfl⟩)
  go_ret
  exact ⟨rfl, rfl⟩

set_option maxHeartbeats 2000000 in
theorem offer_ok (w : World) (g : Nat) (a n t x : Int) (A' : Option Addr) (c' : Nat) (bv : Value) (l : List UInt8) (h : ReadsB w bv l) (hl : 0 < l.length) (hl2 : l.length ≤ 24)
    (hg : w.heap[g]? = some (.cells #[.int .u8 n, .int .u8 t, .int .u8 x, .int .u8 a, .slice A' 0 c'] 43 (0, 0))) :
    Calls Try.prog 12 #[.pointer (some ⟨g, 0, none⟩), bv] w fun e w' => e = .returned (.int .i64 0) ∧ w.grownBy w' (some g) ∧
      ∃ v', w'.heap[g]? = some (.cells #[.int .u8 n, .int .u8 t, .int .u8 x, .int .u8 a, v'] 43 (0, 0)) ∧ w'.ownsRow w.heap.size 5 1 v' l.length (bytesV l) := by
  have HR := Lib.hid h
  obtain ⟨A, c, rfl, hlc, hl3, hnil, hcell⟩ := h
  clear hcell hnil
  have k1 : ((l.length : Int) == 0) = false := by simp; intro h; simp [h] at hl
  have k2 : decide (24 < l.length) = false := by simp; omega
  obtain ⟨h0, h1, h2, h3, h4⟩ := blk5 hg
  have HG := Lib.hid hg
  clear hg
  go_enter Try.func12, Try.ntmps12
  go_wp2_with (go_at_call 14; refine (pending_no _ g A' 0 c' h4 rfl).mono ?_; rintro e w' ⟨rfl, rfl⟩)
  refine (clone_any _ (.slice A l.length c) l ?hh).mono ?_
  case hh => exact HR.out
  rintro e w1 ⟨v1, rfl, hown, hb⟩
  have hg1 := blk_below' HG.out hb
  obtain ⟨A1, c1, rfl⟩ := own_slice hown
  clear h0 h1 h2 h3 h4
  obtain ⟨h0, h1, h2, h3, h4⟩ := blk5 hg1
  obtain ⟨f0, f1, f2, f3, f4⟩ := frz5 hg1
  have HG1 := Lib.hid hg1
  have HB := Lib.hid hb
  have HO := Lib.hid hown
  clear hg1 hb hown
  go_wp2
  go_ret
  refine ⟨rfl, grown_set (grown_below HB.out _) _ _, _, blk_set HG1.out _ _, ?_⟩
  exact own_keep HO.out fun k hk => far1 (by simpa using own_ne HO.out HG1.out (by decide) k hk) rfl
end Go.Proofs.Ytmhdckpmkgkglaa
