/- lamplightlaw07.shown returns true. Written by gen_shown7.py. -/
import Derived.Test.YtdgbmiobfehpdaaMk
import Derived.Outline
set_option linter.unusedVariables false
set_option linter.unusedSimpArgs false
namespace Go.Proofs.Ytdgbmiobfehpdaa
open Go.RowKit

set_option maxHeartbeats 8000000 in
set_option maxRecDepth 100000 in
theorem shown_any (w : World) : Calls Try.prog 10 #[] w fun e w' => e = .returned (.bool true) ∧ Below w.heap.size w w' := by
  have kc := conv_const
  have kf2 := fieldFrame2
  go_enter Try.func10, Try.ntmps10
  go_wp2_with fail
  refine (master_new _ 5 2 (by decide)).mono ?_
  rintro e w1 ⟨rfl, hb1, hs1⟩
  have HB1 := Lib.hid hb1
  have HS1 : Hid (MasterAt w1 w.heap.size w.heap.size ⟨0, 0, 5, 1, 2, 0, 0, 0, []⟩) := hs1
  have hl1 : w.heap.size < w1.heap.size := HS1.out.lt
  clear hb1 hs1
  go_wp2_with fail
  refine (masterK_send _ w.heap.size w.heap.size ⟨0, 0, 5, 1, 2, 0, 0, 0, []⟩ ⟨0, 0, 5, 1, 2, 0, 0, 0, []⟩ (.slice (some ⟨w1.heap.size, 0, none⟩) 1 1) [120] 7 ?hS ?hR ?hF).mono ?_
  case hS => exact HS1.out.below (by repeat' (first | (with_reducible exact Below.refl _ _) | (with_reducible refine below_drewN ?_ _) | (with_reducible refine Below.setCell ?_ ?_ _) | (with_reducible refine Below.alloc ?_ ?_ _) | (simp; done) | (simp; omega)))
  case hR => exact reads_lit (t := 5) (fr := (1, 2)) (cs := #[.int .u8 120]) (by repeat' (first | (refine blk_new' _ _ _ ?_; simp; done) | (with_reducible refine blk_alloc ?_ _))) [120] rfl (by decide)
  case hF => rfl
  rintro e w2 ⟨rfl, hk, hs⟩
  have HB2 := Lib.hid (stepK HB1.out (by omega) (by repeat' (first | (with_reducible exact Below.refl _ _) | (with_reducible refine below_drewN ?_ _) | (with_reducible refine Below.setCell ?_ ?_ _) | (with_reducible refine Below.alloc ?_ ?_ _) | (simp; done) | (simp; omega))) hk (Nat.le_refl _))
  have HS2 : Hid (MasterAt w2 w.heap.size w.heap.size ⟨0, 0, 5, 1, 2, 0, 0, 0, []⟩) := hs
  have hl2 : w.heap.size < w2.heap.size := HS2.out.lt
  clear hk hs
  clear HB1 HS1 hl1
  go_wp2_with fail
  refine (master_next _ w.heap.size w.heap.size ⟨0, 0, 5, 1, 2, 0, 0, 0, []⟩ ?hS).mono ?_
  case hS => exact HS2.out.below (by repeat' (first | (with_reducible exact Below.refl _ _) | (with_reducible refine below_drewN ?_ _) | (with_reducible refine Below.setCell ?_ ?_ _) | (with_reducible refine Below.alloc ?_ ?_ _) | (simp; done) | (simp; omega)))
  rintro e w3 ⟨v1, rfl, ho, hbel⟩
  obtain ⟨A3, c3, rfl⟩ := own_slice ho
  have e1 : MS.nextF ⟨0, 0, 5, 1, 2, 0, 0, 0, []⟩ = ⟨5, 1, 1, 0, 0, []⟩ := rfl
  rw [e1] at ho ⊢
  clear e1
  simp only [List.length_cons, List.length_nil, Nat.reduceAdd] at ho ⊢
  have HB3 : Hid (Below w.heap.size w w3) := (HB2.out.trans (Below.mono (by repeat' (first | (with_reducible exact Below.refl _ _) | (with_reducible refine below_drewN ?_ _) | (with_reducible refine Below.setCell ?_ ?_ _) | (with_reducible refine Below.alloc ?_ ?_ _) | (simp; done) | (simp; omega))) (Nat.le_of_lt hl2))).trans (hbel.mono (by first | omega | (simp; omega)))
  have HS3 : Hid (MasterAt w3 w.heap.size w.heap.size ⟨0, 0, 5, 1, 2, 0, 0, 0, []⟩) := (HS2.out.below (by repeat' (first | (with_reducible exact Below.refl _ _) | (with_reducible refine below_drewN ?_ _) | (with_reducible refine Below.setCell ?_ ?_ _) | (with_reducible refine Below.alloc ?_ ?_ _) | (simp; done) | (simp; omega)))).below hbel
  have hl3 : w.heap.size < w3.heap.size := HS3.out.lt
  clear hbel ho
  clear HB2 HS2 hl2
  go_wp2_with fail
  refine (masterK_heard _ w.heap.size w.heap.size ⟨0, 0, 5, 1, 2, 0, 0, 0, []⟩ ⟨0, 0, 5, 1, 2, 1, 1, 0, []⟩ ⟨5, 4, 1, 0, 0, []⟩ none 0 0 [] true rfl ?hS ?hR ?hN (by decide) (by decide) ?hF).mono ?_
  case hS => exact HS3.out.below (by repeat' (first | (with_reducible exact Below.refl _ _) | (with_reducible refine below_drewN ?_ _) | (with_reducible refine Below.setCell ?_ ?_ _) | (with_reducible refine Below.alloc ?_ ?_ _) | (simp; done) | (simp; omega)))
  case hR => exact ReadsB.nil _
  case hN => intro ad n c h; cases h
  case hF => rfl
  rintro e w4 ⟨v1, rfl, ho, hk, hs⟩
  obtain ⟨A4, c4, rfl⟩ := own_slice ho
  simp only [List.length_cons, List.length_nil, Nat.reduceAdd] at ho ⊢
  have HB4 := Lib.hid (stepK HB3.out (by omega) (by repeat' (first | (with_reducible exact Below.refl _ _) | (with_reducible refine below_drewN ?_ _) | (with_reducible refine Below.setCell ?_ ?_ _) | (with_reducible refine Below.alloc ?_ ?_ _) | (simp; done) | (simp; omega))) hk (Nat.le_refl _))
  have HXf_4 : Hid (w4.heap[w3.heap.size]? = some (.cells #[.int .u8 5, .int .u8 1, .int .u8 1, .int .u8 0, .int .u8 0, .slice A3 0 c3] 30 (0, 0))) := hk.blk (by repeat' (first | (refine blk_new' _ _ _ ?_; simp; done) | (with_reducible refine blk_alloc ?_ _))) (by decide)
  have HS4 : Hid (MasterAt w4 w.heap.size w.heap.size ⟨0, 0, 5, 1, 2, 1, 1, 0, []⟩) := hs
  have hl4 : w.heap.size < w4.heap.size := HS4.out.lt
  clear hk hs ho
  clear HB3 HS3 hl3
  go_wp2_with fail
  refine (masterK_send _ w.heap.size w.heap.size ⟨0, 0, 5, 1, 2, 1, 1, 0, []⟩ ⟨0, 0, 5, 1, 2, 1, 1, 0, [[120]]⟩ (.slice (some ⟨w4.heap.size, 0, none⟩) 1 1) [120] 0 ?hS ?hR ?hF).mono ?_
  case hS => exact HS4.out.below (by repeat' (first | (with_reducible exact Below.refl _ _) | (with_reducible refine below_drewN ?_ _) | (with_reducible refine Below.setCell ?_ ?_ _) | (with_reducible refine Below.alloc ?_ ?_ _) | (simp; done) | (simp; omega)))
  case hR => exact reads_lit (t := 5) (fr := (1, 2)) (cs := #[.int .u8 120]) (by repeat' (first | (refine blk_new' _ _ _ ?_; simp; done) | (with_reducible refine blk_alloc ?_ _))) [120] rfl (by decide)
  case hF => rfl
  rintro e w5 ⟨rfl, hk, hs⟩
  have HB5 := Lib.hid (stepK HB4.out (by omega) (by repeat' (first | (with_reducible exact Below.refl _ _) | (with_reducible refine below_drewN ?_ _) | (with_reducible refine Below.setCell ?_ ?_ _) | (with_reducible refine Below.alloc ?_ ?_ _) | (simp; done) | (simp; omega))) hk (Nat.le_refl _))
  have HXf_5 := Lib.hid (boxK HXf_4.out (by repeat' (first | (with_reducible exact Below.refl _ _) | (with_reducible refine below_drewN ?_ _) | (with_reducible refine Below.setCell ?_ ?_ _) | (with_reducible refine Below.alloc ?_ ?_ _) | (simp; done) | (simp; omega))) hk (by decide))
  have HS5 : Hid (MasterAt w5 w.heap.size w.heap.size ⟨0, 0, 5, 1, 2, 1, 1, 0, [[120]]⟩) := hs
  have hl5 : w.heap.size < w5.heap.size := HS5.out.lt
  clear hk hs
  clear HB4 HS4 hl4 HXf_4
  go_wp2_with fail
  refine (master_next _ w.heap.size w.heap.size ⟨0, 0, 5, 1, 2, 1, 1, 0, [[120]]⟩ ?hS).mono ?_
  case hS => exact HS5.out.below (by repeat' (first | (with_reducible exact Below.refl _ _) | (with_reducible refine below_drewN ?_ _) | (with_reducible refine Below.setCell ?_ ?_ _) | (with_reducible refine Below.alloc ?_ ?_ _) | (simp; done) | (simp; omega)))
  rintro e w6 ⟨v1, rfl, ho, hbel⟩
  obtain ⟨A6, c6, rfl⟩ := own_slice ho
  have e1 : MS.nextF ⟨0, 0, 5, 1, 2, 1, 1, 0, [[120]]⟩ = ⟨5, 2, 1, 0, 0, [120]⟩ := rfl
  rw [e1] at ho ⊢
  clear e1
  simp only [List.length_cons, List.length_nil, Nat.reduceAdd] at ho ⊢
  have HB6 : Hid (Below w.heap.size w w6) := (HB5.out.trans (Below.mono (by repeat' (first | (with_reducible exact Below.refl _ _) | (with_reducible refine below_drewN ?_ _) | (with_reducible refine Below.setCell ?_ ?_ _) | (with_reducible refine Below.alloc ?_ ?_ _) | (simp; done) | (simp; omega))) (Nat.le_of_lt hl5))).trans (hbel.mono (by first | omega | (simp; omega)))
  have HXf_6 := Lib.hid (blk_below' (blk_below' HXf_5.out (by repeat' (first | (with_reducible exact Below.refl _ _) | (with_reducible refine below_drewN ?_ _) | (with_reducible refine Below.setCell ?_ ?_ _) | (with_reducible refine Below.alloc ?_ ?_ _) | (simp; done) | (simp; omega)))) hbel)
  have HRg_6 := Lib.hid ho
  have HS6 : Hid (MasterAt w6 w.heap.size w.heap.size ⟨0, 0, 5, 1, 2, 1, 1, 0, [[120]]⟩) := (HS5.out.below (by repeat' (first | (with_reducible exact Below.refl _ _) | (with_reducible refine below_drewN ?_ _) | (with_reducible refine Below.setCell ?_ ?_ _) | (with_reducible refine Below.alloc ?_ ?_ _) | (simp; done) | (simp; omega)))).below hbel
  have hl6 : w.heap.size < w6.heap.size := HS6.out.lt
  clear hbel ho
  clear HB5 HS5 hl5 HXf_5
  go_wp2_with fail
  refine (masterK_heard _ w.heap.size w.heap.size ⟨0, 0, 5, 1, 2, 1, 1, 0, [[120]]⟩ ⟨1, 1, 5, 1, 2, 1, 1, 0, []⟩ ⟨5, 5, 1, 0, 1, [101]⟩ (some ⟨w6.heap.size + 1, 0, none⟩) 1 1 [101] true rfl ?hS ?hR ?hN (by decide) (by decide) ?hF).mono ?_
  case hS => exact HS6.out.below (by repeat' (first | (with_reducible exact Below.refl _ _) | (with_reducible refine below_drewN ?_ _) | (with_reducible refine Below.setCell ?_ ?_ _) | (with_reducible refine Below.alloc ?_ ?_ _) | (simp; done) | (simp; omega)))
  case hR => exact reads_lit (t := 5) (fr := (1, 2)) (cs := #[.int .u8 101]) (by repeat' (first | (refine blk_new' _ _ _ ?_; simp; done) | (with_reducible refine blk_alloc ?_ _))) [101] rfl (by decide)
  case hN => intro ad n c h hne; cases h; simp; omega
  case hF => rfl
  rintro e w7 ⟨v1, rfl, ho, hk, hs⟩
  obtain ⟨A7, c7, rfl⟩ := own_slice ho
  simp only [List.length_cons, List.length_nil, Nat.reduceAdd] at ho ⊢
  have HB7 := Lib.hid (stepK HB6.out (by omega) (by repeat' (first | (with_reducible exact Below.refl _ _) | (with_reducible refine below_drewN ?_ _) | (with_reducible refine Below.setCell ?_ ?_ _) | (with_reducible refine Below.alloc ?_ ?_ _) | (simp; done) | (simp; omega))) hk (Nat.le_refl _))
  have HXf_7 := Lib.hid (boxK HXf_6.out (by repeat' (first | (with_reducible exact Below.refl _ _) | (with_reducible refine below_drewN ?_ _) | (with_reducible refine Below.setCell ?_ ?_ _) | (with_reducible refine Below.alloc ?_ ?_ _) | (simp; done) | (simp; omega))) hk (by decide))
  have HXg_7 : Hid (w7.heap[w6.heap.size]? = some (.cells #[.int .u8 5, .int .u8 2, .int .u8 1, .int .u8 0, .int .u8 0, .slice A6 1 c6] 30 (0, 0))) := hk.blk (by repeat' (first | (refine blk_new' _ _ _ ?_; simp; done) | (with_reducible refine blk_alloc ?_ _))) (by decide)
  have HRg_7 := Lib.hid (rowK HRg_6.out (by repeat' (first | (with_reducible exact Below.refl _ _) | (with_reducible refine below_drewN ?_ _) | (with_reducible refine Below.setCell ?_ ?_ _) | (with_reducible refine Below.alloc ?_ ?_ _) | (simp; done) | (simp; omega))) hk (by decide))
  have HRc_7 := Lib.hid ho
  have HS7 : Hid (MasterAt w7 w.heap.size w.heap.size ⟨1, 1, 5, 1, 2, 1, 1, 0, []⟩) := hs
  have hl7 : w.heap.size < w7.heap.size := HS7.out.lt
  clear hk hs ho
  clear HB6 HS6 hl6 HXf_6 HRg_6
  go_wp2_with fail
  refine (master_next _ w.heap.size w.heap.size ⟨1, 1, 5, 1, 2, 1, 1, 0, []⟩ ?hS).mono ?_
  case hS => exact HS7.out.below (by repeat' (first | (with_reducible exact Below.refl _ _) | (with_reducible refine below_drewN ?_ _) | (with_reducible refine Below.setCell ?_ ?_ _) | (with_reducible refine Below.alloc ?_ ?_ _) | (simp; done) | (simp; omega)))
  rintro e w8 ⟨v1, rfl, ho, hbel⟩
  obtain ⟨A8, c8, rfl⟩ := own_slice ho
  have e1 : MS.nextF ⟨1, 1, 5, 1, 2, 1, 1, 0, []⟩ = ⟨5, 3, 1, 1, 1, []⟩ := rfl
  rw [e1] at ho ⊢
  clear e1
  simp only [List.length_cons, List.length_nil, Nat.reduceAdd] at ho ⊢
  have HB8 : Hid (Below w.heap.size w w8) := (HB7.out.trans (Below.mono (by repeat' (first | (with_reducible exact Below.refl _ _) | (with_reducible refine below_drewN ?_ _) | (with_reducible refine Below.setCell ?_ ?_ _) | (with_reducible refine Below.alloc ?_ ?_ _) | (simp; done) | (simp; omega))) (Nat.le_of_lt hl7))).trans (hbel.mono (by first | omega | (simp; omega)))
  have HXf_8 := Lib.hid (blk_below' (blk_below' HXf_7.out (by repeat' (first | (with_reducible exact Below.refl _ _) | (with_reducible refine below_drewN ?_ _) | (with_reducible refine Below.setCell ?_ ?_ _) | (with_reducible refine Below.alloc ?_ ?_ _) | (simp; done) | (simp; omega)))) hbel)
  have HXg_8 := Lib.hid (blk_below' (blk_below' HXg_7.out (by repeat' (first | (with_reducible exact Below.refl _ _) | (with_reducible refine below_drewN ?_ _) | (with_reducible refine Below.setCell ?_ ?_ _) | (with_reducible refine Below.alloc ?_ ?_ _) | (simp; done) | (simp; omega)))) hbel)
  have HRg_8 := Lib.hid (own_below (own_below HRg_7.out (by repeat' (first | (with_reducible exact Below.refl _ _) | (with_reducible refine below_drewN ?_ _) | (with_reducible refine Below.setCell ?_ ?_ _) | (with_reducible refine Below.alloc ?_ ?_ _) | (simp; done) | (simp; omega)))) hbel)
  have HRc_8 := Lib.hid (own_below (own_below HRc_7.out (by repeat' (first | (with_reducible exact Below.refl _ _) | (with_reducible refine below_drewN ?_ _) | (with_reducible refine Below.setCell ?_ ?_ _) | (with_reducible refine Below.alloc ?_ ?_ _) | (simp; done) | (simp; omega)))) hbel)
  have HS8 : Hid (MasterAt w8 w.heap.size w.heap.size ⟨1, 1, 5, 1, 2, 1, 1, 0, []⟩) := (HS7.out.below (by repeat' (first | (with_reducible exact Below.refl _ _) | (with_reducible refine below_drewN ?_ _) | (with_reducible refine Below.setCell ?_ ?_ _) | (with_reducible refine Below.alloc ?_ ?_ _) | (simp; done) | (simp; omega)))).below hbel
  have hl8 : w.heap.size < w8.heap.size := HS8.out.lt
  clear hbel ho
  clear HB7 HS7 hl7 HXf_7 HXg_7 HRg_7 HRc_7
  go_wp2_with fail
  refine (masterK_heard _ w.heap.size w.heap.size ⟨1, 1, 5, 1, 2, 1, 1, 0, []⟩ ⟨1, 1, 5, 1, 2, 1, 1, 0, []⟩ ⟨5, 5, 1, 0, 1, [101]⟩ (some ⟨w8.heap.size + 1, 0, none⟩) 1 1 [] true rfl ?hS ?hR ?hN (by decide) (by decide) ?hF).mono ?_
  case hS => exact HS8.out.below (by repeat' (first | (with_reducible exact Below.refl _ _) | (with_reducible refine below_drewN ?_ _) | (with_reducible refine Below.setCell ?_ ?_ _) | (with_reducible refine Below.alloc ?_ ?_ _) | (simp; done) | (simp; omega)))
  case hR => exact reads_lit (t := 5) (fr := (1, 2)) (cs := #[.int .u8 101]) (by repeat' (first | (refine blk_new' _ _ _ ?_; simp; done) | (with_reducible refine blk_alloc ?_ _))) [101] rfl (by decide)
  case hN => intro ad n c h hne; cases h; simp; omega
  case hF => rfl
  rintro e w9 ⟨v1, rfl, ho, hk, hs⟩
  obtain ⟨A9, c9, rfl⟩ := own_slice ho
  simp only [List.length_cons, List.length_nil, Nat.reduceAdd] at ho ⊢
  have HB9 := Lib.hid (stepK HB8.out (by omega) (by repeat' (first | (with_reducible exact Below.refl _ _) | (with_reducible refine below_drewN ?_ _) | (with_reducible refine Below.setCell ?_ ?_ _) | (with_reducible refine Below.alloc ?_ ?_ _) | (simp; done) | (simp; omega))) hk (Nat.le_refl _))
  have HXf_9 := Lib.hid (boxK HXf_8.out (by repeat' (first | (with_reducible exact Below.refl _ _) | (with_reducible refine below_drewN ?_ _) | (with_reducible refine Below.setCell ?_ ?_ _) | (with_reducible refine Below.alloc ?_ ?_ _) | (simp; done) | (simp; omega))) hk (by decide))
  have HXg_9 := Lib.hid (boxK HXg_8.out (by repeat' (first | (with_reducible exact Below.refl _ _) | (with_reducible refine below_drewN ?_ _) | (with_reducible refine Below.setCell ?_ ?_ _) | (with_reducible refine Below.alloc ?_ ?_ _) | (simp; done) | (simp; omega))) hk (by decide))
  have HXh_9 : Hid (w9.heap[w8.heap.size]? = some (.cells #[.int .u8 5, .int .u8 3, .int .u8 1, .int .u8 1, .int .u8 1, .slice A8 0 c8] 30 (0, 0))) := hk.blk (by repeat' (first | (refine blk_new' _ _ _ ?_; simp; done) | (with_reducible refine blk_alloc ?_ _))) (by decide)
  have HRg_9 := Lib.hid (rowK HRg_8.out (by repeat' (first | (with_reducible exact Below.refl _ _) | (with_reducible refine below_drewN ?_ _) | (with_reducible refine Below.setCell ?_ ?_ _) | (with_reducible refine Below.alloc ?_ ?_ _) | (simp; done) | (simp; omega))) hk (by decide))
  have HRc_9 := Lib.hid (rowK HRc_8.out (by repeat' (first | (with_reducible exact Below.refl _ _) | (with_reducible refine below_drewN ?_ _) | (with_reducible refine Below.setCell ?_ ?_ _) | (with_reducible refine Below.alloc ?_ ?_ _) | (simp; done) | (simp; omega))) hk (by decide))
  have HS9 : Hid (MasterAt w9 w.heap.size w.heap.size ⟨1, 1, 5, 1, 2, 1, 1, 0, []⟩) := hs
  have hl9 : w.heap.size < w9.heap.size := HS9.out.lt
  clear hk hs ho
  clear HB8 HS8 hl8 HXf_8 HXg_8 HRg_8 HRc_8
  go_wp2_with fail
  refine (masterK_missed _ w.heap.size w.heap.size ⟨1, 1, 5, 1, 2, 1, 1, 0, []⟩ ⟨1, 1, 5, 1, 2, 1, 1, 1, []⟩ false ?hS ?hF).mono ?_
  case hS => exact HS9.out.below (by repeat' (first | (with_reducible exact Below.refl _ _) | (with_reducible refine below_drewN ?_ _) | (with_reducible refine Below.setCell ?_ ?_ _) | (with_reducible refine Below.alloc ?_ ?_ _) | (simp; done) | (simp; omega)))
  case hF => rfl
  rintro e w10 ⟨rfl, hk, hs⟩
  have HB10 := Lib.hid (stepK HB9.out (by omega) (by repeat' (first | (with_reducible exact Below.refl _ _) | (with_reducible refine below_drewN ?_ _) | (with_reducible refine Below.setCell ?_ ?_ _) | (with_reducible refine Below.alloc ?_ ?_ _) | (simp; done) | (simp; omega))) hk (Nat.le_refl _))
  have HXf_10 := Lib.hid (boxK HXf_9.out (by repeat' (first | (with_reducible exact Below.refl _ _) | (with_reducible refine below_drewN ?_ _) | (with_reducible refine Below.setCell ?_ ?_ _) | (with_reducible refine Below.alloc ?_ ?_ _) | (simp; done) | (simp; omega))) hk (by decide))
  have HXg_10 := Lib.hid (boxK HXg_9.out (by repeat' (first | (with_reducible exact Below.refl _ _) | (with_reducible refine below_drewN ?_ _) | (with_reducible refine Below.setCell ?_ ?_ _) | (with_reducible refine Below.alloc ?_ ?_ _) | (simp; done) | (simp; omega))) hk (by decide))
  have HXh_10 := Lib.hid (boxK HXh_9.out (by repeat' (first | (with_reducible exact Below.refl _ _) | (with_reducible refine below_drewN ?_ _) | (with_reducible refine Below.setCell ?_ ?_ _) | (with_reducible refine Below.alloc ?_ ?_ _) | (simp; done) | (simp; omega))) hk (by decide))
  have HRg_10 := Lib.hid (rowK HRg_9.out (by repeat' (first | (with_reducible exact Below.refl _ _) | (with_reducible refine below_drewN ?_ _) | (with_reducible refine Below.setCell ?_ ?_ _) | (with_reducible refine Below.alloc ?_ ?_ _) | (simp; done) | (simp; omega))) hk (by decide))
  have HRc_10 := Lib.hid (rowK HRc_9.out (by repeat' (first | (with_reducible exact Below.refl _ _) | (with_reducible refine below_drewN ?_ _) | (with_reducible refine Below.setCell ?_ ?_ _) | (with_reducible refine Below.alloc ?_ ?_ _) | (simp; done) | (simp; omega))) hk (by decide))
  have HS10 : Hid (MasterAt w10 w.heap.size w.heap.size ⟨1, 1, 5, 1, 2, 1, 1, 1, []⟩) := hs
  have hl10 : w.heap.size < w10.heap.size := HS10.out.lt
  clear hk hs
  clear HB9 HS9 hl9 HXf_9 HXg_9 HXh_9 HRg_9 HRc_9
  go_wp2_with fail
  refine (masterK_missed _ w.heap.size w.heap.size ⟨1, 1, 5, 1, 2, 1, 1, 1, []⟩ ⟨1, 1, 5, 2, 2, 2, 1, 0, []⟩ true ?hS ?hF).mono ?_
  case hS => exact HS10.out.below (by repeat' (first | (with_reducible exact Below.refl _ _) | (with_reducible refine below_drewN ?_ _) | (with_reducible refine Below.setCell ?_ ?_ _) | (with_reducible refine Below.alloc ?_ ?_ _) | (simp; done) | (simp; omega)))
  case hF => rfl
  rintro e w11 ⟨rfl, hk, hs⟩
  have HB11 := Lib.hid (stepK HB10.out (by omega) (by repeat' (first | (with_reducible exact Below.refl _ _) | (with_reducible refine below_drewN ?_ _) | (with_reducible refine Below.setCell ?_ ?_ _) | (with_reducible refine Below.alloc ?_ ?_ _) | (simp; done) | (simp; omega))) hk (Nat.le_refl _))
  have HXf_11 := Lib.hid (boxK HXf_10.out (by repeat' (first | (with_reducible exact Below.refl _ _) | (with_reducible refine below_drewN ?_ _) | (with_reducible refine Below.setCell ?_ ?_ _) | (with_reducible refine Below.alloc ?_ ?_ _) | (simp; done) | (simp; omega))) hk (by decide))
  have HXg_11 := Lib.hid (boxK HXg_10.out (by repeat' (first | (with_reducible exact Below.refl _ _) | (with_reducible refine below_drewN ?_ _) | (with_reducible refine Below.setCell ?_ ?_ _) | (with_reducible refine Below.alloc ?_ ?_ _) | (simp; done) | (simp; omega))) hk (by decide))
  have HXh_11 := Lib.hid (boxK HXh_10.out (by repeat' (first | (with_reducible exact Below.refl _ _) | (with_reducible refine below_drewN ?_ _) | (with_reducible refine Below.setCell ?_ ?_ _) | (with_reducible refine Below.alloc ?_ ?_ _) | (simp; done) | (simp; omega))) hk (by decide))
  have HRg_11 := Lib.hid (rowK HRg_10.out (by repeat' (first | (with_reducible exact Below.refl _ _) | (with_reducible refine below_drewN ?_ _) | (with_reducible refine Below.setCell ?_ ?_ _) | (with_reducible refine Below.alloc ?_ ?_ _) | (simp; done) | (simp; omega))) hk (by decide))
  have HRc_11 := Lib.hid (rowK HRc_10.out (by repeat' (first | (with_reducible exact Below.refl _ _) | (with_reducible refine below_drewN ?_ _) | (with_reducible refine Below.setCell ?_ ?_ _) | (with_reducible refine Below.alloc ?_ ?_ _) | (simp; done) | (simp; omega))) hk (by decide))
  have HS11 : Hid (MasterAt w11 w.heap.size w.heap.size ⟨1, 1, 5, 2, 2, 2, 1, 0, []⟩) := hs
  have hl11 : w.heap.size < w11.heap.size := HS11.out.lt
  clear hk hs
  clear HB10 HS10 hl10 HXf_10 HXg_10 HXh_10 HRg_10 HRc_10
  obtain ⟨xf0, xf1, xf2, xf3, xf4, xf5⟩ := blk6 HXf_11.out
  obtain ⟨xg0, xg1, xg2, xg3, xg4, xg5⟩ := blk6 HXg_11.out
  obtain ⟨xh0, xh1, xh2, xh3, xh4, xh5⟩ := blk6 HXh_11.out
  have kg : (convert 26 9 (.slice A6 1 c6)).run Try.prog w11 = .ok (.string ⟨#[120]⟩) w11 := conv_bytes _ _ [120] (own_reads HRg_11.out (by decide))
  have ke : (convert 26 9 (.slice A7 1 c7)).run Try.prog w11 = .ok (.string ⟨#[101]⟩) w11 := conv_bytes _ _ [101] (own_reads HRc_11.out (by decide))
  go_wp2_with (go_at_call 13; refine (master_state _ w.heap.size w.heap.size ⟨1, 1, 5, 2, 2, 2, 1, 0, []⟩ HS11.out).mono ?_; rintro e w9 ⟨rfl, rfl⟩)
  refine (master_next _ w.heap.size w.heap.size ⟨1, 1, 5, 2, 2, 2, 1, 0, []⟩ HS11.out).mono ?_
  rintro e w12 ⟨v1, rfl, ho, hbel⟩
  obtain ⟨A12, c12, rfl⟩ := own_slice ho
  have e1 : MS.nextF ⟨1, 1, 5, 2, 2, 2, 1, 0, []⟩ = ⟨5, 1, 2, 0, 0, []⟩ := rfl
  rw [e1]
  have HB12 := Lib.hid (HB11.out.trans (hbel.mono (Nat.le_of_lt hl11)))
  have HS12 := Lib.hid (HS11.out.below hbel)
  clear ho hbel e1
  go_wp2_with (go_at_call 15; refine (master_epoch _ w.heap.size w.heap.size ⟨1, 1, 5, 2, 2, 2, 1, 0, []⟩ HS12.out).mono ?_; rintro e w13 ⟨rfl, rfl⟩)
  go_ret
  exact ⟨rfl, HB12.out⟩
end Go.Proofs.Ytdgbmiobfehpdaa
