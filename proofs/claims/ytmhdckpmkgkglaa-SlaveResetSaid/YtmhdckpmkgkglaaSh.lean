/- lamplightlaw08.shown returns true. Written by gen_shown.py. -/
import Derived.Test.YtmhdckpmkgkglaaLw
import Derived.Outline
set_option linter.unusedVariables false
set_option linter.unusedSimpArgs false
namespace Go.Proofs.Ytmhdckpmkgkglaa
open Go.RowKit

set_option maxHeartbeats 8000000 in
set_option maxRecDepth 100000 in
theorem shown_any (w : World) : Calls Try.prog 10 #[] w fun e w' => e = .returned (.bool true) ∧ Below w.heap.size w w' := by
  have kc := conv_const
  go_enter Try.func10, Try.ntmps10
  go_wp2_with fail
  refine (slave_new _ 5).mono ?_
  rintro e w1 ⟨rfl, hb1, hs1⟩
  have HB1 := Lib.hid hb1
  have HS1 : Hid (SlaveAt w1 w.heap.size w.heap.size ⟨5, 0, 0, 0, []⟩) := hs1
  clear hb1 hs1
  go_wp2_with fail
  refine (slave_take _ w.heap.size w.heap.size ⟨5, 0, 0, 0, []⟩ ⟨5, 9, 0, 0, []⟩ ⟨5, 1, 9, 0, 0, []⟩ ⟨5, 4, 9, 0, 0, []⟩ [] true none 0 0 ?hS ?hR ?hN ?hF).mono ?_
  case hS => exact HS1.out.below (by repeat' (first | (with_reducible exact Below.refl _ _) | (with_reducible refine below_drewN ?_ _) | (with_reducible refine Below.setCell ?_ ?_ _) | (with_reducible refine Below.alloc ?_ ?_ _) | (simp; done) | (simp; omega)))
  case hR => exact ReadsB.nil _
  case hN => intro ad n c h; cases h
  case hF => rfl
  rintro e w2 ⟨v1, v2, rfl, ho1, ho2, hgr, hs⟩
  obtain ⟨A2, c2, rfl⟩ := own_slice ho1
  obtain ⟨D2, d2, rfl⟩ := own_slice ho2
  simp only [List.length_cons, List.length_nil, Nat.reduceAdd] at ho1 ho2 ⊢
  have HB2 := Lib.hid (law_step HB1.out HB1.out.size (by repeat' (first | (with_reducible exact Below.refl _ _) | (with_reducible refine below_drewN ?_ _) | (with_reducible refine Below.setCell ?_ ?_ _) | (with_reducible refine Below.alloc ?_ ?_ _) | (simp; done) | (simp; omega))) hgr (Nat.le_refl _))
  have HS2 : Hid (SlaveAt w2 w.heap.size w.heap.size ⟨5, 9, 0, 0, []⟩) := hs
  have hl2 : w.heap.size < w2.heap.size := HS2.out.lt
  clear hgr hs ho1 ho2
  clear HB1 HS1
  go_wp2_with fail
  refine (slave_offer _ w.heap.size w.heap.size ⟨5, 9, 0, 0, []⟩ ⟨5, 9, 0, 0, [101]⟩ (.slice (some ⟨w2.heap.size + 1, 0, none⟩) 1 1) [101] 0 ?hS ?hR ?hF).mono ?_
  case hS => exact HS2.out.below (by repeat' (first | (with_reducible exact Below.refl _ _) | (with_reducible refine below_drewN ?_ _) | (with_reducible refine Below.setCell ?_ ?_ _) | (with_reducible refine Below.alloc ?_ ?_ _) | (simp; done) | (simp; omega)))
  case hR => exact reads_lit (t := 5) (fr := (1, 2)) (cs := #[.int .u8 101]) (by repeat' (first | (refine blk_new' _ _ _ ?_; simp; done) | (with_reducible refine blk_alloc ?_ _))) [101] rfl (by decide)
  case hF => rfl
  rintro e w3 ⟨rfl, hgr, hs⟩
  have HB3 := Lib.hid (law_step HB2.out HB2.out.size (by repeat' (first | (with_reducible exact Below.refl _ _) | (with_reducible refine below_drewN ?_ _) | (with_reducible refine Below.setCell ?_ ?_ _) | (with_reducible refine Below.alloc ?_ ?_ _) | (simp; done) | (simp; omega))) hgr (Nat.le_refl _))
  have HXa_3 : Hid (w3.heap[w2.heap.size]? = some (.cells #[.int .u8 5, .int .u8 4, .int .u8 9, .int .u8 0, .int .u8 0, .slice A2 0 c2] 29 (0, 0))) := blk_grown (o := .cells #[.int .u8 5, .int .u8 4, .int .u8 9, .int .u8 0, .int .u8 0, .slice A2 0 c2] 29 (0, 0)) (by repeat' (first | (refine blk_new' _ _ _ ?_; simp; done) | (with_reducible refine blk_alloc ?_ _))) hgr (by have := HS2.out.lt; simp; omega)
  have HS3 : Hid (SlaveAt w3 w.heap.size w.heap.size ⟨5, 9, 0, 0, [101]⟩) := hs
  have hl3 : w.heap.size < w3.heap.size := HS3.out.lt
  clear hgr hs
  clear HB2 HS2
  go_wp2_with fail
  refine (slave_offer _ w.heap.size w.heap.size ⟨5, 9, 0, 0, [101]⟩ ⟨5, 9, 0, 0, [101]⟩ (.slice (some ⟨w3.heap.size, 0, none⟩) 1 1) [102] 5 ?hS ?hR ?hF).mono ?_
  case hS => exact HS3.out.below (by repeat' (first | (with_reducible exact Below.refl _ _) | (with_reducible refine below_drewN ?_ _) | (with_reducible refine Below.setCell ?_ ?_ _) | (with_reducible refine Below.alloc ?_ ?_ _) | (simp; done) | (simp; omega)))
  case hR => exact reads_lit (t := 5) (fr := (1, 2)) (cs := #[.int .u8 102]) (by repeat' (first | (refine blk_new' _ _ _ ?_; simp; done) | (with_reducible refine blk_alloc ?_ _))) [102] rfl (by decide)
  case hF => rfl
  rintro e w4 ⟨rfl, hgr, hs⟩
  have HB4 := Lib.hid (law_step HB3.out HB3.out.size (by repeat' (first | (with_reducible exact Below.refl _ _) | (with_reducible refine below_drewN ?_ _) | (with_reducible refine Below.setCell ?_ ?_ _) | (with_reducible refine Below.alloc ?_ ?_ _) | (simp; done) | (simp; omega))) hgr (Nat.le_refl _))
  have HXa_4 := Lib.hid (box_step HXa_3.out (by repeat' (first | (with_reducible exact Below.refl _ _) | (with_reducible refine below_drewN ?_ _) | (with_reducible refine Below.setCell ?_ ?_ _) | (with_reducible refine Below.alloc ?_ ?_ _) | (simp; done) | (simp; omega))) hgr (by have := HB3.out.size; omega))
  have HS4 : Hid (SlaveAt w4 w.heap.size w.heap.size ⟨5, 9, 0, 0, [101]⟩) := hs
  have hl4 : w.heap.size < w4.heap.size := HS4.out.lt
  clear hgr hs
  clear HB3 HS3 HXa_3
  go_wp2_with fail
  refine (slave_take _ w.heap.size w.heap.size ⟨5, 9, 0, 0, [101]⟩ ⟨5, 9, 0, 1, [101]⟩ ⟨5, 2, 9, 0, 0, [99]⟩ ⟨5, 5, 9, 0, 1, [101]⟩ [99] true (some ⟨w4.heap.size, 0, none⟩) 1 1 ?hS ?hR ?hN ?hF).mono ?_
  case hS => exact HS4.out.below (by repeat' (first | (with_reducible exact Below.refl _ _) | (with_reducible refine below_drewN ?_ _) | (with_reducible refine Below.setCell ?_ ?_ _) | (with_reducible refine Below.alloc ?_ ?_ _) | (simp; done) | (simp; omega)))
  case hR => exact reads_lit (t := 5) (fr := (1, 2)) (cs := #[.int .u8 99]) (by repeat' (first | (refine blk_new' _ _ _ ?_; simp; done) | (with_reducible refine blk_alloc ?_ _))) [99] rfl (by decide)
  case hN => intro ad n c h hne; cases h; have := HS4.out.lt; simp; omega
  case hF => rfl
  rintro e w5 ⟨v1, v2, rfl, ho1, ho2, hgr, hs⟩
  obtain ⟨A5, c5, rfl⟩ := own_slice ho1
  obtain ⟨D5, d5, rfl⟩ := own_slice ho2
  simp only [List.length_cons, List.length_nil, Nat.reduceAdd] at ho1 ho2 ⊢
  have HB5 := Lib.hid (law_step HB4.out HB4.out.size (by repeat' (first | (with_reducible exact Below.refl _ _) | (with_reducible refine below_drewN ?_ _) | (with_reducible refine Below.setCell ?_ ?_ _) | (with_reducible refine Below.alloc ?_ ?_ _) | (simp; done) | (simp; omega))) hgr (Nat.le_refl _))
  have HXa_5 := Lib.hid (box_step HXa_4.out (by repeat' (first | (with_reducible exact Below.refl _ _) | (with_reducible refine below_drewN ?_ _) | (with_reducible refine Below.setCell ?_ ?_ _) | (with_reducible refine Below.alloc ?_ ?_ _) | (simp; done) | (simp; omega))) hgr (by have := HB4.out.size; omega))
  have HRd_5 := Lib.hid ho1
  have HRx_5 := Lib.hid ho2
  have HS5 : Hid (SlaveAt w5 w.heap.size w.heap.size ⟨5, 9, 0, 1, [101]⟩) := hs
  have hl5 : w.heap.size < w5.heap.size := HS5.out.lt
  clear hgr hs ho1 ho2
  clear HB4 HS4 HXa_4
  go_wp2_with fail
  refine (slave_take _ w.heap.size w.heap.size ⟨5, 9, 0, 1, [101]⟩ ⟨5, 9, 1, 1, []⟩ ⟨5, 2, 9, 0, 1, [99]⟩ ⟨5, 5, 9, 1, 1, []⟩ [] true (some ⟨w5.heap.size + 1, 0, none⟩) 1 1 ?hS ?hR ?hN ?hF).mono ?_
  case hS => exact HS5.out.below (by repeat' (first | (with_reducible exact Below.refl _ _) | (with_reducible refine below_drewN ?_ _) | (with_reducible refine Below.setCell ?_ ?_ _) | (with_reducible refine Below.alloc ?_ ?_ _) | (simp; done) | (simp; omega)))
  case hR => exact reads_lit (t := 5) (fr := (1, 2)) (cs := #[.int .u8 99]) (by repeat' (first | (refine blk_new' _ _ _ ?_; simp; done) | (with_reducible refine blk_alloc ?_ _))) [99] rfl (by decide)
  case hN => intro ad n c h hne; cases h; have := HS5.out.lt; simp; omega
  case hF => rfl
  rintro e w6 ⟨v1, v2, rfl, ho1, ho2, hgr, hs⟩
  obtain ⟨A6, c6, rfl⟩ := own_slice ho1
  obtain ⟨D6, d6, rfl⟩ := own_slice ho2
  simp only [List.length_cons, List.length_nil, Nat.reduceAdd] at ho1 ho2 ⊢
  have HB6 := Lib.hid (law_step HB5.out HB5.out.size (by repeat' (first | (with_reducible exact Below.refl _ _) | (with_reducible refine below_drewN ?_ _) | (with_reducible refine Below.setCell ?_ ?_ _) | (with_reducible refine Below.alloc ?_ ?_ _) | (simp; done) | (simp; omega))) hgr (Nat.le_refl _))
  have HXa_6 := Lib.hid (box_step HXa_5.out (by repeat' (first | (with_reducible exact Below.refl _ _) | (with_reducible refine below_drewN ?_ _) | (with_reducible refine Below.setCell ?_ ?_ _) | (with_reducible refine Below.alloc ?_ ?_ _) | (simp; done) | (simp; omega))) hgr (by have := HB5.out.size; omega))
  have HXd_6 : Hid (w6.heap[w5.heap.size]? = some (.cells #[.int .u8 5, .int .u8 5, .int .u8 9, .int .u8 0, .int .u8 1, .slice A5 1 c5] 29 (0, 0))) := blk_grown (o := .cells #[.int .u8 5, .int .u8 5, .int .u8 9, .int .u8 0, .int .u8 1, .slice A5 1 c5] 29 (0, 0)) (by repeat' (first | (refine blk_new' _ _ _ ?_; simp; done) | (with_reducible refine blk_alloc ?_ _))) hgr (by have := HS5.out.lt; simp; omega)
  have HRd_6 := Lib.hid (row_step HRd_5.out HS5.out (by repeat' (first | (with_reducible exact Below.refl _ _) | (with_reducible refine below_drewN ?_ _) | (with_reducible refine Below.setCell ?_ ?_ _) | (with_reducible refine Below.alloc ?_ ?_ _) | (simp; done) | (simp; omega))) hgr)
  have HRx_6 := Lib.hid (row_step HRx_5.out HS5.out (by repeat' (first | (with_reducible exact Below.refl _ _) | (with_reducible refine below_drewN ?_ _) | (with_reducible refine Below.setCell ?_ ?_ _) | (with_reducible refine Below.alloc ?_ ?_ _) | (simp; done) | (simp; omega))) hgr)
  have HS6 : Hid (SlaveAt w6 w.heap.size w.heap.size ⟨5, 9, 1, 1, []⟩) := hs
  have hl6 : w.heap.size < w6.heap.size := HS6.out.lt
  clear hgr hs ho1 ho2
  clear HB5 HS5 HXa_5 HRd_5 HRx_5
  go_wp2_with fail
  refine (slave_take _ w.heap.size w.heap.size ⟨5, 9, 1, 1, []⟩ ⟨5, 9, 1, 1, []⟩ ⟨5, 3, 8, 0, 0, []⟩ ⟨5, 5, 9, 0, 0, []⟩ [] true none 0 0 ?hS ?hR ?hN ?hF).mono ?_
  case hS => exact HS6.out.below (by repeat' (first | (with_reducible exact Below.refl _ _) | (with_reducible refine below_drewN ?_ _) | (with_reducible refine Below.setCell ?_ ?_ _) | (with_reducible refine Below.alloc ?_ ?_ _) | (simp; done) | (simp; omega)))
  case hR => exact ReadsB.nil _
  case hN => intro ad n c h; cases h
  case hF => rfl
  rintro e w7 ⟨v1, v2, rfl, ho1, ho2, hgr, hs⟩
  obtain ⟨A7, c7, rfl⟩ := own_slice ho1
  obtain ⟨D7, d7, rfl⟩ := own_slice ho2
  simp only [List.length_cons, List.length_nil, Nat.reduceAdd] at ho1 ho2 ⊢
  have HB7 := Lib.hid (law_step HB6.out HB6.out.size (by repeat' (first | (with_reducible exact Below.refl _ _) | (with_reducible refine below_drewN ?_ _) | (with_reducible refine Below.setCell ?_ ?_ _) | (with_reducible refine Below.alloc ?_ ?_ _) | (simp; done) | (simp; omega))) hgr (Nat.le_refl _))
  have HXa_7 := Lib.hid (box_step HXa_6.out (by repeat' (first | (with_reducible exact Below.refl _ _) | (with_reducible refine below_drewN ?_ _) | (with_reducible refine Below.setCell ?_ ?_ _) | (with_reducible refine Below.alloc ?_ ?_ _) | (simp; done) | (simp; omega))) hgr (by have := HB6.out.size; omega))
  have HXd_7 := Lib.hid (box_step HXd_6.out (by repeat' (first | (with_reducible exact Below.refl _ _) | (with_reducible refine below_drewN ?_ _) | (with_reducible refine Below.setCell ?_ ?_ _) | (with_reducible refine Below.alloc ?_ ?_ _) | (simp; done) | (simp; omega))) hgr (by have := HB6.out.size; omega))
  have HXe_7 : Hid (w7.heap[w6.heap.size]? = some (.cells #[.int .u8 5, .int .u8 5, .int .u8 9, .int .u8 1, .int .u8 1, .slice A6 0 c6] 29 (0, 0))) := blk_grown (o := .cells #[.int .u8 5, .int .u8 5, .int .u8 9, .int .u8 1, .int .u8 1, .slice A6 0 c6] 29 (0, 0)) (by repeat' (first | (refine blk_new' _ _ _ ?_; simp; done) | (with_reducible refine blk_alloc ?_ _))) hgr (by have := HS6.out.lt; simp; omega)
  have HRd_7 := Lib.hid (row_step HRd_6.out HS6.out (by repeat' (first | (with_reducible exact Below.refl _ _) | (with_reducible refine below_drewN ?_ _) | (with_reducible refine Below.setCell ?_ ?_ _) | (with_reducible refine Below.alloc ?_ ?_ _) | (simp; done) | (simp; omega))) hgr)
  have HRx_7 := Lib.hid (row_step HRx_6.out HS6.out (by repeat' (first | (with_reducible exact Below.refl _ _) | (with_reducible refine below_drewN ?_ _) | (with_reducible refine Below.setCell ?_ ?_ _) | (with_reducible refine Below.alloc ?_ ?_ _) | (simp; done) | (simp; omega))) hgr)
  have HS7 : Hid (SlaveAt w7 w.heap.size w.heap.size ⟨5, 9, 1, 1, []⟩) := hs
  have hl7 : w.heap.size < w7.heap.size := HS7.out.lt
  clear hgr hs ho1 ho2
  clear HB6 HS6 HXa_6 HXd_6 HRd_6 HRx_6
  go_wp2_with fail
  refine (slave_take _ w.heap.size w.heap.size ⟨5, 9, 1, 1, []⟩ ⟨5, 9, 1, 1, []⟩ ⟨6, 3, 9, 0, 0, []⟩ ⟨0, 0, 0, 0, 0, []⟩ [] false none 0 0 ?hS ?hR ?hN ?hF).mono ?_
  case hS => exact HS7.out.below (by repeat' (first | (with_reducible exact Below.refl _ _) | (with_reducible refine below_drewN ?_ _) | (with_reducible refine Below.setCell ?_ ?_ _) | (with_reducible refine Below.alloc ?_ ?_ _) | (simp; done) | (simp; omega)))
  case hR => exact ReadsB.nil _
  case hN => intro ad n c h; cases h
  case hF => rfl
  rintro e w8 ⟨v1, v2, rfl, ho1, ho2, hgr, hs⟩
  obtain ⟨A8, c8, rfl⟩ := own_slice ho1
  obtain ⟨D8, d8, rfl⟩ := own_slice ho2
  simp only [List.length_cons, List.length_nil, Nat.reduceAdd] at ho1 ho2 ⊢
  have HB8 := Lib.hid (law_step HB7.out HB7.out.size (by repeat' (first | (with_reducible exact Below.refl _ _) | (with_reducible refine below_drewN ?_ _) | (with_reducible refine Below.setCell ?_ ?_ _) | (with_reducible refine Below.alloc ?_ ?_ _) | (simp; done) | (simp; omega))) hgr (Nat.le_refl _))
  have HXa_8 := Lib.hid (box_step HXa_7.out (by repeat' (first | (with_reducible exact Below.refl _ _) | (with_reducible refine below_drewN ?_ _) | (with_reducible refine Below.setCell ?_ ?_ _) | (with_reducible refine Below.alloc ?_ ?_ _) | (simp; done) | (simp; omega))) hgr (by have := HB7.out.size; omega))
  have HXd_8 := Lib.hid (box_step HXd_7.out (by repeat' (first | (with_reducible exact Below.refl _ _) | (with_reducible refine below_drewN ?_ _) | (with_reducible refine Below.setCell ?_ ?_ _) | (with_reducible refine Below.alloc ?_ ?_ _) | (simp; done) | (simp; omega))) hgr (by have := HB7.out.size; omega))
  have HXe_8 := Lib.hid (box_step HXe_7.out (by repeat' (first | (with_reducible exact Below.refl _ _) | (with_reducible refine below_drewN ?_ _) | (with_reducible refine Below.setCell ?_ ?_ _) | (with_reducible refine Below.alloc ?_ ?_ _) | (simp; done) | (simp; omega))) hgr (by have := HB7.out.size; omega))
  have HXf_8 : Hid (w8.heap[w7.heap.size]? = some (.cells #[.int .u8 5, .int .u8 5, .int .u8 9, .int .u8 0, .int .u8 0, .slice A7 0 c7] 29 (0, 0))) := blk_grown (o := .cells #[.int .u8 5, .int .u8 5, .int .u8 9, .int .u8 0, .int .u8 0, .slice A7 0 c7] 29 (0, 0)) (by repeat' (first | (refine blk_new' _ _ _ ?_; simp; done) | (with_reducible refine blk_alloc ?_ _))) hgr (by have := HS7.out.lt; simp; omega)
  have HRd_8 := Lib.hid (row_step HRd_7.out HS7.out (by repeat' (first | (with_reducible exact Below.refl _ _) | (with_reducible refine below_drewN ?_ _) | (with_reducible refine Below.setCell ?_ ?_ _) | (with_reducible refine Below.alloc ?_ ?_ _) | (simp; done) | (simp; omega))) hgr)
  have HRx_8 := Lib.hid (row_step HRx_7.out HS7.out (by repeat' (first | (with_reducible exact Below.refl _ _) | (with_reducible refine below_drewN ?_ _) | (with_reducible refine Below.setCell ?_ ?_ _) | (with_reducible refine Below.alloc ?_ ?_ _) | (simp; done) | (simp; omega))) hgr)
  have HS8 : Hid (SlaveAt w8 w.heap.size w.heap.size ⟨5, 9, 1, 1, []⟩) := hs
  have hl8 : w.heap.size < w8.heap.size := HS8.out.lt
  clear hgr hs ho1 ho2
  clear HB7 HS7 HXa_7 HXd_7 HXe_7 HRd_7 HRx_7
  have ha := blk_lt HXa_8.out
  have hd := blk_lt HXd_8.out
  have he := blk_lt HXe_8.out
  have hf := blk_lt HXf_8.out
  obtain ⟨xa0, xa1, xa2, xa3, xa4, xa5⟩ := blk6 HXa_8.out
  obtain ⟨xd0, xd1, xd2, xd3, xd4, xd5⟩ := blk6 HXd_8.out
  obtain ⟨xe0, xe1, xe2, xe3, xe4, xe5⟩ := blk6 HXe_8.out
  obtain ⟨xf0, xf1, xf2, xf3, xf4, xf5⟩ := blk6 HXf_8.out
  have kd : ∀ o, (convert 22 9 (.slice A5 1 c5)).run Try.prog (w8.alloc o) = .ok (.string ⟨#[101]⟩) (w8.alloc o) := fun o => conv_bytes _ _ [101] (own_reads (own_below HRd_8.out ((Below.refl _ _).alloc (Nat.le_refl _) _)) (by decide))
  have kx : ∀ o, (convert 22 9 (.slice D5 1 d5)).run Try.prog (w8.alloc o) = .ok (.string ⟨#[99]⟩) (w8.alloc o) := fun o => conv_bytes _ _ [99] (own_reads (own_below HRx_8.out ((Below.refl _ _).alloc (Nat.le_refl _) _)) (by decide))
  go_wp2_with (go_at_call 14; refine (slave_pending _ w.heap.size w.heap.size ⟨5, 9, 1, 1, []⟩ ?_).mono ?_; (exact HS8.out.below ((Below.refl _ _).alloc (Nat.le_refl _) _)); rintro e w9 ⟨rfl, rfl⟩)
  go_ret
  exact ⟨rfl, HB8.out.alloc HB8.out.size _⟩
end Go.Proofs.Ytmhdckpmkgkglaa
