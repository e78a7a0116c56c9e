/- lamplightlaw06.shown returns true. Written by gen_shown6.py. -/
import Derived.Test.YtcdanimdkkhamaaWx
set_option linter.unusedVariables false
set_option linter.unusedSimpArgs false
namespace Go.Proofs.Ytcdanimdkkhamaa
open Go.RowKit

theorem kept_step {B : Nat} {w w1 W w2 : World} {ts : List TypeId} (hb : Below B w w1) (hw : Below w1.heap.size w1 W) (hB : B ≤ w1.heap.size) (k : Kept B ts W w2) : Below B w w2 :=
  (hb.trans (hw.mono hB)).trans (k.below (Nat.le_trans hB hw.size))
theorem fault_lit (w : World) (k n : Int) (hn : n ≤ 9223372036854775807) : FaultV w (.agg #[.int .i64 k, .int .i64 n, .int .u8 0, .slice none 0 0]) ⟨k, n, 0, []⟩ :=
  ⟨none, 0, rfl, ⟨none, 0, rfl, Nat.le_refl _, by omega, fun _ => ⟨rfl, rfl⟩, fun ad h => by cases h⟩, hn, Int.le_refl _, by show (0 : Int) ≤ 255; omega⟩
theorem cap_lit {A : Option Addr} {n c : Nat} (hc : c ≤ 9223372036854775807) : ∀ A' n' c', Value.slice A n c = .slice A' n' c' → c' ≤ 9223372036854775807 := fun _ _ _ h => by cases h; exact hc

set_option maxHeartbeats 8000000 in
set_option maxRecDepth 100000 in
theorem shown_any (w : World) : Calls Try.prog 9 #[] w fun e w' => e = .returned (.bool true) ∧ Below w.heap.size w w' := by
  have kc := conv_const
  go_enter Try.func9, Try.ntmps9
  go_wp2_with fail
  refine (wire_new _ 3 3 rfl (by omega)).mono ?_
  rintro e w1 ⟨rfl, hb1, hs1⟩
  have HB1 := Lib.hid hb1
  have HS1 := Lib.hid hs1
  have hl1 : w.heap.size < w1.heap.size := hs1.lt
  clear hb1 hs1
  go_wp2_with fail
  refine (wire_put _ w.heap.size w.heap.size 3 [] [([120], 2)] 0 (.agg #[.int .i64 3, .int .i64 2, .int .u8 0, .slice none 0 0]) (.slice (some ⟨w1.heap.size, 0, none⟩) 1 1) ⟨3, 2, 0, []⟩ [120] (HS1.out.below ?hA) (fault_lit _ 3 2 (by omega)) ?hR (by decide) (cap_lit (by omega)) (by decide) rfl).mono ?_
  case hA => exact (by repeat' (first | (with_reducible exact Below.refl _ _) | (with_reducible refine below_drewN ?_ _) | (with_reducible refine Below.setCell ?_ ?_ _) | (with_reducible refine Below.alloc ?_ ?_ _) | (simp; done) | (simp; omega)))
  case hR => exact reads_lit (t := 5) (fr := (1, 2)) (cs := #[.int .u8 120]) (by repeat' (first | (refine blk_new' _ _ _ ?_; simp; done) | (with_reducible refine blk_alloc ?_ _))) [120] rfl (by decide)
  rintro e w2 ⟨rfl, hk, hs⟩
  have HB2 := Lib.hid (kept_step HB1.out (by repeat' (first | (with_reducible exact Below.refl _ _) | (with_reducible refine below_drewN ?_ _) | (with_reducible refine Below.setCell ?_ ?_ _) | (with_reducible refine Below.alloc ?_ ?_ _) | (simp; done) | (simp; omega))) (Nat.le_of_lt hl1) hk)
  have HS2 := Lib.hid hs
  have hl2 : w.heap.size < w2.heap.size := hs.lt
  clear hk hs HB1 HS1
  go_wp2_with fail
  refine (wire_put _ w.heap.size w.heap.size 3 [([120], 2)] [([120], 2), ([121], 0)] 0 (.agg #[.int .i64 0, .int .i64 0, .int .u8 0, .slice none 0 0]) (.slice (some ⟨w2.heap.size, 0, none⟩) 1 1) ⟨0, 0, 0, []⟩ [121] (HS2.out.below ?hA) (fault_lit _ 0 0 (by omega)) ?hR (by decide) (cap_lit (by omega)) (by decide) rfl).mono ?_
  case hA => exact (by repeat' (first | (with_reducible exact Below.refl _ _) | (with_reducible refine below_drewN ?_ _) | (with_reducible refine Below.setCell ?_ ?_ _) | (with_reducible refine Below.alloc ?_ ?_ _) | (simp; done) | (simp; omega)))
  case hR => exact reads_lit (t := 5) (fr := (1, 2)) (cs := #[.int .u8 121]) (by repeat' (first | (refine blk_new' _ _ _ ?_; simp; done) | (with_reducible refine blk_alloc ?_ _))) [121] rfl (by decide)
  rintro e w3 ⟨rfl, hk, hs⟩
  have HB3 := Lib.hid (kept_step HB2.out (by repeat' (first | (with_reducible exact Below.refl _ _) | (with_reducible refine below_drewN ?_ _) | (with_reducible refine Below.setCell ?_ ?_ _) | (with_reducible refine Below.alloc ?_ ?_ _) | (simp; done) | (simp; omega))) (Nat.le_of_lt hl2) hk)
  have HS3 := Lib.hid hs
  have hl3 : w.heap.size < w3.heap.size := hs.lt
  clear hk hs HB2 HS2
  go_wp2_with fail
  refine (wire_put _ w.heap.size w.heap.size 3 [([120], 2), ([121], 0)] [([120], 2), ([121], 0)] 5 (.agg #[.int .i64 2, .int .i64 0, .int .u8 0, .slice none 0 0]) (.slice (some ⟨w3.heap.size, 0, none⟩) 1 1) ⟨2, 0, 0, []⟩ [122] (HS3.out.below ?hA) (fault_lit _ 2 0 (by omega)) ?hR (by decide) (cap_lit (by omega)) (by decide) rfl).mono ?_
  case hA => exact (by repeat' (first | (with_reducible exact Below.refl _ _) | (with_reducible refine below_drewN ?_ _) | (with_reducible refine Below.setCell ?_ ?_ _) | (with_reducible refine Below.alloc ?_ ?_ _) | (simp; done) | (simp; omega)))
  case hR => exact reads_lit (t := 5) (fr := (1, 2)) (cs := #[.int .u8 122]) (by repeat' (first | (refine blk_new' _ _ _ ?_; simp; done) | (with_reducible refine blk_alloc ?_ _))) [122] rfl (by decide)
  rintro e w4 ⟨rfl, hk, hs⟩
  have HB4 := Lib.hid (kept_step HB3.out (by repeat' (first | (with_reducible exact Below.refl _ _) | (with_reducible refine below_drewN ?_ _) | (with_reducible refine Below.setCell ?_ ?_ _) | (with_reducible refine Below.alloc ?_ ?_ _) | (simp; done) | (simp; omega))) (Nat.le_of_lt hl3) hk)
  have HS4 := Lib.hid hs
  have hl4 : w.heap.size < w4.heap.size := hs.lt
  clear hk hs HB3 HS3
  go_wp2_with fail
  refine (wire_put _ w.heap.size w.heap.size 3 [([120], 2), ([121], 0)] [([120], 2), ([121], 0)] 0 (.agg #[.int .i64 1, .int .i64 0, .int .u8 0, .slice none 0 0]) (.slice (some ⟨w4.heap.size, 0, none⟩) 1 1) ⟨1, 0, 0, []⟩ [122] (HS4.out.below ?hA) (fault_lit _ 1 0 (by omega)) ?hR (by decide) (cap_lit (by omega)) (by decide) rfl).mono ?_
  case hA => exact (by repeat' (first | (with_reducible exact Below.refl _ _) | (with_reducible refine below_drewN ?_ _) | (with_reducible refine Below.setCell ?_ ?_ _) | (with_reducible refine Below.alloc ?_ ?_ _) | (simp; done) | (simp; omega)))
  case hR => exact reads_lit (t := 5) (fr := (1, 2)) (cs := #[.int .u8 122]) (by repeat' (first | (refine blk_new' _ _ _ ?_; simp; done) | (with_reducible refine blk_alloc ?_ _))) [122] rfl (by decide)
  rintro e w5 ⟨rfl, hk, hs⟩
  have HB5 := Lib.hid (kept_step HB4.out (by repeat' (first | (with_reducible exact Below.refl _ _) | (with_reducible refine below_drewN ?_ _) | (with_reducible refine Below.setCell ?_ ?_ _) | (with_reducible refine Below.alloc ?_ ?_ _) | (simp; done) | (simp; omega))) (Nat.le_of_lt hl4) hk)
  have HS5 := Lib.hid hs
  have hl5 : w.heap.size < w5.heap.size := hs.lt
  clear hk hs HB4 HS4
  go_wp2_with fail
  refine (wire_take _ w.heap.size w.heap.size 3 [([120], 2), ([121], 0)] (HS5.out.below ?hA) (by decide)).mono ?_
  case hA => exact (by repeat' (first | (with_reducible exact Below.refl _ _) | (with_reducible refine below_drewN ?_ _) | (with_reducible refine Below.setCell ?_ ?_ _) | (with_reducible refine Below.alloc ?_ ?_ _) | (simp; done) | (simp; omega)))
  rintro e w6 ⟨v6, rfl, hr, hk, hs⟩
  obtain ⟨A6, c6, rfl⟩ := hr.slice
  have HB6 := Lib.hid (kept_step HB5.out (by repeat' (first | (with_reducible exact Below.refl _ _) | (with_reducible refine below_drewN ?_ _) | (with_reducible refine Below.setCell ?_ ?_ _) | (with_reducible refine Below.alloc ?_ ?_ _) | (simp; done) | (simp; omega))) (Nat.le_of_lt hl5) hk)
  have HS6 : Hid (WireAt w6 w.heap.size w.heap.size 3 [([120], 1), ([121], 0)]) := hs
  have HR6 : Hid (RowsAt w6 w.heap.size (.slice A6 0 c6) []) := hr
  have hl6 : w.heap.size < w6.heap.size := hs.lt
  have el6 : (takeF [([120], 2), ([121], 0)]).1.length = 0 := rfl
  clear hk hs hr HB5 HS5
  go_wp2_with fail
  refine (wire_take _ w.heap.size w.heap.size 3 [([120], 1), ([121], 0)] (HS6.out.below ?hA) (by decide)).mono ?_
  case hA => exact (by repeat' (first | (with_reducible exact Below.refl _ _) | (with_reducible refine below_drewN ?_ _) | (with_reducible refine Below.setCell ?_ ?_ _) | (with_reducible refine Below.alloc ?_ ?_ _) | (simp; done) | (simp; omega)))
  rintro e w7 ⟨v7, rfl, hr, hk, hs⟩
  obtain ⟨A7, c7, rfl⟩ := hr.slice
  have HB7 := Lib.hid (kept_step HB6.out (by repeat' (first | (with_reducible exact Below.refl _ _) | (with_reducible refine below_drewN ?_ _) | (with_reducible refine Below.setCell ?_ ?_ _) | (with_reducible refine Below.alloc ?_ ?_ _) | (simp; done) | (simp; omega))) (Nat.le_of_lt hl6) hk)
  have HS7 : Hid (WireAt w7 w.heap.size w.heap.size 3 [([120], 0), ([121], 0)]) := hs
  have HR7 : Hid (RowsAt w7 w.heap.size (.slice A7 0 c7) []) := hr
  have hl7 : w.heap.size < w7.heap.size := hs.lt
  have el7 : (takeF [([120], 1), ([121], 0)]).1.length = 0 := rfl
  clear hk hs hr HB6 HS6
  go_wp2_with fail
  refine (wire_take _ w.heap.size w.heap.size 3 [([120], 0), ([121], 0)] (HS7.out.below ?hA) (by decide)).mono ?_
  case hA => exact (by repeat' (first | (with_reducible exact Below.refl _ _) | (with_reducible refine below_drewN ?_ _) | (with_reducible refine Below.setCell ?_ ?_ _) | (with_reducible refine Below.alloc ?_ ?_ _) | (simp; done) | (simp; omega)))
  rintro e w8 ⟨v8, rfl, hr, hk, hs⟩
  obtain ⟨A8, c8, rfl⟩ := hr.slice
  have HB8 := Lib.hid (kept_step HB7.out (by repeat' (first | (with_reducible exact Below.refl _ _) | (with_reducible refine below_drewN ?_ _) | (with_reducible refine Below.setCell ?_ ?_ _) | (with_reducible refine Below.alloc ?_ ?_ _) | (simp; done) | (simp; omega))) (Nat.le_of_lt hl7) hk)
  have HS8 : Hid (WireAt w8 w.heap.size w.heap.size 3 []) := hs
  have HR8 : Hid (RowsAt w8 w.heap.size (.slice A8 2 c8) [[120], [121]]) := hr
  have hl8 : w.heap.size < w8.heap.size := hs.lt
  have el8 : (takeF [([120], 0), ([121], 0)]).1.length = 2 := rfl
  clear hk hs hr HB7 HS7
  simp only [el6, el7, el8]
  clear el6 el7 el8
  go_wp2_with fail
  refine (texts_eq _ w.heap.size _ _ [[120], [121]] (HR8.out.below ?hA) ⟨_, 2, rfl, Nat.le_refl _, (fun e => by cases e), ?hC⟩ (by decide) ?hL).mono ?_
  case hA => exact (by repeat' (first | (with_reducible exact Below.refl _ _) | (with_reducible refine below_drewN ?_ _) | (with_reducible refine Below.setCell ?_ ?_ _) | (with_reducible refine Below.alloc ?_ ?_ _) | (simp; done) | (simp; omega)))
  case hC => intro ad he; cases he; exact cells_two _ (by repeat' (first | (refine blk_new' _ _ _ ?_; simp; done) | (with_reducible refine blk_alloc ?_ _)))
  case hL => intro b hb; simp at hb; rcases hb with rfl | rfl <;> simp
  rintro e w9 ⟨rfl, hb9⟩
  have HB9 := Lib.hid (HB8.out.trans (((Below.refl w8.heap.size w8).alloc (Nat.le_refl _) (.cells #[.string ⟨#[120]⟩, .string ⟨#[121]⟩] 9)).trans (hb9.mono (by simp)) |>.mono (Nat.le_of_lt hl8)))
  have HS9 := Lib.hid ((HS8.out.below ((Below.refl _ _).alloc (Nat.le_refl _) _)).below hb9)
  clear hb9
  go_wp2_with fail
  refine (wire_len _ w.heap.size w.heap.size 3 [] HS9.out).mono ?_
  rintro e w10 ⟨rfl, rfl⟩
  go_wp2_with fail
  go_ret
  exact ⟨rfl, HB9.out⟩
end Go.Proofs.Ytcdanimdkkhamaa
