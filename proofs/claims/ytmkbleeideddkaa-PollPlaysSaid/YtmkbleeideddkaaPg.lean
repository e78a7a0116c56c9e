/- lamplightlaw09.shown returns true. Written by gen_shown9.py. -/
import Derived.Test.YtmkbleeideddkaaPf
set_option linter.unusedVariables false
set_option linter.unusedSimpArgs false
namespace Go.Proofs.Ytmkbleeideddkaa
open Go.RowKit

theorem kept_step {B : Nat} {w w1 W w2 : World} {ts : List TypeId} (hb : Below B w w1) (hw : Below w1.heap.size w1 W) (hB : B ≤ w1.heap.size) (k : Kept B ts W w2) : Below B w w2 :=
  (hb.trans (hw.mono hB)).trans (k.below (Nat.le_trans hB hw.size))
theorem cap_lit {A : Option Addr} {n c : Nat} (hc : c ≤ 9223372036854775807) : ∀ A' n' c', Value.slice A n c = .slice A' n' c' → c' ≤ 9223372036854775807 := fun _ _ _ h => by cases h; exact hc

set_option maxHeartbeats 8000000 in
set_option maxRecDepth 100000 in
theorem shown_any (w : World) : Calls Try.prog 10 #[] w fun e w' => e = .returned (.bool true) ∧ Below w.heap.size w w' := by
  have kc := conv_const
  go_enter Try.func10, Try.ntmps10
  go_wp2_with fail
  refine (poll_new _ (.slice (some ⟨w.heap.size, 0, none⟩) 5 5) [3, 1, 0, 3, 32] ?hR (by decide) (cap_lit (by omega))).mono ?_
  case hR => exact reads_lit (t := 5) (fr := (0, 0)) (cs := #[.int .u8 3, .int .u8 1, .int .u8 0, .int .u8 3, .int .u8 32]) (blk_new _ _) [3, 1, 0, 3, 32] rfl (by decide)
  rintro e w1 ⟨rfl, hb1, hs1⟩
  obtain ⟨g, hg⟩ : ∃ g, g = (w.alloc (.cells #[.int .u8 3, .int .u8 1, .int .u8 0, .int .u8 3, .int .u8 32] 5)).heap.size := ⟨_, rfl⟩
  have hgw : w.heap.size ≤ g := by rw [hg]; simp
  have hb0 : Below w.heap.size w w1 := ((Below.refl _ _).alloc (Nat.le_refl _) (.cells #[.int .u8 3, .int .u8 1, .int .u8 0, .int .u8 3, .int .u8 32] 5)).trans (hb1.mono (by simp))
  rw [← hg] at hs1
  rw [← hg]
  have hs1' : PollAt w1 w.heap.size g ⟨[⟨3, false, 0⟩, ⟨1, false, 0⟩], 0⟩ := hs1.lower hgw
  have HB1 := Lib.hid hb0
  have HS1 := Lib.hid hs1'
  have hl1 : w.heap.size < w1.heap.size := Nat.lt_of_le_of_lt hgw hs1'.lt
  clear hb1 hs1 hs1' hb0 hg
  go_wp2_with fail
  refine (poll_next _ w.heap.size g ⟨[⟨3, false, 0⟩, ⟨1, false, 0⟩], 0⟩ ⟨[⟨3, false, 0⟩, ⟨1, false, 0⟩], 1⟩ 0 3 true (HS1.out.below ?hA) ⟨by omega, by omega⟩ (by rfl)).mono ?_
  case hA => exact (by repeat' (first | (with_reducible exact Below.refl _ _) | (with_reducible refine below_drewN ?_ _) | (with_reducible refine Below.setCell ?_ ?_ _) | (with_reducible refine Below.alloc ?_ ?_ _) | (simp; done) | (simp; omega)))
  rintro e w2 ⟨rfl, hk, hs⟩
  have HB2 := Lib.hid (kept_step HB1.out (by repeat' (first | (with_reducible exact Below.refl _ _) | (with_reducible refine below_drewN ?_ _) | (with_reducible refine Below.setCell ?_ ?_ _) | (with_reducible refine Below.alloc ?_ ?_ _) | (simp; done) | (simp; omega))) (Nat.le_of_lt hl1) hk)
  have HS2 := Lib.hid hs
  have hl2 : w.heap.size < w2.heap.size := Nat.lt_of_le_of_lt hgw hs.lt
  clear hk hs HB1 HS1
  go_wp2_with fail
  refine (poll_next _ w.heap.size g ⟨[⟨3, false, 0⟩, ⟨1, false, 0⟩], 1⟩ ⟨[⟨3, false, 0⟩, ⟨1, false, 0⟩], 2⟩ 0 1 true (HS2.out.below ?hA) ⟨by omega, by omega⟩ (by rfl)).mono ?_
  case hA => exact (by repeat' (first | (with_reducible exact Below.refl _ _) | (with_reducible refine below_drewN ?_ _) | (with_reducible refine Below.setCell ?_ ?_ _) | (with_reducible refine Below.alloc ?_ ?_ _) | (simp; done) | (simp; omega)))
  rintro e w3 ⟨rfl, hk, hs⟩
  have HB3 := Lib.hid (kept_step HB2.out (by repeat' (first | (with_reducible exact Below.refl _ _) | (with_reducible refine below_drewN ?_ _) | (with_reducible refine Below.setCell ?_ ?_ _) | (with_reducible refine Below.alloc ?_ ?_ _) | (simp; done) | (simp; omega))) (Nat.le_of_lt hl2) hk)
  have HS3 := Lib.hid hs
  have hl3 : w.heap.size < w3.heap.size := Nat.lt_of_le_of_lt hgw hs.lt
  clear hk hs HB2 HS2
  go_wp2_with fail
  refine (poll_next _ w.heap.size g ⟨[⟨3, false, 0⟩, ⟨1, false, 0⟩], 2⟩ ⟨[⟨3, false, 0⟩, ⟨1, false, 0⟩], 1⟩ 0 3 true (HS3.out.below ?hA) ⟨by omega, by omega⟩ (by rfl)).mono ?_
  case hA => exact (by repeat' (first | (with_reducible exact Below.refl _ _) | (with_reducible refine below_drewN ?_ _) | (with_reducible refine Below.setCell ?_ ?_ _) | (with_reducible refine Below.alloc ?_ ?_ _) | (simp; done) | (simp; omega)))
  rintro e w4 ⟨rfl, hk, hs⟩
  have HB4 := Lib.hid (kept_step HB3.out (by repeat' (first | (with_reducible exact Below.refl _ _) | (with_reducible refine below_drewN ?_ _) | (with_reducible refine Below.setCell ?_ ?_ _) | (with_reducible refine Below.alloc ?_ ?_ _) | (simp; done) | (simp; omega))) (Nat.le_of_lt hl3) hk)
  have HS4 := Lib.hid hs
  have hl4 : w.heap.size < w4.heap.size := Nat.lt_of_le_of_lt hgw hs.lt
  clear hk hs HB3 HS3
  go_wp2_with fail
  refine (poll_dead _ w.heap.size g ⟨[⟨3, false, 0⟩, ⟨1, false, 0⟩], 1⟩ ⟨[⟨3, false, 0⟩, ⟨1, true, 5⟩], 1⟩ 1 5 0 (HS4.out.below ?hA) ⟨by omega, by omega⟩ (by rfl)).mono ?_
  case hA => exact (by repeat' (first | (with_reducible exact Below.refl _ _) | (with_reducible refine below_drewN ?_ _) | (with_reducible refine Below.setCell ?_ ?_ _) | (with_reducible refine Below.alloc ?_ ?_ _) | (simp; done) | (simp; omega)))
  rintro e w5 ⟨rfl, hk, hs⟩
  have HB5 := Lib.hid (kept_step HB4.out (by repeat' (first | (with_reducible exact Below.refl _ _) | (with_reducible refine below_drewN ?_ _) | (with_reducible refine Below.setCell ?_ ?_ _) | (with_reducible refine Below.alloc ?_ ?_ _) | (simp; done) | (simp; omega))) (Nat.le_of_lt hl4) hk)
  have HS5 := Lib.hid hs
  have hl5 : w.heap.size < w5.heap.size := Nat.lt_of_le_of_lt hgw hs.lt
  clear hk hs HB4 HS4
  go_wp2_with fail
  refine (poll_next _ w.heap.size g ⟨[⟨3, false, 0⟩, ⟨1, true, 5⟩], 1⟩ ⟨[⟨3, false, 0⟩, ⟨1, true, 5⟩], 1⟩ 6 3 true (HS5.out.below ?hA) ⟨by omega, by omega⟩ (by rfl)).mono ?_
  case hA => exact (by repeat' (first | (with_reducible exact Below.refl _ _) | (with_reducible refine below_drewN ?_ _) | (with_reducible refine Below.setCell ?_ ?_ _) | (with_reducible refine Below.alloc ?_ ?_ _) | (simp; done) | (simp; omega)))
  rintro e w6 ⟨rfl, hk, hs⟩
  have HB6 := Lib.hid (kept_step HB5.out (by repeat' (first | (with_reducible exact Below.refl _ _) | (with_reducible refine below_drewN ?_ _) | (with_reducible refine Below.setCell ?_ ?_ _) | (with_reducible refine Below.alloc ?_ ?_ _) | (simp; done) | (simp; omega))) (Nat.le_of_lt hl5) hk)
  have HS6 := Lib.hid hs
  have hl6 : w.heap.size < w6.heap.size := Nat.lt_of_le_of_lt hgw hs.lt
  clear hk hs HB5 HS5
  go_wp2_with fail
  refine (poll_next _ w.heap.size g ⟨[⟨3, false, 0⟩, ⟨1, true, 5⟩], 1⟩ ⟨[⟨3, false, 0⟩, ⟨1, true, 5⟩], 1⟩ 24 3 true (HS6.out.below ?hA) ⟨by omega, by omega⟩ (by rfl)).mono ?_
  case hA => exact (by repeat' (first | (with_reducible exact Below.refl _ _) | (with_reducible refine below_drewN ?_ _) | (with_reducible refine Below.setCell ?_ ?_ _) | (with_reducible refine Below.alloc ?_ ?_ _) | (simp; done) | (simp; omega)))
  rintro e w7 ⟨rfl, hk, hs⟩
  have HB7 := Lib.hid (kept_step HB6.out (by repeat' (first | (with_reducible exact Below.refl _ _) | (with_reducible refine below_drewN ?_ _) | (with_reducible refine Below.setCell ?_ ?_ _) | (with_reducible refine Below.alloc ?_ ?_ _) | (simp; done) | (simp; omega))) (Nat.le_of_lt hl6) hk)
  have HS7 := Lib.hid hs
  have hl7 : w.heap.size < w7.heap.size := Nat.lt_of_le_of_lt hgw hs.lt
  clear hk hs HB6 HS6
  go_wp2_with fail
  refine (poll_next _ w.heap.size g ⟨[⟨3, false, 0⟩, ⟨1, true, 5⟩], 1⟩ ⟨[⟨3, false, 0⟩, ⟨1, true, 25⟩], 1⟩ 25 1 true (HS7.out.below ?hA) ⟨by omega, by omega⟩ (by rfl)).mono ?_
  case hA => exact (by repeat' (first | (with_reducible exact Below.refl _ _) | (with_reducible refine below_drewN ?_ _) | (with_reducible refine Below.setCell ?_ ?_ _) | (with_reducible refine Below.alloc ?_ ?_ _) | (simp; done) | (simp; omega)))
  rintro e w8 ⟨rfl, hk, hs⟩
  have HB8 := Lib.hid (kept_step HB7.out (by repeat' (first | (with_reducible exact Below.refl _ _) | (with_reducible refine below_drewN ?_ _) | (with_reducible refine Below.setCell ?_ ?_ _) | (with_reducible refine Below.alloc ?_ ?_ _) | (simp; done) | (simp; omega))) (Nat.le_of_lt hl7) hk)
  have HS8 := Lib.hid hs
  have hl8 : w.heap.size < w8.heap.size := Nat.lt_of_le_of_lt hgw hs.lt
  clear hk hs HB7 HS7
  go_wp2_with fail
  refine (poll_next _ w.heap.size g ⟨[⟨3, false, 0⟩, ⟨1, true, 25⟩], 1⟩ ⟨[⟨3, false, 0⟩, ⟨1, true, 25⟩], 1⟩ 25 3 true (HS8.out.below ?hA) ⟨by omega, by omega⟩ (by rfl)).mono ?_
  case hA => exact (by repeat' (first | (with_reducible exact Below.refl _ _) | (with_reducible refine below_drewN ?_ _) | (with_reducible refine Below.setCell ?_ ?_ _) | (with_reducible refine Below.alloc ?_ ?_ _) | (simp; done) | (simp; omega)))
  rintro e w9 ⟨rfl, hk, hs⟩
  have HB9 := Lib.hid (kept_step HB8.out (by repeat' (first | (with_reducible exact Below.refl _ _) | (with_reducible refine below_drewN ?_ _) | (with_reducible refine Below.setCell ?_ ?_ _) | (with_reducible refine Below.alloc ?_ ?_ _) | (simp; done) | (simp; omega))) (Nat.le_of_lt hl8) hk)
  have HS9 := Lib.hid hs
  have hl9 : w.heap.size < w9.heap.size := Nat.lt_of_le_of_lt hgw hs.lt
  clear hk hs HB8 HS8
  go_wp2_with fail
  refine (poll_alive _ w.heap.size g ⟨[⟨3, false, 0⟩, ⟨1, true, 25⟩], 1⟩ ⟨[⟨3, false, 0⟩, ⟨1, true, 25⟩], 1⟩ 9 6 (HS9.out.below ?hA) (by rfl)).mono ?_
  case hA => exact (by repeat' (first | (with_reducible exact Below.refl _ _) | (with_reducible refine below_drewN ?_ _) | (with_reducible refine Below.setCell ?_ ?_ _) | (with_reducible refine Below.alloc ?_ ?_ _) | (simp; done) | (simp; omega)))
  rintro e w10 ⟨rfl, hk, hs⟩
  have HB10 := Lib.hid (kept_step HB9.out (by repeat' (first | (with_reducible exact Below.refl _ _) | (with_reducible refine below_drewN ?_ _) | (with_reducible refine Below.setCell ?_ ?_ _) | (with_reducible refine Below.alloc ?_ ?_ _) | (simp; done) | (simp; omega))) (Nat.le_of_lt hl9) hk)
  have HS10 := Lib.hid hs
  have hl10 : w.heap.size < w10.heap.size := Nat.lt_of_le_of_lt hgw hs.lt
  clear hk hs HB9 HS9
  go_wp2_with fail
  refine (poll_alive _ w.heap.size g ⟨[⟨3, false, 0⟩, ⟨1, true, 25⟩], 1⟩ ⟨[⟨3, false, 0⟩, ⟨1, false, 25⟩], 1⟩ 1 0 (HS10.out.below ?hA) (by rfl)).mono ?_
  case hA => exact (by repeat' (first | (with_reducible exact Below.refl _ _) | (with_reducible refine below_drewN ?_ _) | (with_reducible refine Below.setCell ?_ ?_ _) | (with_reducible refine Below.alloc ?_ ?_ _) | (simp; done) | (simp; omega)))
  rintro e w11 ⟨rfl, hk, hs⟩
  have HB11 := Lib.hid (kept_step HB10.out (by repeat' (first | (with_reducible exact Below.refl _ _) | (with_reducible refine below_drewN ?_ _) | (with_reducible refine Below.setCell ?_ ?_ _) | (with_reducible refine Below.alloc ?_ ?_ _) | (simp; done) | (simp; omega))) (Nat.le_of_lt hl10) hk)
  have HS11 := Lib.hid hs
  have hl11 : w.heap.size < w11.heap.size := Nat.lt_of_le_of_lt hgw hs.lt
  clear hk hs HB10 HS10
  go_wp2_with fail
  refine (poll_is _ w.heap.size g ⟨[⟨3, false, 0⟩, ⟨1, false, 25⟩], 1⟩ 1 (HS11.out.below ?hA)).mono ?_
  case hA => exact (by repeat' (first | (with_reducible exact Below.refl _ _) | (with_reducible refine below_drewN ?_ _) | (with_reducible refine Below.setCell ?_ ?_ _) | (with_reducible refine Below.alloc ?_ ?_ _) | (simp; done) | (simp; omega)))
  have ei11 : PS.is ⟨[⟨3, false, 0⟩, ⟨1, false, 25⟩], 1⟩ 1 = true := rfl
  rw [ei11]
  rintro e w12 ⟨rfl, hb⟩
  have HB12 := Lib.hid (HB11.out.trans (hb.mono (Nat.le_of_lt hl11)))
  have HS12 := Lib.hid (HS11.out.below hb)
  have hl12 : w.heap.size < w12.heap.size := Nat.lt_of_lt_of_le hl11 hb.size
  clear hb HB11 HS11 ei11
  go_wp2_with fail
  refine (poll_is _ w.heap.size g ⟨[⟨3, false, 0⟩, ⟨1, false, 25⟩], 1⟩ 9 (HS12.out.below ?hA)).mono ?_
  case hA => exact (by repeat' (first | (with_reducible exact Below.refl _ _) | (with_reducible refine below_drewN ?_ _) | (with_reducible refine Below.setCell ?_ ?_ _) | (with_reducible refine Below.alloc ?_ ?_ _) | (simp; done) | (simp; omega)))
  have ei12 : PS.is ⟨[⟨3, false, 0⟩, ⟨1, false, 25⟩], 1⟩ 9 = false := rfl
  rw [ei12]
  rintro e w13 ⟨rfl, hb⟩
  have HB13 := Lib.hid (HB12.out.trans (hb.mono (Nat.le_of_lt hl12)))
  have HS13 := Lib.hid (HS12.out.below hb)
  have hl13 : w.heap.size < w13.heap.size := Nat.lt_of_lt_of_le hl12 hb.size
  clear hb HB12 HS12 ei12
  go_wp2_with fail
  refine (poll_addrs _ w.heap.size g ⟨[⟨3, false, 0⟩, ⟨1, false, 25⟩], 1⟩ (HS13.out.below ?hA)).mono ?_
  case hA => exact (by repeat' (first | (with_reducible exact Below.refl _ _) | (with_reducible refine below_drewN ?_ _) | (with_reducible refine Below.setCell ?_ ?_ _) | (with_reducible refine Below.alloc ?_ ?_ _) | (simp; done) | (simp; omega)))
  rintro e w14 ⟨hb, v, rfl, ho⟩
  obtain ⟨A, c, rfl⟩ := own_slice ho
  have cs : (convert 22 9 (.slice A 2 c)).run Try.prog w14 = .ok (.string ⟨#[3, 1]⟩) w14 := conv_bytes w14 (.slice A 2 c) [3, 1] (own_reads ho (by decide))
  have HB14 := Lib.hid (HB13.out.trans (hb.mono (Nat.le_of_lt hl13)))
  have ho' : w14.ownsRow w13.heap.size 5 1 (.slice A 2 c) 2 [.int .u8 3, .int .u8 1] := ho
  clear hb ho ho'
  simp only [List.length_cons, List.length_nil, Nat.zero_add, Nat.reduceAdd]
  go_wp2_with fail
  go_ret
  exact ⟨rfl, HB14.out⟩
end Go.Proofs.Ytmkbleeideddkaa
