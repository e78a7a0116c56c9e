/- The line: the first frame up comes to the master (ops 7, 8, 9); ops 4, 5, 6 where nothing is done. -/
import Derived.Test.YtmhdckpmkgkglaaNl
set_option linter.unusedVariables false
set_option linter.unusedSimpArgs false
namespace Go.Proofs.Ytmhdckpmkgkglaa
open Go.RowKit

set_option maxHeartbeats 4000000 in
set_option maxRecDepth 100000 in
theorem heard_no (w : World) (B x gm gs : Nat) (vd vu : Value) (ds : List (FR × Value)) (L : LS) (k : Int) (hk : k = 7 ∨ k = 8 ∨ k = 9) (hl : LineIn w B x gm gs vd vu ds [] L) :
    Calls Try.prog 22 #[.pointer (some ⟨x, 0, none⟩), .agg #[.int .i64 k]] w (DoesEnd w B x gm gs true L) := by
  obtain ⟨Au, cu, rfl⟩ := hl.u.row.slice
  simp only [List.length_nil] at hl
  have hal : Below w.heap.size w (w.alloc (.cells #[.int .i64 k] 59)) := (Below.refl _ _).alloc (Nat.le_refl _) _
  have HAL := Lib.hid hal
  have HL := Lib.hid (hl.below hal)
  have x3 := blk_cell (hl.below hal).blk 3
  simp at x3
  clear hal hl
  go_enter Try.func22, Try.ntmps22
  go_upto_if 161 with fail
  go_cut [161] (fun v w' => v = .bool true ∧ w' = w.alloc (.cells #[.int .i64 k] 59))
  case first =>
    rcases hk with rfl | rfl | rfl
    · go_wp2_with fail
      go_meet
      case rel => exact ⟨rfl, rfl⟩
    · go_wp2_with fail
      go_meet
      case rel => exact ⟨rfl, rfl⟩
    · go_wp2_with fail
      go_meet
      case rel => exact ⟨rfl, rfl⟩
  case rest =>
  obtain ⟨rfl, rfl⟩ := hcut
  go_wp2_with fail
  go_ret
  exact ⟨rfl, Kept.of_below HAL.out, _, _, _, _, HL.out⟩
set_option maxHeartbeats 4000000 in
set_option maxRecDepth 100000 in
theorem tk_no (w : World) (B x gm gs : Nat) (vd vu : Value) (us : List (FR × Value)) (L : LS) (k : Int) (hk : k = 4 ∨ k = 5 ∨ k = 6) (hl : LineIn w B x gm gs vd vu [] us L) :
    Calls Try.prog 22 #[.pointer (some ⟨x, 0, none⟩), .agg #[.int .i64 k]] w (DoesEnd w B x gm gs true L) := by
  obtain ⟨Ad, cd, rfl⟩ := hl.d.row.slice
  simp only [List.length_nil] at hl
  have hal : Below w.heap.size w (w.alloc (.cells #[.int .i64 k] 59)) := (Below.refl _ _).alloc (Nat.le_refl _) _
  have HAL := Lib.hid hal
  have HL := Lib.hid (hl.below hal)
  have x2 := blk_cell (hl.below hal).blk 2
  simp at x2
  clear hal hl
  go_enter Try.func22, Try.ntmps22
  go_upto_if 77 with fail
  go_cut [77] (fun v w' => v = .bool true ∧ w' = w.alloc (.cells #[.int .i64 k] 59))
  case first =>
    rcases hk with rfl | rfl | rfl
    · go_wp2_with fail
      go_meet
      case rel => exact ⟨rfl, rfl⟩
    · go_wp2_with fail
      go_meet
      case rel => exact ⟨rfl, rfl⟩
    · go_wp2_with fail
      go_meet
      case rel => exact ⟨rfl, rfl⟩
  case rest =>
  obtain ⟨rfl, rfl⟩ := hcut
  go_wp2_with fail
  go_ret
  exact ⟨rfl, Kept.of_below HAL.out, _, _, _, _, HL.out⟩
set_option maxHeartbeats 4000000 in
set_option maxRecDepth 100000 in
theorem tk_full (w : World) (B x gm gs : Nat) (vd vu : Value) (p : FR × Value) (ps us : List (FR × Value)) (L : LS) (k : Int) (hk : k = 4 ∨ k = 5 ∨ k = 6) (hl : LineIn w B x gm gs vd vu (p :: ps) us L) (h20 : 20 ≤ us.length) (hp : ps.length ≤ 20) (hp2 : us.length ≤ 20) :
    Calls Try.prog 22 #[.pointer (some ⟨x, 0, none⟩), .agg #[.int .i64 k]] w (DoesEnd w B x gm gs true L) := by
  obtain ⟨Ad, cd, rfl⟩ := hl.d.row.slice
  obtain ⟨Au, cu, rfl⟩ := hl.u.row.slice
  have hud : decide ((20 : Int) ≤ (us.length : Int)) = true := by simp; omega
  have hal : Below w.heap.size w (w.alloc (.cells #[.int .i64 k] 59)) := (Below.refl _ _).alloc (Nat.le_refl _) _
  have HAL := Lib.hid hal
  have HL := Lib.hid (hl.below hal)
  have x2 := blk_cell (hl.below hal).blk 2
  have x3 := blk_cell (hl.below hal).blk 3
  simp at x2 x3
  clear hal hl
  go_enter Try.func22, Try.ntmps22
  go_upto_if 77 with fail
  go_cut [77] (fun v w' => v = .bool true ∧ w' = w.alloc (.cells #[.int .i64 k] 59))
  case first =>
    rcases hk with rfl | rfl | rfl
    · go_wp2_with fail
      go_meet
      case rel => exact ⟨rfl, rfl⟩
    · go_wp2_with fail
      go_meet
      case rel => exact ⟨rfl, rfl⟩
    · go_wp2_with fail
      go_meet
      case rel => exact ⟨rfl, rfl⟩
  case rest =>
  obtain ⟨rfl, rfl⟩ := hcut
  go_wp2_with fail
  go_ret
  exact ⟨rfl, Kept.of_below HAL.out, _, _, _, _, HL.out⟩
end Go.Proofs.Ytmhdckpmkgkglaa
