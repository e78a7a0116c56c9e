/- The line: the first frame of a wire is lost. -/
import Derived.Test.YtmhdckpmkgkglaaNd
set_option linter.unusedVariables false
set_option linter.unusedSimpArgs false
namespace Go.Proofs.Ytmhdckpmkgkglaa
open Go.RowKit

set_option maxHeartbeats 4000000 in
set_option maxRecDepth 100000 in
theorem lose_D (w : World) (B x gm gs : Nat) (vd vu : Value) (f : FR) (u : Value) (ps us : List (FR × Value)) (L : LS) (hl : LineIn w B x gm gs vd vu ((f, u) :: ps) us L) :
    Calls Try.prog 22 #[.pointer (some ⟨x, 0, none⟩), .agg #[.int .i64 10]] w (DoesEnd w B x gm gs true { L with down := L.down.tail }) := by
  obtain ⟨Au, cu, rfl⟩ := hl.u.row.slice
  obtain ⟨fk, fo, fc, Af, cb, rfl, hfc1, hfc2, rfl, -⟩ := hl.d.head
  obtain ⟨v', hrun, hwt, hob⟩ := hl.d.tail
  obtain ⟨Av, cv, rfl⟩ := hwt.row.slice
  have hal : Below w.heap.size w (w.alloc (.cells #[.int .i64 10] 59)) := (Below.refl _ _).alloc (Nat.le_refl _) _
  have HAL := Lib.hid hal
  have x2 := blk_cell (hl.below hal).blk 2
  have f2 := blk_frozen (hl.below hal).blk 2
  simp at x2
  have he := hl.tailD hwt hob
  have hb9 := ((Below.refl _ _).alloc (Nat.le_refl _) (.cells #[.int .i64 10] 59) : Below (w.setCell ⟨x, 2, none⟩ (.slice Av ps.length cv)).heap.size _ _).drew
  have HE := Lib.hid (he.2.below hb9)
  have hk0 := (he.1.mono (ts' := [77, 22, 43, 63, 29]) (by simp)).trans (Kept.of_below hb9)
  have HK := Lib.hid hk0
  clear he hb9
  have hxl := hl.lt
  clear hk0 hal hl hwt hob
  go_enter Try.func22, Try.ntmps22
  go_upto_region 40 with fail
  go_region
  all_goals
    go_wp2_with fail
    go_ret
    exact ⟨rfl, HK.out, _, _, _, _, HE.out⟩
set_option maxHeartbeats 4000000 in
set_option maxRecDepth 100000 in
theorem lose_U (w : World) (B x gm gs : Nat) (vd vu : Value) (f : FR) (u : Value) (ds ps : List (FR × Value)) (L : LS) (hl : LineIn w B x gm gs vd vu ds ((f, u) :: ps) L) :
    Calls Try.prog 22 #[.pointer (some ⟨x, 0, none⟩), .agg #[.int .i64 11]] w (DoesEnd w B x gm gs true { L with up := L.up.tail }) := by
  obtain ⟨Ad, cd, rfl⟩ := hl.d.row.slice
  obtain ⟨fk, fo, fc, Af, cb, rfl, hfc1, hfc2, rfl, -⟩ := hl.u.head
  obtain ⟨v', hrun, hwt, hob⟩ := hl.u.tail
  obtain ⟨Av, cv, rfl⟩ := hwt.row.slice
  have hal : Below w.heap.size w (w.alloc (.cells #[.int .i64 11] 59)) := (Below.refl _ _).alloc (Nat.le_refl _) _
  have HAL := Lib.hid hal
  have x3 := blk_cell (hl.below hal).blk 3
  have f3 := blk_frozen (hl.below hal).blk 3
  simp at x3
  have he := hl.tailU hwt hob
  have hb9 := ((Below.refl _ _).alloc (Nat.le_refl _) (.cells #[.int .i64 11] 59) : Below (w.setCell ⟨x, 3, none⟩ (.slice Av ps.length cv)).heap.size _ _).drew
  have HE := Lib.hid (he.2.below hb9)
  have hk0 := (he.1.mono (ts' := [77, 22, 43, 63, 29]) (by simp)).trans (Kept.of_below hb9)
  have HK := Lib.hid hk0
  clear he hb9
  have hxl := hl.lt
  clear hk0 hal hl hwt hob
  go_enter Try.func22, Try.ntmps22
  go_upto_region 42 with fail
  go_region
  all_goals
    go_wp2_with fail
    go_ret
    exact ⟨rfl, HK.out, _, _, _, _, HE.out⟩
end Go.Proofs.Ytmhdckpmkgkglaa
