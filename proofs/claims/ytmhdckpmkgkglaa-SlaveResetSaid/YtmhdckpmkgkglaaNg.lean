/- The line: nothing is lost where nothing is on the wire. -/
import Derived.Test.YtmhdckpmkgkglaaNf
set_option linter.unusedVariables false
set_option linter.unusedSimpArgs false
namespace Go.Proofs.Ytmhdckpmkgkglaa
open Go.RowKit

theorem slice_zero {w : World} {B : Nat} {v : Value} (h : OffRow w B 29 6 v 0 []) : ∀ W : World, (Instr.slice 61 v (some (.int .i64 0)) none none).run Try.prog W = .ok v W := by
  obtain ⟨i0, hi, hz0, hz1, hz2⟩ := info_parts Try.info29
  intro W
  rcases h.2 with ⟨rfl, _⟩ | ⟨g, o, cap, cur, rfl, hb, hg, hnc, hcm, hcs, htake⟩
  · simp [Instr.slice, run_underlying Try.underlying61, sizeOf, typeInfo, hi, Instr.sliceBounds, Instr.sliceBound, asIntOf]
  · simp [Instr.slice, run_underlying Try.underlying61, sizeOf, typeInfo, hi, Instr.sliceBounds, Instr.sliceBound, asIntOf, Addr.add_lit]

set_option maxHeartbeats 4000000 in
set_option maxRecDepth 100000 in
theorem lose_D0 (w : World) (B x gm gs : Nat) (vd vu : Value) (us : List (FR × Value)) (L : LS) (hl : LineIn w B x gm gs vd vu [] us L) :
    Calls Try.prog 22 #[.pointer (some ⟨x, 0, none⟩), .agg #[.int .i64 10]] w (DoesEnd w B x gm gs true L) := by
  obtain ⟨Au, cu, rfl⟩ := hl.u.row.slice
  obtain ⟨Ad, cd, rfl⟩ := hl.d.row.slice
  simp only [List.length_nil] at hl
  have hrun := slice_zero hl.d.row
  have hal : Below w.heap.size w (w.alloc (.cells #[.int .i64 10] 59)) := (Below.refl _ _).alloc (Nat.le_refl _) _
  have x2 := blk_cell (hl.below hal).blk 2
  have f2 := blk_frozen (hl.below hal).blk 2
  simp at x2
  have he := hl.wrote (L' := L) (w1 := w.setCell ⟨x, 2, none⟩ (.slice Ad 0 cd)) (grown_set (grown_refl _ _) _ _) (by have := blk_set hl.blk 2 (.slice Ad 0 cd); simpa using this) rfl rfl rfl rfl
  have hb9 := ((Below.refl _ _).alloc (Nat.le_refl _) (.cells #[.int .i64 10] 59) : Below (w.setCell ⟨x, 2, none⟩ (.slice Ad 0 cd)).heap.size _ _).drew
  have HE := Lib.hid (he.2.below hb9)
  have hk0 := (he.1.mono (ts' := [77, 22, 43, 63, 29]) (by simp)).trans (Kept.of_below hb9)
  have HK := Lib.hid hk0
  have hxl := hl.lt
  clear he hb9 hk0 hal hl
  go_enter Try.func22, Try.ntmps22
  go_upto_region 40 with fail
  go_region
  all_goals
    go_wp2_with fail
    go_ret
    exact ⟨rfl, HK.out, _, _, _, _, HE.out⟩
set_option maxHeartbeats 4000000 in
set_option maxRecDepth 100000 in
theorem lose_U0 (w : World) (B x gm gs : Nat) (vd vu : Value) (ds : List (FR × Value)) (L : LS) (hl : LineIn w B x gm gs vd vu ds [] L) :
    Calls Try.prog 22 #[.pointer (some ⟨x, 0, none⟩), .agg #[.int .i64 11]] w (DoesEnd w B x gm gs true L) := by
  obtain ⟨Au, cu, rfl⟩ := hl.u.row.slice
  obtain ⟨Ad, cd, rfl⟩ := hl.d.row.slice
  simp only [List.length_nil] at hl
  have hrun := slice_zero hl.u.row
  have hal : Below w.heap.size w (w.alloc (.cells #[.int .i64 11] 59)) := (Below.refl _ _).alloc (Nat.le_refl _) _
  have x3 := blk_cell (hl.below hal).blk 3
  have f3 := blk_frozen (hl.below hal).blk 3
  simp at x3
  have he := hl.wrote (L' := L) (w1 := w.setCell ⟨x, 3, none⟩ (.slice Au 0 cu)) (grown_set (grown_refl _ _) _ _) (by have := blk_set hl.blk 3 (.slice Au 0 cu); simpa using this) rfl rfl rfl rfl
  have hb9 := ((Below.refl _ _).alloc (Nat.le_refl _) (.cells #[.int .i64 11] 59) : Below (w.setCell ⟨x, 3, none⟩ (.slice Au 0 cu)).heap.size _ _).drew
  have HE := Lib.hid (he.2.below hb9)
  have hk0 := (he.1.mono (ts' := [77, 22, 43, 63, 29]) (by simp)).trans (Kept.of_below hb9)
  have HK := Lib.hid hk0
  have hxl := hl.lt
  clear he hb9 hk0 hal hl
  go_enter Try.func22, Try.ntmps22
  go_upto_region 42 with fail
  go_region
  all_goals
    go_wp2_with fail
    go_ret
    exact ⟨rfl, HK.out, _, _, _, _, HE.out⟩
theorem does_10 (w : World) (B x gm gs : Nat) (L : LS) (h : LineAt w B x gm gs L) : Calls Try.prog 22 #[.pointer (some ⟨x, 0, none⟩), .agg #[.int .i64 10]] w (DoesEnd w B x gm gs true { L with down := L.down.tail }) := by
  obtain ⟨vd, vu, ds, us, hl⟩ := h
  cases ds with
  | nil =>
    have hd : L.down = [] := by rw [← hl.de]; rfl
    have : ({ L with down := L.down.tail } : LS) = L := by rw [hd]; cases L; simp only at hd; subst hd; rfl
    rw [this]
    exact lose_D0 w B x gm gs vd vu us L hl
  | cons p ps => obtain ⟨f, u⟩ := p; exact lose_D w B x gm gs vd vu f u ps us L hl
theorem does_11 (w : World) (B x gm gs : Nat) (L : LS) (h : LineAt w B x gm gs L) : Calls Try.prog 22 #[.pointer (some ⟨x, 0, none⟩), .agg #[.int .i64 11]] w (DoesEnd w B x gm gs true { L with up := L.up.tail }) := by
  obtain ⟨vd, vu, ds, us, hl⟩ := h
  cases us with
  | nil =>
    have hd : L.up = [] := by rw [← hl.ue]; rfl
    have : ({ L with up := L.up.tail } : LS) = L := by rw [hd]; cases L; simp only at hd; subst hd; rfl
    rw [this]
    exact lose_U0 w B x gm gs vd vu ds L hl
  | cons p ps => obtain ⟨f, u⟩ := p; exact lose_U w B x gm gs vd vu f u ds ps L hl
end Go.Proofs.Ytmhdckpmkgkglaa
