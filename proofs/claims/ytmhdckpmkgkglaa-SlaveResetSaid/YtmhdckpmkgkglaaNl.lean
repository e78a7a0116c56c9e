/- The line: ops 12 and 13. -/
import Derived.Test.YtmhdckpmkgkglaaNj
import Derived.Test.YtmhdckpmkgkglaaNk
set_option linter.unusedVariables false
set_option linter.unusedSimpArgs false
namespace Go.Proofs.Ytmhdckpmkgkglaa
open Go.RowKit

set_option maxHeartbeats 4000000 in
set_option maxRecDepth 100000 in
theorem dup_no (w : World) (B x gm gs : Nat) (vd vu : Value) (ds us : List (FR × Value)) (L : LS) (hl : LineIn w B x gm gs vd vu ds us L) :
    ((ds.length = 0 ∨ 20 ≤ ds.length) → Calls Try.prog 22 #[.pointer (some ⟨x, 0, none⟩), .agg #[.int .i64 12]] w (DoesEnd w B x gm gs true L)) ∧
    ((us.length = 0 ∨ 20 ≤ us.length) → Calls Try.prog 22 #[.pointer (some ⟨x, 0, none⟩), .agg #[.int .i64 13]] w (DoesEnd w B x gm gs true L)) := by
  obtain ⟨Au, cu, rfl⟩ := hl.u.row.slice
  obtain ⟨Ad, cd, rfl⟩ := hl.d.row.slice
  constructor
  · intro hn
    have hal : Below w.heap.size w (w.alloc (.cells #[.int .i64 12] 59)) := (Below.refl _ _).alloc (Nat.le_refl _) _
    have HAL := Lib.hid hal
    have HL := Lib.hid (hl.below hal)
    have x2 := blk_cell (hl.below hal).blk 2
    simp at x2
    obtain ⟨n, hnn⟩ : ∃ n, n = ds.length := ⟨_, rfl⟩
    rw [← hnn] at x2 hn
    clear hal hl hnn
    by_cases h0 : 0 < n
    · have hd : decide ((n : Int) < 20) = false := by simp; omega
      go_enter Try.func22, Try.ntmps22
      go_wp2_with fail
      go_ret
      exact ⟨rfl, Kept.of_below HAL.out, _, _, _, _, HL.out⟩
    · go_enter Try.func22, Try.ntmps22
      go_wp2_with fail
      go_ret
      exact ⟨rfl, Kept.of_below HAL.out, _, _, _, _, HL.out⟩
  · intro hn
    have hal : Below w.heap.size w (w.alloc (.cells #[.int .i64 13] 59)) := (Below.refl _ _).alloc (Nat.le_refl _) _
    have HAL := Lib.hid hal
    have HL := Lib.hid (hl.below hal)
    have x3 := blk_cell (hl.below hal).blk 3
    simp at x3
    obtain ⟨n, hnn⟩ : ∃ n, n = us.length := ⟨_, rfl⟩
    rw [← hnn] at x3 hn
    clear hal hl hnn
    by_cases h0 : 0 < n
    · have hd : decide ((n : Int) < 20) = false := by simp; omega
      go_enter Try.func22, Try.ntmps22
      go_wp2_with fail
      go_ret
      exact ⟨rfl, Kept.of_below HAL.out, _, _, _, _, HL.out⟩
    · go_enter Try.func22, Try.ntmps22
      go_wp2_with fail
      go_ret
      exact ⟨rfl, Kept.of_below HAL.out, _, _, _, _, HL.out⟩
theorem dup_same {L : LS} : (L.down.length = 0 ∨ 20 ≤ L.down.length) → dupF L.down = L.down := by
  intro h
  unfold dupF
  split
  · rename_i e; rw [e]
  · rename_i f fs e
    rw [e] at h ⊢
    simp only [List.length_cons] at h
    rw [if_neg (by omega)]
theorem does_12 (w : World) (B x gm gs : Nat) (L : LS) (h : LineAt w B x gm gs L) : Calls Try.prog 22 #[.pointer (some ⟨x, 0, none⟩), .agg #[.int .i64 12]] w (DoesEnd w B x gm gs true { L with down := dupF L.down }) := by
  obtain ⟨vd, vu, ds, us, hl⟩ := h
  have hlen := hl.dlen
  by_cases hc : ds.length = 0 ∨ 20 ≤ ds.length
  · rw [dup_same (by omega)]
    exact (dup_no w B x gm gs vd vu ds us L hl).1 hc
  · cases ds with
    | nil => simp at hc
    | cons p ps =>
      obtain ⟨f, u⟩ := p
      simp only [List.length_cons] at hc
      have hd : dupF L.down = ((f, u) :: (f, u) :: ps).map Prod.fst := by
        rw [← hl.de]
        show (if (ps.map Prod.fst).length + 1 < 20 then _ else _) = _
        rw [if_pos (by simp; omega)]
        rfl
      rw [hd]
      exact dup_D w B x gm gs vd vu f u ps us L hl (by omega)
theorem does_13 (w : World) (B x gm gs : Nat) (L : LS) (h : LineAt w B x gm gs L) : Calls Try.prog 22 #[.pointer (some ⟨x, 0, none⟩), .agg #[.int .i64 13]] w (DoesEnd w B x gm gs true { L with up := dupF L.up }) := by
  obtain ⟨vd, vu, ds, us, hl⟩ := h
  have hlen := hl.ulen
  by_cases hc : us.length = 0 ∨ 20 ≤ us.length
  · have hs : dupF L.up = L.up := dup_same (L := { L with down := L.up }) (by show L.up.length = 0 ∨ 20 ≤ L.up.length; omega)
    rw [hs]
    exact (dup_no w B x gm gs vd vu ds us L hl).2 hc
  · cases us with
    | nil => simp at hc
    | cons p ps =>
      obtain ⟨f, u⟩ := p
      simp only [List.length_cons] at hc
      have hd : dupF L.up = ((f, u) :: (f, u) :: ps).map Prod.fst := by
        rw [← hl.ue]
        show (if (ps.map Prod.fst).length + 1 < 20 then _ else _) = _
        rw [if_pos (by simp; omega)]
        rfl
      rw [hd]
      exact dup_U w B x gm gs vd vu f u ds ps L hl (by omega)
end Go.Proofs.Ytmhdckpmkgkglaa
