/- The line: what the ops share; Send and Offer. -/
import Derived.Test.YtmhdckpmkgkglaaNa
import Derived.Deep.DeepCutAuto
import Derived.Deep.RegionHeld3
import Derived.Deep.CutBlock
set_option linter.unusedVariables false
set_option linter.unusedSimpArgs false
namespace Go.Proofs.Ytmhdckpmkgkglaa
open Go.RowKit

theorem drew_below (w : World) : Below w.heap.size w w.drew := (Below.refl _ _).drew
theorem two_cells (n : Nat) (k : UInt8) : bytesV (two n k) = [.int .u8 ((n % 256 : Nat) : Int), .int .u8 (k.toNat : Int)] := by
  unfold two bytesV
  simp
theorem wrap8 (n : Nat) : IntKind.u8.wrap (n : Int) = ((n % 256 : Nat) : Int) := by
  simp [IntKind.wrap, IntKind.bits, IntKind.signed]
theorem SlaveAt.kept {w w1 : World} {B B' g : Nat} {S : SS} {ts : List TypeId} (h : SlaveAt w B g S) (hk : Kept B' ts w w1) (h1 : 43 ∉ ts) (h2 : 5 ∉ ts) : SlaveAt w1 B g S :=
  h.keep fun k _ hlt ⟨cs, t, fr, hc, ht⟩ => hk.block k hlt (.inr ⟨cs, t, fr, hc, by rcases ht with rfl | rfl; exact h1; exact h2⟩)
section
variable {w w1 : World} {B x gm gs : Nat} {vd vu : Value} {ds us : List (FR × Value)} {L : LS}
theorem LineIn.master {M' : MS} (h : LineIn w B x gm gs vd vu ds us L) (k : Kept B [77, 22] w w1) (hm : MasterAt w1 B gm M') : LineIn w1 B x gm gs vd vu ds us { L with M := M' } :=
  ⟨h.ge, k.blk h.blk (by decide), hm, h.s.kept k (by decide) (by decide), h.d.kept k (by decide) (by decide), h.u.kept k (by decide) (by decide), h.de, h.ue, h.dj⟩
theorem LineIn.slave {S' : SS} (h : LineIn w B x gm gs vd vu ds us L) (g : w.grownBy w1 (some gs)) (hs : SlaveAt w1 B gs S') : Kept B [43] w w1 ∧ LineIn w1 B x gm gs vd vu ds us { L with S := S' } := by
  obtain ⟨v, hg, _⟩ := h.s.ex
  have k : Kept B [43] w w1 := Kept.of_grown g hg (by simp) h.s.ge
  exact ⟨k, h.ge, k.blk h.blk (by decide), h.m.kept k (by decide) (by decide) (by decide), hs, h.d.kept k (by decide) (by decide), h.u.kept k (by decide) (by decide), h.de, h.ue, h.dj⟩
/-- The line's own block is written; ends and wires stay. -/
theorem LineIn.wrote {L' : LS} (h : LineIn w B x gm gs vd vu ds us L) (g : w.grownBy w1 (some x)) (hb : w1.heap[x]? = some (.cells #[.pointer (some ⟨gm, 0, none⟩), .pointer (some ⟨gs, 0, none⟩), vd, vu, .int .i64 (L'.sent : Int), .int .i64 (L'.came : Int), .int .i64 (L'.offered : Int), .int .i64 (L'.heard : Int)] 63 (0, 0)))
    (h1 : L'.M = L.M) (h2 : L'.S = L.S) (h3 : L'.down = L.down) (h4 : L'.up = L.up) : Kept B [63] w w1 ∧ LineIn w1 B x gm gs vd vu ds us L' := by
  have k : Kept B [63] w w1 := Kept.of_grown g h.blk (by simp) h.ge
  exact ⟨k, h.ge, hb, by rw [h1]; exact h.m.kept k (by decide) (by decide) (by decide), by rw [h2]; exact h.s.kept k (by decide) (by decide), h.d.kept k (by decide) (by decide), h.u.kept k (by decide) (by decide), by rw [h3]; exact h.de, by rw [h4]; exact h.ue, h.dj⟩
end
def DoesEnd (w : World) (B x gm gs : Nat) (b : Bool) (L : LS) (e : Ending) (w' : World) : Prop := e = .returned (.bool b) ∧ Kept B [77, 22, 43, 63, 29] w w' ∧ LineAt w' B x gm gs L

set_option maxHeartbeats 4000000 in
set_option maxRecDepth 100000 in
theorem does_0 (w : World) (B x gm gs : Nat) (L : LS) (h : LineAt w B x gm gs L) (hs : L.sent ≤ 100000) :
    Calls Try.prog 22 #[.pointer (some ⟨x, 0, none⟩), .agg #[.int .i64 0]] w (DoesEnd w B x gm gs true L.sendF) := by
  obtain ⟨vd, vu, ds, us, hl⟩ := h
  obtain ⟨Ad, cd, rfl⟩ := hl.d.row.slice
  obtain ⟨Au, cu, rfl⟩ := hl.u.row.slice
  obtain ⟨q, hq⟩ : ∃ q, q = L.sent % 256 := ⟨_, rfl⟩
  have hwr := wrap8 L.sent
  rw [← hq] at hwr
  have hal : Below w.heap.size w (w.alloc (.cells #[.int .i64 0] 59)) := (Below.refl _ _).alloc (Nat.le_refl _) _
  have HAL := Lib.hid hal
  have HL := Lib.hid (hl.below hal)
  have x0 := blk_cell (hl.below hal).blk 0
  have x4 := blk_cell (hl.below hal).blk 4
  simp at x0 x4
  have hxl := hl.lt
  obtain ⟨n, M', hF⟩ : ∃ n M', L.M.sendF (two L.sent 1) = (n, M') := ⟨_, _, rfl⟩
  have HF := Lib.hid hF
  clear hal hl hF
  go_enter Try.func22, Try.ntmps22
  go_upto_region 3 with fail
  have hw1 : Below w.heap.size w ((w.alloc (.cells #[.int .i64 0] 59)).alloc (.cells #[.int .u8 (q : Int), .int .u8 1] 5)).drew := (HAL.out.alloc (by simp) _).drew
  have HW1 := Lib.hid hw1
  have HLD := Lib.hid (HL.out.below (drew_below _))
  have HLW : Hid (LineIn ((w.alloc (.cells #[.int .i64 0] 59)).alloc (.cells #[.int .u8 (q : Int), .int .u8 1] 5)).drew B x gm gs (.slice Ad ds.length cd) (.slice Au us.length cu) ds us L) := HL.out.below ((Below.refl _ _).alloc (Nat.le_refl _) _).drew
  have HRB : Hid (ReadsB ((w.alloc (.cells #[.int .i64 0] 59)).alloc (.cells #[.int .u8 (q : Int), .int .u8 1] 5)).drew (.slice (some ⟨w.heap.size + 1, 0, none⟩) 2 2) (two L.sent 1)) := reads_two (blk_drew (blk_new' _ _ _ (by simp))) (by rw [two_cells, ← hq]; rfl) rfl
  clear hw1 hq
  go_cut [25] (fun b w' => b = .bool (decide (n = 0)) ∧ Kept B [77, 22, 43, 63, 29] w w' ∧ LineIn w' B x gm gs (.slice Ad ds.length cd) (.slice Au us.length cu) ds us { L with M := M' })
  case first =>
    go_region_held3 (fun w' => w'.cell? ⟨x, 0, none⟩ = some (.pointer (some ⟨gm, 0, none⟩)) ∧ w'.cell? ⟨x, 4, none⟩ = some (.int .i64 (L.sent : Int)))
      ((first
        | exact ⟨x0, x4⟩
        | exact ⟨blk_cell (HLD.out.below ((Below.refl _ _).alloc (Nat.le_refl _) _)).blk 0, blk_cell (HLD.out.below ((Below.refl _ _).alloc (Nat.le_refl _) _)).blk 4⟩
        | exact ⟨blk_cell HLW.out.blk 0, blk_cell HLW.out.blk 4⟩
        | exact ⟨blk_cell hA.blk 0, blk_cell hA.blk 4⟩))
      ((first
        | (go_at_call 33; refine (masterK_send _ B gm L.M M' _ (two L.sent 1) n HLW.out.m HRB.out HF.out).mono ?_; rintro e wA ⟨rfl, kA, mA⟩; have hA := LineIn.master HLW.out kA mA; have hKA : Kept B [77, 22, 43, 63, 29] w wA := (Kept.of_below HW1.out).trans (kA.mono (by simp)))))
    all_goals
      go_wp2_with fail
      go_meet
      case rel => exact ⟨by first | rfl | (simp; rfl), hKA, hA⟩
  case rest =>
  obtain ⟨w3, rfl⟩ : ∃ w3, w3 = wc := ⟨wc, rfl⟩
  obtain ⟨rfl, hk3, hl3⟩ := hcut
  have HK3 := Lib.hid hk3
  have HL3 := Lib.hid hl3
  have y4 := blk_cell hl3.blk 4
  have f4 := blk_frozen hl3.blk 4
  simp at y4
  clear hk3 hl3 HL HLD HAL x0 x4
  have hsF : L.sendF = { L with M := M', sent := if n = 0 then L.sent + 1 else L.sent } := by
    unfold LS.sendF
    rw [HF.out]
  have HSF := Lib.hid hsF
  clear hsF
  by_cases hn : n = 0
  · have hnd : decide (n = 0) = true := by simpa using hn
    have HN := Lib.hid hn
    clear hn
    have hw := HL3.out.wrote (L' := { L with M := M', sent := L.sent + 1 }) (w1 := w3.setCell ⟨x, 4, none⟩ (.int .i64 ((L.sent : Int) + 1))) (grown_set (grown_refl _ _) _ _) (by have := blk_set HL3.out.blk 4 (.int .i64 ((L.sent : Int) + 1)); simpa using this) rfl rfl rfl rfl
    have HW := Lib.hid hw
    clear hw
    go_wp2_with fail
    go_ret
    refine ⟨rfl, HK3.out.trans (HW.out.1.mono (by simp)), ?_⟩
    rw [HSF.out, if_pos HN.out]
    exact ⟨_, _, _, _, HW.out.2⟩
  · have hnd : decide (n = 0) = false := by simpa using hn
    have HN := Lib.hid hn
    clear hn
    go_wp2_with fail
    go_ret
    refine ⟨rfl, HK3.out, ?_⟩
    rw [HSF.out, if_neg HN.out]
    exact ⟨_, _, _, _, HL3.out⟩
set_option maxHeartbeats 4000000 in
set_option maxRecDepth 100000 in
theorem does_1 (w : World) (B x gm gs : Nat) (L : LS) (h : LineAt w B x gm gs L) (hs : L.offered ≤ 100000) :
    Calls Try.prog 22 #[.pointer (some ⟨x, 0, none⟩), .agg #[.int .i64 1]] w (DoesEnd w B x gm gs true L.offerF) := by
  obtain ⟨vd, vu, ds, us, hl⟩ := h
  obtain ⟨Ad, cd, rfl⟩ := hl.d.row.slice
  obtain ⟨Au, cu, rfl⟩ := hl.u.row.slice
  obtain ⟨q, hq⟩ : ∃ q, q = L.offered % 256 := ⟨_, rfl⟩
  have hwr := wrap8 L.offered
  rw [← hq] at hwr
  have hal : Below w.heap.size w (w.alloc (.cells #[.int .i64 1] 59)) := (Below.refl _ _).alloc (Nat.le_refl _) _
  have HAL := Lib.hid hal
  have HL := Lib.hid (hl.below hal)
  have x1 := blk_cell (hl.below hal).blk 1
  have x6 := blk_cell (hl.below hal).blk 6
  simp at x1 x6
  have hxl := hl.lt
  obtain ⟨n, S', hF⟩ : ∃ n S', offerF L.S (two L.offered 2) = (n, S') := ⟨_, _, rfl⟩
  have HF := Lib.hid hF
  clear hal hl hF
  go_enter Try.func22, Try.ntmps22
  go_upto_region 6 with fail
  have hw1 : Below w.heap.size w ((w.alloc (.cells #[.int .i64 1] 59)).alloc (.cells #[.int .u8 (q : Int), .int .u8 2] 5)).drew := (HAL.out.alloc (by simp) _).drew
  have HW1 := Lib.hid hw1
  have HLD := Lib.hid (HL.out.below (drew_below _))
  have HLW : Hid (LineIn ((w.alloc (.cells #[.int .i64 1] 59)).alloc (.cells #[.int .u8 (q : Int), .int .u8 2] 5)).drew B x gm gs (.slice Ad ds.length cd) (.slice Au us.length cu) ds us L) := HL.out.below ((Below.refl _ _).alloc (Nat.le_refl _) _).drew
  have HRB : Hid (ReadsB ((w.alloc (.cells #[.int .i64 1] 59)).alloc (.cells #[.int .u8 (q : Int), .int .u8 2] 5)).drew (.slice (some ⟨w.heap.size + 1, 0, none⟩) 2 2) (two L.offered 2)) := reads_two (blk_drew (blk_new' _ _ _ (by simp))) (by rw [two_cells, ← hq]; rfl) rfl
  clear hw1 hq
  go_cut [46] (fun b w' => b = .bool (decide (n = 0)) ∧ Kept B [77, 22, 43, 63, 29] w w' ∧ LineIn w' B x gm gs (.slice Ad ds.length cd) (.slice Au us.length cu) ds us { L with S := S' })
  case first =>
    go_region_held3 (fun w' => w'.cell? ⟨x, 1, none⟩ = some (.pointer (some ⟨gs, 0, none⟩)) ∧ w'.cell? ⟨x, 6, none⟩ = some (.int .i64 (L.offered : Int)))
      ((first
        | exact ⟨x1, x6⟩
        | exact ⟨blk_cell (HLD.out.below ((Below.refl _ _).alloc (Nat.le_refl _) _)).blk 1, blk_cell (HLD.out.below ((Below.refl _ _).alloc (Nat.le_refl _) _)).blk 6⟩
        | exact ⟨blk_cell HLW.out.blk 1, blk_cell HLW.out.blk 6⟩
        | exact ⟨blk_cell hA.blk 1, blk_cell hA.blk 6⟩))
      ((first
        | (go_at_call 12; refine (slave_offer _ B gs L.S S' _ (two L.offered 2) n HLW.out.s HRB.out HF.out).mono ?_; rintro e wA ⟨rfl, gA, mA⟩; have hAB := LineIn.slave HLW.out gA mA; have hA := hAB.2; have hKA : Kept B [77, 22, 43, 63, 29] w wA := (Kept.of_below HW1.out).trans (hAB.1.mono (by simp)))))
    all_goals
      go_wp2_with fail
      go_meet
      case rel => exact ⟨by first | rfl | (simp; rfl), hKA, hA⟩
  case rest =>
  obtain ⟨w3, rfl⟩ : ∃ w3, w3 = wc := ⟨wc, rfl⟩
  obtain ⟨rfl, hk3, hl3⟩ := hcut
  have HK3 := Lib.hid hk3
  have HL3 := Lib.hid hl3
  have y6 := blk_cell hl3.blk 6
  have f6 := blk_frozen hl3.blk 6
  simp at y6
  clear hk3 hl3 HL HLD HAL x1 x6
  have hsF : L.offerF = { L with S := S', offered := if n = 0 then L.offered + 1 else L.offered } := by
    unfold LS.offerF
    rw [HF.out]
  have HSF := Lib.hid hsF
  clear hsF
  by_cases hn : n = 0
  · have hnd : decide (n = 0) = true := by simpa using hn
    have HN := Lib.hid hn
    clear hn
    have hw := HL3.out.wrote (L' := { L with S := S', offered := L.offered + 1 }) (w1 := w3.setCell ⟨x, 6, none⟩ (.int .i64 ((L.offered : Int) + 1))) (grown_set (grown_refl _ _) _ _) (by have := blk_set HL3.out.blk 6 (.int .i64 ((L.offered : Int) + 1)); simpa using this) rfl rfl rfl rfl
    have HW := Lib.hid hw
    clear hw
    go_wp2_with fail
    go_ret
    refine ⟨rfl, HK3.out.trans (HW.out.1.mono (by simp)), ?_⟩
    rw [HSF.out, if_pos HN.out]
    exact ⟨_, _, _, _, HW.out.2⟩
  · have hnd : decide (n = 0) = false := by simpa using hn
    have HN := Lib.hid hn
    clear hn
    go_wp2_with fail
    go_ret
    refine ⟨rfl, HK3.out, ?_⟩
    rw [HSF.out, if_neg HN.out]
    exact ⟨_, _, _, _, HL3.out⟩
end Go.Proofs.Ytmhdckpmkgkglaa
