/- Master.Missed. -/
import Derived.Test.YtdgbmiobfehpdaaMf
set_option linter.unusedVariables false
set_option linter.unusedSimpArgs false
namespace Go.Proofs.Ytdgbmiobfehpdaa
open Go.RowKit

set_option maxHeartbeats 1600000 in
theorem missed_no (w : World) (g : Nat) (s h a n t st ep ms : Int) (v : Value) (hm0 : 0 ≤ ms) (hm1 : ms + 1 < t) (ht : t ≤ 9223372036854775807)
    (hg : w.heap[g]? = some (.cells #[.int .u8 s, .int .u8 h, .int .u8 a, .int .u8 n, .int .i64 t, .int .i64 st, .int .i64 ep, v, .int .i64 ms] 62 (0, 0))) :
    Calls Try.prog 22 #[.pointer (some ⟨g, 0, none⟩)] w fun e w' => e = .returned (.bool false) ∧ w.grownBy w' (some g) ∧
      w'.heap[g]? = some (.cells #[.int .u8 s, .int .u8 h, .int .u8 a, .int .u8 n, .int .i64 t, .int .i64 st, .int .i64 ep, v, .int .i64 (ms + 1)] 62 (0, 0)) := by
  obtain ⟨h0, h1, h2, h3, h4, h5, h6, h7, h8⟩ := blk9 hg
  obtain ⟨f0, f1, f2, f3, f4, f5, f6, f7, f8⟩ := frz9 hg
  have H := Lib.hid hg
  have k1 : decide (ms + 1 < t) = true := by simpa using hm1
  clear hg
  go_enter Try.func22, Try.ntmps22
  go_wp2_with fail
  go_quiet (fail)
  go_wp2
  go_ret
  refine ⟨rfl, ?_, ?_⟩
  · first | exact grown_drewN (grown_set (grown_refl _ _) _ _) _ | exact grown_drew (grown_set (grown_refl _ _) _ _)
  · exact blk_set H.out 8 (.int .i64 (ms + 1))

set_option maxHeartbeats 1600000 in
theorem missed_yes (w : World) (g : Nat) (s h a n t st ep ms : Int) (v : Value) (hm0 : 0 ≤ ms) (hm1 : ¬ ms + 1 < t) (hm2 : ms < t) (ht : t ≤ 9223372036854775807) (hn0 : 1 ≤ n) (hn1 : n ≤ 255)
    (hg : w.heap[g]? = some (.cells #[.int .u8 s, .int .u8 h, .int .u8 a, .int .u8 n, .int .i64 t, .int .i64 st, .int .i64 ep, v, .int .i64 ms] 62 (0, 0))) :
    Calls Try.prog 22 #[.pointer (some ⟨g, 0, none⟩)] w fun e w' => e = .returned (.bool (decide (st ≠ 2))) ∧ w.grownBy w' (some g) ∧
      w'.heap[g]? = some (.cells #[.int .u8 s, .int .u8 h, .int .u8 a, .int .u8 (n % 255 + 1), .int .i64 t, .int .i64 2, .int .i64 ep, .slice none 0 0, .int .i64 0] 62 (0, 0)) := by
  obtain ⟨h0, h1, h2, h3, h4, h5, h6, h7, h8⟩ := blk9 hg
  obtain ⟨f0, f1, f2, f3, f4, f5, f6, f7, f8⟩ := frz9 hg
  have H := Lib.hid hg
  have k1 : decide (ms + 1 < t) = false := by simpa using hm1
  clear hg
  go_enter Try.func22, Try.ntmps22
  go_wp2_with fail
  go_quiet (fail)
  go_wp2_with fail
  refine (m_close _ g s h a n t st ep (ms + 1) 2 v hn0 hn1 ?hh).mono ?_
  case hh => exact blk_set H.out 8 (.int .i64 (ms + 1))
  rintro e w1 ⟨rfl, hgr, hg1⟩
  have HG1 := Lib.hid hg1
  have HGR : Hid (w.grownBy w1 (some g)) := by
    refine grown_trans ?_ hgr
    first | exact grown_drewN (grown_set (grown_refl _ _) _ _) _ | exact grown_drew (grown_set (grown_refl _ _) _ _)
  clear hg1 hgr
  go_wp2_with fail
  go_ret
  refine ⟨?_, HGR.out, HG1.out⟩
  first | rfl | (congr 2; simp [bne]; done) | (congr 2; by_cases e : st = 2 <;> simp [e])

theorem master_missed (w : World) (B g : Nat) (M M' : MS) (d : Bool) (h : MasterAt w B g M) (hF : M.missedF = (d, M')) :
    Calls Try.prog 22 #[.pointer (some ⟨g, 0, none⟩)] w fun e w' => e = .returned (.bool d) ∧ Kept B [62] w w' ∧ MasterAt w' B g M' := by
  obtain ⟨v, hg, hq⟩ := h.ex
  have hok := h.ok.missed hF
  unfold MS.missedF at hF
  split at hF
  · rename_i hlt
    cases hF
    refine (missed_no w g _ _ _ _ _ _ _ _ v h.ok.m0 hlt h.ok.t1 hg).mono ?_
    rintro e w' ⟨rfl, hgr, hg'⟩
    exact ⟨rfl, Kept.of_grown hgr hg (by simp) h.ge, MasterAt.wrote h.ge hok hg hq hgr hg' rfl⟩
  · rename_i hlt
    cases hF
    refine (missed_yes w g _ _ _ _ _ _ _ _ v h.ok.m0 hlt h.ok.m1 h.ok.t1 h.ok.n0 h.ok.n1 hg).mono ?_
    rintro e w' ⟨rfl, hgr, hg'⟩
    exact ⟨rfl, Kept.of_grown hgr hg (by simp) h.ge, ⟨h.ge, hok, _, hg', QueueAt.nil _ _⟩⟩
end Go.Proofs.Ytdgbmiobfehpdaa
