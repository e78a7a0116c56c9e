/- lamplightlaw07.frame: a step's frame, as it is heard by a master. -/
import Derived.Test.YtdgbmiobfehpdaaCl
set_option linter.unusedVariables false
set_option linter.unusedSimpArgs false
namespace Go.Proofs.Ytdgbmiobfehpdaa
open Go.RowKit

theorem resFm (tmps : Array Value) (W : World) (b : Nat) (c0 c1 c2 c3 c4 c5 : Value) (h2 : tmps.getD 6 undef = .pointer (some ⟨b, 0, none⟩))
    (hb : W.heap[b]? = some (.cells #[c0, c1, c2, c3, c4, c5] 30 (0, 0))) :
    (results Try.f17 tmps).run Try.prog W = .ok (.agg #[c0, c1, c2, c3, c4, c5]) W := by
  obtain ⟨a0, a1, a2, a3, a4, a5⟩ := blk6 hb
  simp only [Array.getD_eq_getD_getElem?] at h2
  simp [results, Try.results17, go_sem, h2, a0, a1, a2, a3, a4, a5]

set_option maxHeartbeats 2000000 in
theorem frame_not (w : World) (g : Nat) (kd fa fk fs fq fc a : Int) (A : Option Addr) (n cp m : Nat) (hncp : n ≤ cp) (hcpm : cp ≤ 9223372036854775807) (hm : m ≤ n)
    (hmin : (if (40 : Int) < (n : Int) then (40 : Int) else (n : Int)) = (m : Int)) :
    Calls Try.prog 17 #[.agg #[.int .i64 kd, .int .u8 fa, .int .u8 fk, .int .u8 fs, .int .u8 fq, .int .u8 fc, .slice A n cp, .bool false], .pointer (some ⟨g, 0, none⟩), .int .u8 a] w fun e w' =>
      e = .returned (.agg #[.int .u8 fa, .int .u8 fk, .int .u8 fs, .int .u8 fq, .int .u8 fc, .slice A m cp]) ∧ Below w.heap.size w w' := by
  go_enter Try.func17, Try.ntmps17
  go_wp2
  refine bodyPost_ret (v := .agg #[.int .u8 fa, .int .u8 fk, .int .u8 fs, .int .u8 fq, .int .u8 fc, .slice A m cp]) (by simp [results, Try.results17, go_sem]) rfl ⟨rfl, ?_⟩
  go_grown

set_option maxHeartbeats 2000000 in
theorem frame_own (w : World) (B g : Nat) (M : MS) (hM : MasterAt w B g M) (kd fa fk fs fq fc a : Int) (A : Option Addr) (n cp m : Nat) (hncp : n ≤ cp) (hcpm : cp ≤ 9223372036854775807) (hm : m ≤ n)
    (hmin : (if (40 : Int) < (n : Int) then (40 : Int) else (n : Int)) = (m : Int)) :
    Calls Try.prog 17 #[.agg #[.int .i64 kd, .int .u8 fa, .int .u8 fk, .int .u8 fs, .int .u8 fq, .int .u8 fc, .slice A n cp, .bool true], .pointer (some ⟨g, 0, none⟩), .int .u8 a] w fun e w' =>
      e = .returned (.agg #[.int .u8 a, .int .u8 fk, .int .u8 M.num, .int .u8 fq, .int .u8 fc, .slice A m cp]) ∧ Below w.heap.size w w' := by
  have HM := Lib.hid hM
  have hns : M.nextF.sess = M.num := by unfold MS.nextF; split; rfl; split <;> rfl
  clear hM
  have kf2 := fieldFrame2
  go_enter Try.func17, Try.ntmps17
  go_wp2_with fail
  refine (master_next _ B g M (HM.out.below (by go_grown))).mono ?_
  rintro e w1 ⟨v1, rfl, ho, hb⟩
  obtain ⟨A1, c1, rfl⟩ := own_slice ho
  rw [hns]
  have hF0 : ∀ (o0 o1 o2 : Obj), Below w.heap.size w (((w.alloc o0).alloc o1).alloc o2) := fun o0 o1 o2 => by go_grown
  have HB : Hid (Below w.heap.size w w1) := (hF0 _ _ _).trans (hb.mono (by simp; omega))
  have hx := blk_below' (blk_new' _ (.cells #[.int .u8 fa, .int .u8 fk, .int .u8 fs, .int .u8 fq, .int .u8 fc, .slice A m cp] 30) (w.heap.size + 2) (by simp)) hb
  have hy := blk_below' (blk_alloc (blk_new' _ (.cells #[.int .u8 0, .int .u8 0, .int .u8 0, .int .u8 0, .int .u8 0, .slice none 0 0] 30) (w.heap.size + 1) (by simp)) _) hb
  obtain ⟨x0, x1, x2, x3, x4, x5⟩ := blk6 hx
  obtain ⟨f0, f1, f2, f3, f4, f5⟩ := frz6 hx
  obtain ⟨y0, y1, y2, y3, y4, y5⟩ := blk6 hy
  obtain ⟨z0, z1, z2, z3, z4, z5⟩ := frz6 hy
  have HX := Lib.hid hx
  have HY := Lib.hid hy
  clear hb ho hx hy hF0
  go_wp2
  have hY1 := blk_set (blk_set (blk_set (blk_set (blk_set (blk_set (blk_far (blk_far HY.out (p := ⟨w.heap.size + 2, 2, none⟩) (by simp) (.int .u8 M.num)) (p := ⟨w.heap.size + 2, 0, none⟩) (by simp) (.int .u8 a)) 0 (.int .u8 a)) 1 (.int .u8 fk)) 2 (.int .u8 M.num)) 3 (.int .u8 fq)) 4 (.int .u8 fc)) 5 (.slice A m cp)
  simp only [List.setIfInBounds_toArray, List.set_cons_zero, List.set_cons_succ] at hY1
  refine bodyPost_ret (resFm _ _ (w.heap.size + 1) (.int .u8 a) (.int .u8 fk) (.int .u8 M.num) (.int .u8 fq) (.int .u8 fc) (.slice A m cp) rfl hY1) rfl ⟨rfl, ?_⟩
  repeat' (first | (with_reducible exact HB.out) | (with_reducible refine Below.setCell ?_ ?_ _) | (simp; done) | (simp; omega))

/-- A step's frame: its session and address are the master's, if it is its own. -/
theorem frame_any (w : World) (B g : Nat) (M : MS) (hM : MasterAt w B g M) (kd fa fk fs fq fc a : Int) (A : Option Addr) (n cp m : Nat) (own : Bool) (hncp : n ≤ cp) (hcpm : cp ≤ 9223372036854775807) (hm : m ≤ n)
    (hmin : (if (40 : Int) < (n : Int) then (40 : Int) else (n : Int)) = (m : Int)) (hfs : 0 ≤ fs ∧ fs ≤ 255) :
    Calls Try.prog 17 #[.agg #[.int .i64 kd, .int .u8 fa, .int .u8 fk, .int .u8 fs, .int .u8 fq, .int .u8 fc, .slice A n cp, .bool own], .pointer (some ⟨g, 0, none⟩), .int .u8 a] w fun e w' =>
      ∃ fa' fs', e = .returned (.agg #[.int .u8 fa', .int .u8 fk, .int .u8 fs', .int .u8 fq, .int .u8 fc, .slice A m cp]) ∧ Below w.heap.size w w' ∧ 0 ≤ fs' ∧ fs' ≤ 255 := by
  cases own
  · refine (frame_not w g kd fa fk fs fq fc a A n cp m hncp hcpm hm hmin).mono ?_
    rintro e w' ⟨rfl, hb⟩
    exact ⟨fa, fs, rfl, hb, hfs⟩
  · refine (frame_own w B g M hM kd fa fk fs fq fc a A n cp m hncp hcpm hm hmin).mono ?_
    rintro e w' ⟨rfl, hb⟩
    have h1 := hM.ok.n0
    have h2 := hM.ok.n1
    exact ⟨a, M.num, rfl, hb, by omega, by omega⟩
end Go.Proofs.Ytdgbmiobfehpdaa
