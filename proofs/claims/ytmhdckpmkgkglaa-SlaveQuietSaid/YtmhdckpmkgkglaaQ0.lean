/- The reference's Take: a frame that is not for it. Written by gen_rtake.py. -/
import Derived.Test.YtmhdckpmkgkglaaRf
set_option linter.unusedVariables false
set_option linter.unusedSimpArgs false
namespace Go.Proofs.Ytmhdckpmkgkglaa
open Go.RowKit

theorem TW.setFar {w w1 : World} {g tg tf : Nat} {gc fc ac : Array Value} (h : TW w w1 g tg tf gc fc ac) (p i : Nat) (u : Value) (hp : w.heap.size + 1 < p) (hg : ¬ p = g) : TW w (w1.setCell ⟨p, i, none⟩ u) g tg tf gc fc ac :=
  ⟨h.lt, blk_far h.hg (fun e => hg e.symm) u, blk_far h.hF (by simp; omega) u, blk_far h.hA (by simp; omega) u, grown_set_far h.gr (by simp; omega) u⟩

theorem res18 (tmps : Array Value) (W : World) (b : Nat) (c0 c1 c2 c3 c4 c5 v1 v2 : Value) (h4 : tmps.getD 4 undef = .pointer (some ⟨b, 0, none⟩)) (h5 : tmps.getD 5 undef = v1) (h6 : tmps.getD 6 undef = v2)
    (hb : W.heap[b]? = some (.cells #[c0, c1, c2, c3, c4, c5] 46 (0, 0))) :
    (results Try.f18 tmps).run Try.prog W = .ok (.tuple #[.agg #[c0, c1, c2, c3, c4, c5], v1, v2]) W := by
  obtain ⟨a0, a1, a2, a3, a4, a5⟩ := blk6 hb
  simp only [Array.getD_eq_getD_getElem?] at h4 h5 h6
  simp [results, Try.results18, go_sem, h4, h5, h6, a0, a1, a2, a3, a4, a5]

set_option maxHeartbeats 4000000 in
set_option maxRecDepth 100000 in
theorem rtake_no1 (w : World) (g : Nat) (a n t x fa fk fs fq fc : Int) (l fb : List UInt8)
    (h : w.heap[g]? = some (.cells #[.int .u8 a, .int .u8 n, .int .u8 t, .int .u8 x, .string ⟨l.toArray⟩] 51 (0, 0))) (hno : fa ≠ a) :
    Calls Try.prog 18 #[.pointer (some ⟨g, 0, none⟩), .agg #[.int .u8 fa, .int .u8 fk, .int .u8 fs, .int .u8 fq, .int .u8 fc, .string ⟨fb.toArray⟩]] w fun e w' =>
      e = .returned (.tuple #[.agg #[.int .u8 0, .int .u8 0, .int .u8 0, .int .u8 0, .int .u8 0, .string ⟨#[]⟩], .string ⟨#[]⟩, .bool false]) ∧ w.grownBy w' (some g) ∧ w'.heap[g]? = some (.cells #[.int .u8 a, .int .u8 n, .int .u8 t, .int .u8 x, .string ⟨l.toArray⟩] 51 (0, 0)) := by
  have e1 : (fa != a) = true := by simpa using hno
  clear hno
  have T := TW.start h 46 #[.int .u8 fa, .int .u8 fk, .int .u8 fs, .int .u8 fq, .int .u8 fc, .string ⟨fb.toArray⟩] #[.int .u8 0, .int .u8 0, .int .u8 0, .int .u8 0, .int .u8 0, .string ⟨#[]⟩]
  have HT := Lib.hid T
  obtain ⟨h0, h1, h2, h3, h4⟩ := blk5 h
  have hlt := blk_lt h
  have hne0 : ¬ w.heap.size = g := by omega
  have hne1 : ¬ w.heap.size + 1 = g := by omega
  clear h T
  go_enter Try.func18, Try.ntmps18
  go_wp2_with fail
  go_quiet (fail)
  have T := HT.out.drewN nq
  generalize hW1 : World.drewN _ _ = W1 at T ⊢
  clear hW1 HT h0 h1 h2 h3 h4
  obtain ⟨h0, h1, h2, h3, h4⟩ := blk5 T.hg
  obtain ⟨f0, f1, f2, f3, f4⟩ := frz5 T.hg
  obtain ⟨a0, a1, a2, a3, a4, a5⟩ := blk6 T.hA
  obtain ⟨b0, b1, b2, b3, b4, b5⟩ := frz6 T.hA
  obtain ⟨c0, c1, c2, c3, c4, c5⟩ := blk6 T.hF
  have hz := T.size
  have HT := Lib.hid T
  clear T
  go_wp2
  have TF := ((((((HT.out.setA 0 (.int .u8 0)).setA 1 (.int .u8 0)).setA 2 (.int .u8 0)).setA 3 (.int .u8 0)).setA 4 (.int .u8 0)).setA 5 (.string ⟨#[]⟩))
  simp only [List.setIfInBounds_toArray, List.set_cons_zero, List.set_cons_succ] at TF
  exact bodyPost_ret (res18 _ _ (w.heap.size + 1) (.int .u8 0) (.int .u8 0) (.int .u8 0) (.int .u8 0) (.int .u8 0) (.string ⟨#[]⟩) (.string ⟨#[]⟩) (.bool false) rfl rfl rfl TF.hA) rfl ⟨rfl, TF.gr, TF.hg⟩

set_option maxHeartbeats 4000000 in
set_option maxRecDepth 100000 in
theorem rtake_no2 (w : World) (g : Nat) (a n t x fa fk fs fq fc : Int) (l fb : List UInt8)
    (h : w.heap[g]? = some (.cells #[.int .u8 a, .int .u8 n, .int .u8 t, .int .u8 x, .string ⟨l.toArray⟩] 51 (0, 0))) (hno : fa = a) (hk : fk < 1) :
    Calls Try.prog 18 #[.pointer (some ⟨g, 0, none⟩), .agg #[.int .u8 fa, .int .u8 fk, .int .u8 fs, .int .u8 fq, .int .u8 fc, .string ⟨fb.toArray⟩]] w fun e w' =>
      e = .returned (.tuple #[.agg #[.int .u8 0, .int .u8 0, .int .u8 0, .int .u8 0, .int .u8 0, .string ⟨#[]⟩], .string ⟨#[]⟩, .bool false]) ∧ w.grownBy w' (some g) ∧ w'.heap[g]? = some (.cells #[.int .u8 a, .int .u8 n, .int .u8 t, .int .u8 x, .string ⟨l.toArray⟩] 51 (0, 0)) := by
  have e1 : (fa != a) = false := by simp [hno]
  have e2 : decide (fk < 1) = true := by simpa using hk
  clear hno
  have T := TW.start h 46 #[.int .u8 fa, .int .u8 fk, .int .u8 fs, .int .u8 fq, .int .u8 fc, .string ⟨fb.toArray⟩] #[.int .u8 0, .int .u8 0, .int .u8 0, .int .u8 0, .int .u8 0, .string ⟨#[]⟩]
  have HT := Lib.hid T
  obtain ⟨h0, h1, h2, h3, h4⟩ := blk5 h
  have hlt := blk_lt h
  have hne0 : ¬ w.heap.size = g := by omega
  have hne1 : ¬ w.heap.size + 1 = g := by omega
  clear h T
  go_enter Try.func18, Try.ntmps18
  go_wp2_with fail
  go_quiet (fail)
  have T := HT.out.drewN nq
  generalize hW1 : World.drewN _ _ = W1 at T ⊢
  clear hW1 HT h0 h1 h2 h3 h4
  obtain ⟨h0, h1, h2, h3, h4⟩ := blk5 T.hg
  obtain ⟨f0, f1, f2, f3, f4⟩ := frz5 T.hg
  obtain ⟨a0, a1, a2, a3, a4, a5⟩ := blk6 T.hA
  obtain ⟨b0, b1, b2, b3, b4, b5⟩ := frz6 T.hA
  obtain ⟨c0, c1, c2, c3, c4, c5⟩ := blk6 T.hF
  have hz := T.size
  have HT := Lib.hid T
  clear T
  go_wp2
  have TF := ((((((HT.out.setA 0 (.int .u8 0)).setA 1 (.int .u8 0)).setA 2 (.int .u8 0)).setA 3 (.int .u8 0)).setA 4 (.int .u8 0)).setA 5 (.string ⟨#[]⟩))
  simp only [List.setIfInBounds_toArray, List.set_cons_zero, List.set_cons_succ] at TF
  exact bodyPost_ret (res18 _ _ (w.heap.size + 1) (.int .u8 0) (.int .u8 0) (.int .u8 0) (.int .u8 0) (.int .u8 0) (.string ⟨#[]⟩) (.string ⟨#[]⟩) (.bool false) rfl rfl rfl TF.hA) rfl ⟨rfl, TF.gr, TF.hg⟩

set_option maxHeartbeats 4000000 in
set_option maxRecDepth 100000 in
theorem rtake_no3 (w : World) (g : Nat) (a n t x fa fk fs fq fc : Int) (l fb : List UInt8)
    (h : w.heap[g]? = some (.cells #[.int .u8 a, .int .u8 n, .int .u8 t, .int .u8 x, .string ⟨l.toArray⟩] 51 (0, 0))) (hno : fa = a) (hk : 3 < fk) :
    Calls Try.prog 18 #[.pointer (some ⟨g, 0, none⟩), .agg #[.int .u8 fa, .int .u8 fk, .int .u8 fs, .int .u8 fq, .int .u8 fc, .string ⟨fb.toArray⟩]] w fun e w' =>
      e = .returned (.tuple #[.agg #[.int .u8 0, .int .u8 0, .int .u8 0, .int .u8 0, .int .u8 0, .string ⟨#[]⟩], .string ⟨#[]⟩, .bool false]) ∧ w.grownBy w' (some g) ∧ w'.heap[g]? = some (.cells #[.int .u8 a, .int .u8 n, .int .u8 t, .int .u8 x, .string ⟨l.toArray⟩] 51 (0, 0)) := by
  have e1 : (fa != a) = false := by simp [hno]
  have e2 : decide (fk < 1) = false := by simp; omega
  have e3 : decide (3 < fk) = true := by simpa using hk
  clear hno
  have T := TW.start h 46 #[.int .u8 fa, .int .u8 fk, .int .u8 fs, .int .u8 fq, .int .u8 fc, .string ⟨fb.toArray⟩] #[.int .u8 0, .int .u8 0, .int .u8 0, .int .u8 0, .int .u8 0, .string ⟨#[]⟩]
  have HT := Lib.hid T
  obtain ⟨h0, h1, h2, h3, h4⟩ := blk5 h
  have hlt := blk_lt h
  have hne0 : ¬ w.heap.size = g := by omega
  have hne1 : ¬ w.heap.size + 1 = g := by omega
  clear h T
  go_enter Try.func18, Try.ntmps18
  go_wp2_with fail
  go_quiet (fail)
  have T := HT.out.drewN nq
  generalize hW1 : World.drewN _ _ = W1 at T ⊢
  clear hW1 HT h0 h1 h2 h3 h4
  obtain ⟨h0, h1, h2, h3, h4⟩ := blk5 T.hg
  obtain ⟨f0, f1, f2, f3, f4⟩ := frz5 T.hg
  obtain ⟨a0, a1, a2, a3, a4, a5⟩ := blk6 T.hA
  obtain ⟨b0, b1, b2, b3, b4, b5⟩ := frz6 T.hA
  obtain ⟨c0, c1, c2, c3, c4, c5⟩ := blk6 T.hF
  have hz := T.size
  have HT := Lib.hid T
  clear T
  go_wp2
  have TF := ((((((HT.out.setA 0 (.int .u8 0)).setA 1 (.int .u8 0)).setA 2 (.int .u8 0)).setA 3 (.int .u8 0)).setA 4 (.int .u8 0)).setA 5 (.string ⟨#[]⟩))
  simp only [List.setIfInBounds_toArray, List.set_cons_zero, List.set_cons_succ] at TF
  exact bodyPost_ret (res18 _ _ (w.heap.size + 1) (.int .u8 0) (.int .u8 0) (.int .u8 0) (.int .u8 0) (.int .u8 0) (.string ⟨#[]⟩) (.string ⟨#[]⟩) (.bool false) rfl rfl rfl TF.hA) rfl ⟨rfl, TF.gr, TF.hg⟩
end Go.Proofs.Ytmhdckpmkgkglaa
