/- The reference's Take: a frame that opens; one of another session. Written by gen_rtake.py. -/
import Derived.Test.YtmhdckpmkgkglaaQ0
set_option linter.unusedVariables false
set_option linter.unusedSimpArgs false
namespace Go.Proofs.Ytmhdckpmkgkglaa
open Go.RowKit

set_option maxHeartbeats 4000000 in
set_option maxRecDepth 100000 in
theorem rtake_open (w : World) (g : Nat) (a n t x fa fk fs fq fc : Int) (l fb : List UInt8)
    (h : w.heap[g]? = some (.cells #[.int .u8 a, .int .u8 n, .int .u8 t, .int .u8 x, .string ⟨l.toArray⟩] 51 (0, 0))) (hfa : fa = a) (hk : fk = 1) :
    Calls Try.prog 18 #[.pointer (some ⟨g, 0, none⟩), .agg #[.int .u8 fa, .int .u8 fk, .int .u8 fs, .int .u8 fq, .int .u8 fc, .string ⟨fb.toArray⟩]] w fun e w' =>
      e = .returned (.tuple #[.agg #[.int .u8 a, .int .u8 4, .int .u8 fs, .int .u8 0, .int .u8 0, .string ⟨#[]⟩], .string ⟨#[]⟩, .bool true]) ∧ w.grownBy w' (some g) ∧ w'.heap[g]? = some (.cells #[.int .u8 a, .int .u8 fs, .int .u8 0, .int .u8 0, .string ⟨l.toArray⟩] 51 (0, 0)) := by
  subst hfa; subst hk
  have e1 : (fa != fa) = false := by simp
  have T := TW.start h 46 #[.int .u8 fa, .int .u8 1, .int .u8 fs, .int .u8 fq, .int .u8 fc, .string ⟨fb.toArray⟩] #[.int .u8 0, .int .u8 0, .int .u8 0, .int .u8 0, .int .u8 0, .string ⟨#[]⟩]
  have HT := Lib.hid T
  obtain ⟨h0, h1, h2, h3, h4⟩ := blk5 h
  have hlt := blk_lt h
  have hne0 : ¬ w.heap.size = g := by omega
  have hne1 : ¬ w.heap.size + 1 = g := by omega
  clear h T
  go_enter Try.func18, Try.ntmps18
  go_wp2_with fail
  go_quiet (fail)
  have T := HT.out.drewN nq
  generalize hW1 : World.drewN _ _ = W1 at T ⊢
  clear hW1 HT h0 h1 h2 h3 h4
  obtain ⟨h0, h1, h2, h3, h4⟩ := blk5 T.hg
  obtain ⟨f0, f1, f2, f3, f4⟩ := frz5 T.hg
  obtain ⟨a0, a1, a2, a3, a4, a5⟩ := blk6 T.hA
  obtain ⟨b0, b1, b2, b3, b4, b5⟩ := frz6 T.hA
  obtain ⟨c0, c1, c2, c3, c4, c5⟩ := blk6 T.hF
  have hz := T.size
  have HT := Lib.hid T
  clear T
  go_wp2_with fail
  go_region_held3 (fun w' => w'.cell? ⟨g, 0, none⟩ = some (.int .u8 fa) ∧ w'.cell? ⟨g, 1, none⟩ = some (.int .u8 fs)) ((refine ⟨?_, ?_⟩ <;> (simp [go_sem, h0, h1, h2, h3, f0, f1, f2, f3, World.cell?_setCell_far, hne1, hne0]; done))) (fail)
  go_wp2
  have TF := (((((((((HT.out.setG 1 (.int .u8 fs)).setG 2 (.int .u8 0)).setG 3 (.int .u8 0)).setA 0 (.int .u8 fa)).setA 1 (.int .u8 4)).setA 2 (.int .u8 fs)).setA 3 (.int .u8 0)).setA 4 (.int .u8 0)).setA 5 (.string ⟨#[]⟩)).drew
  simp only [List.setIfInBounds_toArray, List.set_cons_zero, List.set_cons_succ] at TF
  exact bodyPost_ret (res18 _ _ (w.heap.size + 1) (.int .u8 fa) (.int .u8 4) (.int .u8 fs) (.int .u8 0) (.int .u8 0) (.string ⟨#[]⟩) (.string ⟨#[]⟩) (.bool true) rfl rfl rfl TF.hA) rfl ⟨rfl, TF.gr, TF.hg⟩

set_option maxHeartbeats 4000000 in
set_option maxRecDepth 100000 in
theorem rtake_oth2a (w : World) (g : Nat) (a n t x fa fk fs fq fc : Int) (l fb : List UInt8)
    (h : w.heap[g]? = some (.cells #[.int .u8 a, .int .u8 n, .int .u8 t, .int .u8 x, .string ⟨l.toArray⟩] 51 (0, 0))) (hfa : fa = a) (hk : fk = 2) (hs : fs ≠ n) :
    Calls Try.prog 18 #[.pointer (some ⟨g, 0, none⟩), .agg #[.int .u8 fa, .int .u8 fk, .int .u8 fs, .int .u8 fq, .int .u8 fc, .string ⟨fb.toArray⟩]] w fun e w' =>
      e = .returned (.tuple #[.agg #[.int .u8 a, .int .u8 5, .int .u8 n, .int .u8 0, .int .u8 0, .string ⟨#[]⟩], .string ⟨#[]⟩, .bool true]) ∧ w.grownBy w' (some g) ∧ w'.heap[g]? = some (.cells #[.int .u8 a, .int .u8 n, .int .u8 t, .int .u8 x, .string ⟨l.toArray⟩] 51 (0, 0)) := by
  subst hfa; subst hk
  have e1 : (fa != fa) = false := by simp
  have e2 : (fs != n) = true := by simpa using hs
  clear hs
  have T := TW.start h 46 #[.int .u8 fa, .int .u8 2, .int .u8 fs, .int .u8 fq, .int .u8 fc, .string ⟨fb.toArray⟩] #[.int .u8 0, .int .u8 0, .int .u8 0, .int .u8 0, .int .u8 0, .string ⟨#[]⟩]
  have HT := Lib.hid T
  obtain ⟨h0, h1, h2, h3, h4⟩ := blk5 h
  have hlt := blk_lt h
  have hne0 : ¬ w.heap.size = g := by omega
  have hne1 : ¬ w.heap.size + 1 = g := by omega
  clear h T
  go_enter Try.func18, Try.ntmps18
  go_wp2_with fail
  go_quiet (fail)
  have T := HT.out.drewN nq
  generalize hW1 : World.drewN _ _ = W1 at T ⊢
  clear hW1 HT h0 h1 h2 h3 h4
  obtain ⟨h0, h1, h2, h3, h4⟩ := blk5 T.hg
  obtain ⟨f0, f1, f2, f3, f4⟩ := frz5 T.hg
  obtain ⟨a0, a1, a2, a3, a4, a5⟩ := blk6 T.hA
  obtain ⟨b0, b1, b2, b3, b4, b5⟩ := frz6 T.hA
  obtain ⟨c0, c1, c2, c3, c4, c5⟩ := blk6 T.hF
  have hz := T.size
  have HT := Lib.hid T
  clear T
  go_wp2_with fail
  go_region_held3 (fun w' => w'.cell? ⟨g, 0, none⟩ = some (.int .u8 fa) ∧ w'.cell? ⟨g, 1, none⟩ = some (.int .u8 n)) (go_keep) (fail)
  obtain ⟨nb, hnb⟩ : ∃ nb, nb = W1.heap.size := ⟨_, rfl⟩
  have T := (HT.out.below ((Below.refl _ _).alloc (Nat.le_refl _) (.cells #[.int .u8 fa, .int .u8 5, .int .u8 n, .int .u8 0, .int .u8 0, .string ⟨#[]⟩] 46))).drew
  have HN := blk_drewN' (blk_new' W1 (.cells #[.int .u8 fa, .int .u8 5, .int .u8 n, .int .u8 0, .int .u8 0, .string ⟨#[]⟩] 46) nb hnb)
  have hn1 : w.heap.size + 1 < nb := by omega
  have hng : ¬ nb = g := by omega
  rw [← hnb]
  generalize hW2 : World.drew _ = W2 at T HN ⊢
  clear hW2 HT hnb hne0 hne1
  clear h0 h1 h2 h3 h4 f0 f1 f2 f3 f4 a0 a1 a2 a3 a4 a5 b0 b1 b2 b3 b4 b5 c0 c1 c2 c3 c4 c5 hz
  obtain ⟨h0, h1, h2, h3, h4⟩ := blk5 T.hg
  obtain ⟨f0, f1, f2, f3, f4⟩ := frz5 T.hg
  obtain ⟨a0, a1, a2, a3, a4, a5⟩ := blk6 T.hA
  obtain ⟨b0, b1, b2, b3, b4, b5⟩ := frz6 T.hA
  obtain ⟨c0, c1, c2, c3, c4, c5⟩ := blk6 T.hF
  have hz := T.size
  have HT := Lib.hid T
  clear T
  obtain ⟨n0, n1, n2, n3, n4, n5⟩ := blk6 HN
  obtain ⟨m0, m1, m2, m3, m4, m5⟩ := frz6 HN
  have hzn := blk_lt HN
  have HHN := Lib.hid HN
  clear HN
  have hne0 : ¬ w.heap.size = g := by omega
  have hne1 : ¬ w.heap.size + 1 = g := by omega
  go_wp2_with fail
  go_quiet (fail)
  have T := HT.out.drewN nq
  have HN := blk_drewN HHN.out nq
  generalize hW3 : World.drewN _ _ = W3 at T HN ⊢
  clear hW3 HT HHN
  clear h0 h1 h2 h3 h4 f0 f1 f2 f3 f4 a0 a1 a2 a3 a4 a5 b0 b1 b2 b3 b4 b5 c0 c1 c2 c3 c4 c5 hz
  clear n0 n1 n2 n3 n4 n5 m0 m1 m2 m3 m4 m5 hzn
  obtain ⟨h0, h1, h2, h3, h4⟩ := blk5 T.hg
  obtain ⟨f0, f1, f2, f3, f4⟩ := frz5 T.hg
  obtain ⟨a0, a1, a2, a3, a4, a5⟩ := blk6 T.hA
  obtain ⟨b0, b1, b2, b3, b4, b5⟩ := frz6 T.hA
  obtain ⟨c0, c1, c2, c3, c4, c5⟩ := blk6 T.hF
  have hz := T.size
  have HT := Lib.hid T
  clear T
  obtain ⟨n0, n1, n2, n3, n4, n5⟩ := blk6 HN
  obtain ⟨m0, m1, m2, m3, m4, m5⟩ := frz6 HN
  have hzn := blk_lt HN
  have HHN := Lib.hid HN
  clear HN
  go_wp2
  have TF := ((((((HT.out.setA 0 (.int .u8 fa)).setA 1 (.int .u8 5)).setA 2 (.int .u8 n)).setA 3 (.int .u8 0)).setA 4 (.int .u8 0)).setA 5 (.string ⟨#[]⟩))
  simp only [List.setIfInBounds_toArray, List.set_cons_zero, List.set_cons_succ] at TF
  exact bodyPost_ret (res18 _ _ (w.heap.size + 1) (.int .u8 fa) (.int .u8 5) (.int .u8 n) (.int .u8 0) (.int .u8 0) (.string ⟨#[]⟩) (.string ⟨#[]⟩) (.bool true) rfl rfl rfl TF.hA) rfl ⟨rfl, TF.gr, TF.hg⟩

set_option maxHeartbeats 4000000 in
set_option maxRecDepth 100000 in
theorem rtake_oth2b (w : World) (g : Nat) (a n t x fa fk fs fq fc : Int) (l fb : List UInt8)
    (h : w.heap[g]? = some (.cells #[.int .u8 a, .int .u8 n, .int .u8 t, .int .u8 x, .string ⟨l.toArray⟩] 51 (0, 0))) (hfa : fa = a) (hk : fk = 2) (hs : fs = n) (hn : n = 0) :
    Calls Try.prog 18 #[.pointer (some ⟨g, 0, none⟩), .agg #[.int .u8 fa, .int .u8 fk, .int .u8 fs, .int .u8 fq, .int .u8 fc, .string ⟨fb.toArray⟩]] w fun e w' =>
      e = .returned (.tuple #[.agg #[.int .u8 a, .int .u8 5, .int .u8 n, .int .u8 0, .int .u8 0, .string ⟨#[]⟩], .string ⟨#[]⟩, .bool true]) ∧ w.grownBy w' (some g) ∧ w'.heap[g]? = some (.cells #[.int .u8 a, .int .u8 n, .int .u8 t, .int .u8 x, .string ⟨l.toArray⟩] 51 (0, 0)) := by
  subst hfa; subst hk
  have e1 : (fa != fa) = false := by simp
  have e2 : (fs != n) = false := by simp [hs]
  have e3 : (n == 0) = true := by simp [hn]
  clear hs hn
  have T := TW.start h 46 #[.int .u8 fa, .int .u8 2, .int .u8 fs, .int .u8 fq, .int .u8 fc, .string ⟨fb.toArray⟩] #[.int .u8 0, .int .u8 0, .int .u8 0, .int .u8 0, .int .u8 0, .string ⟨#[]⟩]
  have HT := Lib.hid T
  obtain ⟨h0, h1, h2, h3, h4⟩ := blk5 h
  have hlt := blk_lt h
  have hne0 : ¬ w.heap.size = g := by omega
  have hne1 : ¬ w.heap.size + 1 = g := by omega
  clear h T
  go_enter Try.func18, Try.ntmps18
  go_wp2_with fail
  go_quiet (fail)
  have T := HT.out.drewN nq
  generalize hW1 : World.drewN _ _ = W1 at T ⊢
  clear hW1 HT h0 h1 h2 h3 h4
  obtain ⟨h0, h1, h2, h3, h4⟩ := blk5 T.hg
  obtain ⟨f0, f1, f2, f3, f4⟩ := frz5 T.hg
  obtain ⟨a0, a1, a2, a3, a4, a5⟩ := blk6 T.hA
  obtain ⟨b0, b1, b2, b3, b4, b5⟩ := frz6 T.hA
  obtain ⟨c0, c1, c2, c3, c4, c5⟩ := blk6 T.hF
  have hz := T.size
  have HT := Lib.hid T
  clear T
  go_wp2_with fail
  go_region_held3 (fun w' => w'.cell? ⟨g, 0, none⟩ = some (.int .u8 fa) ∧ w'.cell? ⟨g, 1, none⟩ = some (.int .u8 n)) (go_keep) (fail)
  obtain ⟨nb, hnb⟩ : ∃ nb, nb = W1.heap.size := ⟨_, rfl⟩
  have T := (HT.out.below ((Below.refl _ _).alloc (Nat.le_refl _) (.cells #[.int .u8 fa, .int .u8 5, .int .u8 n, .int .u8 0, .int .u8 0, .string ⟨#[]⟩] 46))).drew
  have HN := blk_drewN' (blk_new' W1 (.cells #[.int .u8 fa, .int .u8 5, .int .u8 n, .int .u8 0, .int .u8 0, .string ⟨#[]⟩] 46) nb hnb)
  have hn1 : w.heap.size + 1 < nb := by omega
  have hng : ¬ nb = g := by omega
  rw [← hnb]
  generalize hW2 : World.drew _ = W2 at T HN ⊢
  clear hW2 HT hnb hne0 hne1
  clear h0 h1 h2 h3 h4 f0 f1 f2 f3 f4 a0 a1 a2 a3 a4 a5 b0 b1 b2 b3 b4 b5 c0 c1 c2 c3 c4 c5 hz
  obtain ⟨h0, h1, h2, h3, h4⟩ := blk5 T.hg
  obtain ⟨f0, f1, f2, f3, f4⟩ := frz5 T.hg
  obtain ⟨a0, a1, a2, a3, a4, a5⟩ := blk6 T.hA
  obtain ⟨b0, b1, b2, b3, b4, b5⟩ := frz6 T.hA
  obtain ⟨c0, c1, c2, c3, c4, c5⟩ := blk6 T.hF
  have hz := T.size
  have HT := Lib.hid T
  clear T
  obtain ⟨n0, n1, n2, n3, n4, n5⟩ := blk6 HN
  obtain ⟨m0, m1, m2, m3, m4, m5⟩ := frz6 HN
  have hzn := blk_lt HN
  have HHN := Lib.hid HN
  clear HN
  have hne0 : ¬ w.heap.size = g := by omega
  have hne1 : ¬ w.heap.size + 1 = g := by omega
  go_wp2_with fail
  go_quiet (fail)
  have T := HT.out.drewN nq
  have HN := blk_drewN HHN.out nq
  generalize hW3 : World.drewN _ _ = W3 at T HN ⊢
  clear hW3 HT HHN
  clear h0 h1 h2 h3 h4 f0 f1 f2 f3 f4 a0 a1 a2 a3 a4 a5 b0 b1 b2 b3 b4 b5 c0 c1 c2 c3 c4 c5 hz
  clear n0 n1 n2 n3 n4 n5 m0 m1 m2 m3 m4 m5 hzn
  obtain ⟨h0, h1, h2, h3, h4⟩ := blk5 T.hg
  obtain ⟨f0, f1, f2, f3, f4⟩ := frz5 T.hg
  obtain ⟨a0, a1, a2, a3, a4, a5⟩ := blk6 T.hA
  obtain ⟨b0, b1, b2, b3, b4, b5⟩ := frz6 T.hA
  obtain ⟨c0, c1, c2, c3, c4, c5⟩ := blk6 T.hF
  have hz := T.size
  have HT := Lib.hid T
  clear T
  obtain ⟨n0, n1, n2, n3, n4, n5⟩ := blk6 HN
  obtain ⟨m0, m1, m2, m3, m4, m5⟩ := frz6 HN
  have hzn := blk_lt HN
  have HHN := Lib.hid HN
  clear HN
  go_wp2
  have TF := ((((((HT.out.setA 0 (.int .u8 fa)).setA 1 (.int .u8 5)).setA 2 (.int .u8 n)).setA 3 (.int .u8 0)).setA 4 (.int .u8 0)).setA 5 (.string ⟨#[]⟩))
  simp only [List.setIfInBounds_toArray, List.set_cons_zero, List.set_cons_succ] at TF
  exact bodyPost_ret (res18 _ _ (w.heap.size + 1) (.int .u8 fa) (.int .u8 5) (.int .u8 n) (.int .u8 0) (.int .u8 0) (.string ⟨#[]⟩) (.string ⟨#[]⟩) (.bool true) rfl rfl rfl TF.hA) rfl ⟨rfl, TF.gr, TF.hg⟩

set_option maxHeartbeats 4000000 in
set_option maxRecDepth 100000 in
theorem rtake_oth3a (w : World) (g : Nat) (a n t x fa fk fs fq fc : Int) (l fb : List UInt8)
    (h : w.heap[g]? = some (.cells #[.int .u8 a, .int .u8 n, .int .u8 t, .int .u8 x, .string ⟨l.toArray⟩] 51 (0, 0))) (hfa : fa = a) (hk : fk = 3) (hs : fs ≠ n) :
    Calls Try.prog 18 #[.pointer (some ⟨g, 0, none⟩), .agg #[.int .u8 fa, .int .u8 fk, .int .u8 fs, .int .u8 fq, .int .u8 fc, .string ⟨fb.toArray⟩]] w fun e w' =>
      e = .returned (.tuple #[.agg #[.int .u8 a, .int .u8 5, .int .u8 n, .int .u8 0, .int .u8 0, .string ⟨#[]⟩], .string ⟨#[]⟩, .bool true]) ∧ w.grownBy w' (some g) ∧ w'.heap[g]? = some (.cells #[.int .u8 a, .int .u8 n, .int .u8 t, .int .u8 x, .string ⟨l.toArray⟩] 51 (0, 0)) := by
  subst hfa; subst hk
  have e1 : (fa != fa) = false := by simp
  have e2 : (fs != n) = true := by simpa using hs
  clear hs
  have T := TW.start h 46 #[.int .u8 fa, .int .u8 3, .int .u8 fs, .int .u8 fq, .int .u8 fc, .string ⟨fb.toArray⟩] #[.int .u8 0, .int .u8 0, .int .u8 0, .int .u8 0, .int .u8 0, .string ⟨#[]⟩]
  have HT := Lib.hid T
  obtain ⟨h0, h1, h2, h3, h4⟩ := blk5 h
  have hlt := blk_lt h
  have hne0 : ¬ w.heap.size = g := by omega
  have hne1 : ¬ w.heap.size + 1 = g := by omega
  clear h T
  go_enter Try.func18, Try.ntmps18
  go_wp2_with fail
  go_quiet (fail)
  have T := HT.out.drewN nq
  generalize hW1 : World.drewN _ _ = W1 at T ⊢
  clear hW1 HT h0 h1 h2 h3 h4
  obtain ⟨h0, h1, h2, h3, h4⟩ := blk5 T.hg
  obtain ⟨f0, f1, f2, f3, f4⟩ := frz5 T.hg
  obtain ⟨a0, a1, a2, a3, a4, a5⟩ := blk6 T.hA
  obtain ⟨b0, b1, b2, b3, b4, b5⟩ := frz6 T.hA
  obtain ⟨c0, c1, c2, c3, c4, c5⟩ := blk6 T.hF
  have hz := T.size
  have HT := Lib.hid T
  clear T
  go_wp2_with fail
  go_region_held3 (fun w' => w'.cell? ⟨g, 0, none⟩ = some (.int .u8 fa) ∧ w'.cell? ⟨g, 1, none⟩ = some (.int .u8 n)) (go_keep) (fail)
  obtain ⟨nb, hnb⟩ : ∃ nb, nb = W1.heap.size := ⟨_, rfl⟩
  have T := (HT.out.below ((Below.refl _ _).alloc (Nat.le_refl _) (.cells #[.int .u8 fa, .int .u8 5, .int .u8 n, .int .u8 0, .int .u8 0, .string ⟨#[]⟩] 46))).drew
  have HN := blk_drewN' (blk_new' W1 (.cells #[.int .u8 fa, .int .u8 5, .int .u8 n, .int .u8 0, .int .u8 0, .string ⟨#[]⟩] 46) nb hnb)
  have hn1 : w.heap.size + 1 < nb := by omega
  have hng : ¬ nb = g := by omega
  rw [← hnb]
  generalize hW2 : World.drew _ = W2 at T HN ⊢
  clear hW2 HT hnb hne0 hne1
  clear h0 h1 h2 h3 h4 f0 f1 f2 f3 f4 a0 a1 a2 a3 a4 a5 b0 b1 b2 b3 b4 b5 c0 c1 c2 c3 c4 c5 hz
  obtain ⟨h0, h1, h2, h3, h4⟩ := blk5 T.hg
  obtain ⟨f0, f1, f2, f3, f4⟩ := frz5 T.hg
  obtain ⟨a0, a1, a2, a3, a4, a5⟩ := blk6 T.hA
  obtain ⟨b0, b1, b2, b3, b4, b5⟩ := frz6 T.hA
  obtain ⟨c0, c1, c2, c3, c4, c5⟩ := blk6 T.hF
  have hz := T.size
  have HT := Lib.hid T
  clear T
  obtain ⟨n0, n1, n2, n3, n4, n5⟩ := blk6 HN
  obtain ⟨m0, m1, m2, m3, m4, m5⟩ := frz6 HN
  have hzn := blk_lt HN
  have HHN := Lib.hid HN
  clear HN
  have hne0 : ¬ w.heap.size = g := by omega
  have hne1 : ¬ w.heap.size + 1 = g := by omega
  go_wp2_with fail
  go_quiet (fail)
  have T := HT.out.drewN nq
  have HN := blk_drewN HHN.out nq
  generalize hW3 : World.drewN _ _ = W3 at T HN ⊢
  clear hW3 HT HHN
  clear h0 h1 h2 h3 h4 f0 f1 f2 f3 f4 a0 a1 a2 a3 a4 a5 b0 b1 b2 b3 b4 b5 c0 c1 c2 c3 c4 c5 hz
  clear n0 n1 n2 n3 n4 n5 m0 m1 m2 m3 m4 m5 hzn
  obtain ⟨h0, h1, h2, h3, h4⟩ := blk5 T.hg
  obtain ⟨f0, f1, f2, f3, f4⟩ := frz5 T.hg
  obtain ⟨a0, a1, a2, a3, a4, a5⟩ := blk6 T.hA
  obtain ⟨b0, b1, b2, b3, b4, b5⟩ := frz6 T.hA
  obtain ⟨c0, c1, c2, c3, c4, c5⟩ := blk6 T.hF
  have hz := T.size
  have HT := Lib.hid T
  clear T
  obtain ⟨n0, n1, n2, n3, n4, n5⟩ := blk6 HN
  obtain ⟨m0, m1, m2, m3, m4, m5⟩ := frz6 HN
  have hzn := blk_lt HN
  have HHN := Lib.hid HN
  clear HN
  go_wp2
  have TF := ((((((HT.out.setA 0 (.int .u8 fa)).setA 1 (.int .u8 5)).setA 2 (.int .u8 n)).setA 3 (.int .u8 0)).setA 4 (.int .u8 0)).setA 5 (.string ⟨#[]⟩))
  simp only [List.setIfInBounds_toArray, List.set_cons_zero, List.set_cons_succ] at TF
  exact bodyPost_ret (res18 _ _ (w.heap.size + 1) (.int .u8 fa) (.int .u8 5) (.int .u8 n) (.int .u8 0) (.int .u8 0) (.string ⟨#[]⟩) (.string ⟨#[]⟩) (.bool true) rfl rfl rfl TF.hA) rfl ⟨rfl, TF.gr, TF.hg⟩

set_option maxHeartbeats 4000000 in
set_option maxRecDepth 100000 in
theorem rtake_oth3b (w : World) (g : Nat) (a n t x fa fk fs fq fc : Int) (l fb : List UInt8)
    (h : w.heap[g]? = some (.cells #[.int .u8 a, .int .u8 n, .int .u8 t, .int .u8 x, .string ⟨l.toArray⟩] 51 (0, 0))) (hfa : fa = a) (hk : fk = 3) (hs : fs = n) (hn : n = 0) :
    Calls Try.prog 18 #[.pointer (some ⟨g, 0, none⟩), .agg #[.int .u8 fa, .int .u8 fk, .int .u8 fs, .int .u8 fq, .int .u8 fc, .string ⟨fb.toArray⟩]] w fun e w' =>
      e = .returned (.tuple #[.agg #[.int .u8 a, .int .u8 5, .int .u8 n, .int .u8 0, .int .u8 0, .string ⟨#[]⟩], .string ⟨#[]⟩, .bool true]) ∧ w.grownBy w' (some g) ∧ w'.heap[g]? = some (.cells #[.int .u8 a, .int .u8 n, .int .u8 t, .int .u8 x, .string ⟨l.toArray⟩] 51 (0, 0)) := by
  subst hfa; subst hk
  have e1 : (fa != fa) = false := by simp
  have e2 : (fs != n) = false := by simp [hs]
  have e3 : (n == 0) = true := by simp [hn]
  clear hs hn
  have T := TW.start h 46 #[.int .u8 fa, .int .u8 3, .int .u8 fs, .int .u8 fq, .int .u8 fc, .string ⟨fb.toArray⟩] #[.int .u8 0, .int .u8 0, .int .u8 0, .int .u8 0, .int .u8 0, .string ⟨#[]⟩]
  have HT := Lib.hid T
  obtain ⟨h0, h1, h2, h3, h4⟩ := blk5 h
  have hlt := blk_lt h
  have hne0 : ¬ w.heap.size = g := by omega
  have hne1 : ¬ w.heap.size + 1 = g := by omega
  clear h T
  go_enter Try.func18, Try.ntmps18
  go_wp2_with fail
  go_quiet (fail)
  have T := HT.out.drewN nq
  generalize hW1 : World.drewN _ _ = W1 at T ⊢
  clear hW1 HT h0 h1 h2 h3 h4
  obtain ⟨h0, h1, h2, h3, h4⟩ := blk5 T.hg
  obtain ⟨f0, f1, f2, f3, f4⟩ := frz5 T.hg
  obtain ⟨a0, a1, a2, a3, a4, a5⟩ := blk6 T.hA
  obtain ⟨b0, b1, b2, b3, b4, b5⟩ := frz6 T.hA
  obtain ⟨c0, c1, c2, c3, c4, c5⟩ := blk6 T.hF
  have hz := T.size
  have HT := Lib.hid T
  clear T
  go_wp2_with fail
  go_region_held3 (fun w' => w'.cell? ⟨g, 0, none⟩ = some (.int .u8 fa) ∧ w'.cell? ⟨g, 1, none⟩ = some (.int .u8 n)) (go_keep) (fail)
  obtain ⟨nb, hnb⟩ : ∃ nb, nb = W1.heap.size := ⟨_, rfl⟩
  have T := (HT.out.below ((Below.refl _ _).alloc (Nat.le_refl _) (.cells #[.int .u8 fa, .int .u8 5, .int .u8 n, .int .u8 0, .int .u8 0, .string ⟨#[]⟩] 46))).drew
  have HN := blk_drewN' (blk_new' W1 (.cells #[.int .u8 fa, .int .u8 5, .int .u8 n, .int .u8 0, .int .u8 0, .string ⟨#[]⟩] 46) nb hnb)
  have hn1 : w.heap.size + 1 < nb := by omega
  have hng : ¬ nb = g := by omega
  rw [← hnb]
  generalize hW2 : World.drew _ = W2 at T HN ⊢
  clear hW2 HT hnb hne0 hne1
  clear h0 h1 h2 h3 h4 f0 f1 f2 f3 f4 a0 a1 a2 a3 a4 a5 b0 b1 b2 b3 b4 b5 c0 c1 c2 c3 c4 c5 hz
  obtain ⟨h0, h1, h2, h3, h4⟩ := blk5 T.hg
  obtain ⟨f0, f1, f2, f3, f4⟩ := frz5 T.hg
  obtain ⟨a0, a1, a2, a3, a4, a5⟩ := blk6 T.hA
  obtain ⟨b0, b1, b2, b3, b4, b5⟩ := frz6 T.hA
  obtain ⟨c0, c1, c2, c3, c4, c5⟩ := blk6 T.hF
  have hz := T.size
  have HT := Lib.hid T
  clear T
  obtain ⟨n0, n1, n2, n3, n4, n5⟩ := blk6 HN
  obtain ⟨m0, m1, m2, m3, m4, m5⟩ := frz6 HN
  have hzn := blk_lt HN
  have HHN := Lib.hid HN
  clear HN
  have hne0 : ¬ w.heap.size = g := by omega
  have hne1 : ¬ w.heap.size + 1 = g := by omega
  go_wp2_with fail
  go_quiet (fail)
  have T := HT.out.drewN nq
  have HN := blk_drewN HHN.out nq
  generalize hW3 : World.drewN _ _ = W3 at T HN ⊢
  clear hW3 HT HHN
  clear h0 h1 h2 h3 h4 f0 f1 f2 f3 f4 a0 a1 a2 a3 a4 a5 b0 b1 b2 b3 b4 b5 c0 c1 c2 c3 c4 c5 hz
  clear n0 n1 n2 n3 n4 n5 m0 m1 m2 m3 m4 m5 hzn
  obtain ⟨h0, h1, h2, h3, h4⟩ := blk5 T.hg
  obtain ⟨f0, f1, f2, f3, f4⟩ := frz5 T.hg
  obtain ⟨a0, a1, a2, a3, a4, a5⟩ := blk6 T.hA
  obtain ⟨b0, b1, b2, b3, b4, b5⟩ := frz6 T.hA
  obtain ⟨c0, c1, c2, c3, c4, c5⟩ := blk6 T.hF
  have hz := T.size
  have HT := Lib.hid T
  clear T
  obtain ⟨n0, n1, n2, n3, n4, n5⟩ := blk6 HN
  obtain ⟨m0, m1, m2, m3, m4, m5⟩ := frz6 HN
  have hzn := blk_lt HN
  have HHN := Lib.hid HN
  clear HN
  go_wp2
  have TF := ((((((HT.out.setA 0 (.int .u8 fa)).setA 1 (.int .u8 5)).setA 2 (.int .u8 n)).setA 3 (.int .u8 0)).setA 4 (.int .u8 0)).setA 5 (.string ⟨#[]⟩))
  simp only [List.setIfInBounds_toArray, List.set_cons_zero, List.set_cons_succ] at TF
  exact bodyPost_ret (res18 _ _ (w.heap.size + 1) (.int .u8 fa) (.int .u8 5) (.int .u8 n) (.int .u8 0) (.int .u8 0) (.string ⟨#[]⟩) (.string ⟨#[]⟩) (.bool true) rfl rfl rfl TF.hA) rfl ⟨rfl, TF.gr, TF.hg⟩
end Go.Proofs.Ytmhdckpmkgkglaa
