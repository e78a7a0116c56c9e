/- Slave.Take: a frame of its session; what is pending: none. Written by gen_take.py. -/
import Derived.Test.YtmhdckpmkgkglaaSb
import Derived.Deep.RegionHeld3
set_option linter.unusedVariables false
set_option linter.unusedSimpArgs false
namespace Go.Proofs.Ytmhdckpmkgkglaa
open Go.RowKit

set_option maxHeartbeats 4000000 in
set_option maxRecDepth 100000 in
theorem take_np (w : World) (g B : Nat) (a n t x fa fk fs fq fc : Int) (v : Value) (l fb : List UInt8) (A : Option Addr) (m c : Nat)
    (h : w.heap[g]? = some (.cells #[.int .u8 n, .int .u8 t, .int .u8 x, .int .u8 a, v] 43 (0, 0))) (ht : t = 0 ∨ t = 1) (hx : x = 0 ∨ x = 1)
    (hown : w.ownsRow B 5 1 v l.length (bytesV l)) (hl : l.length ≤ 24) (hfb : ReadsB w (.slice A m c) fb) (hfn : NotIn g (.slice A m c) fb)
    (hfa : fa = a) (hn : n ≠ 0) (hs : fs = n) (hp : l = []) (hk : fk = 3) :
    Calls Try.prog 13 #[.pointer (some ⟨g, 0, none⟩), .agg #[.int .u8 fa, .int .u8 fk, .int .u8 fs, .int .u8 fq, .int .u8 fc, .slice A m c]] w fun e w' =>
      TakeEnd w g a n t x l [] (v) e w' := by
  obtain ⟨pa, pc, rfl⟩ := own_slice hown
  subst hp
  simp only [List.length_nil] at h
  have hlt := blk_lt h
  have hne := Nat.ne_of_gt hlt
  have H := Lib.hid h
  have HO := Lib.hid hown
  have HF := Lib.hid hfb
  have HN := Lib.hid hfn
  have T0 := TW.start h 29 #[.int .u8 fa, .int .u8 3, .int .u8 fs, .int .u8 fq, .int .u8 fc, .slice A m c] #[.int .u8 0, .int .u8 0, .int .u8 0, .int .u8 0, .int .u8 0, .slice none 0 0]
  have HT0 := Lib.hid T0
  obtain ⟨h0, h1, h2, h3, h4⟩ := blk5 h
  clear h hown hfb hfn T0
  subst hfa; subst hs; subst hk
  have e1 : (fa != fa) = false := by simp
  have exor : bits BinOp.xor .u8 x 1 = 1 - x := by rcases hx with rfl | rfl <;> rfl
  have HQ := True.intro
  clear HQ
  go_enter Try.func13, Try.ntmps13
  go_wp2_with fail
  go_quiet (fail)
  go_wp2_with fail
  go_region_held3 (fun w' => w'.cell? ⟨g, 0, none⟩ = some (.int .u8 fs) ∧ w'.cell? ⟨g, 1, none⟩ = some (.int .u8 t) ∧ w'.cell? ⟨g, 2, none⟩ = some (.int .u8 x) ∧
      w'.cell? ⟨w.heap.size, 0, none⟩ = some (.int .u8 fa) ∧ w'.cell? ⟨w.heap.size, 1, none⟩ = some (.int .u8 3) ∧ w'.cell? ⟨w.heap.size, 2, none⟩ = some (.int .u8 fs) ∧
      w'.cell? ⟨w.heap.size, 3, none⟩ = some (.int .u8 fq) ∧ w'.cell? ⟨w.heap.size, 4, none⟩ = some (.int .u8 fc) ∧ w'.cell? ⟨w.heap.size, 5, none⟩ = some (.slice A m c))
    (first | go_keep | (go_split_ands; refine ⟨?_, ?_, ?_, ?_, ?_, ?_, ?_, ?_, ?_⟩ <;> (rw [hc _ _ (by simp; omega)]; assumption)))
    ((go_at_call 30; refine (is_yes _ _ _ _ _ _ _ _ _ _ _ _ hn rfl).mono ?_; rintro e w1 ⟨rfl, hb⟩; obtain ⟨hc, hf⟩ := bcell hb))
  have T1 := (HT0.out.drewN _).below hb
  clear hb hc hf HT0 h0 h1 h2 h3 h4
  obtain ⟨h0, h1, h2, h3, h4⟩ := blk5 T1.hg
  obtain ⟨f0, f1, f2, f3, f4⟩ := frz5 T1.hg
  obtain ⟨a0, a1, a2, a3, a4, a5⟩ := blk6 T1.hA
  obtain ⟨b0, b1, b2, b3, b4, b5⟩ := frz6 T1.hA
  obtain ⟨c0, c1, c2, c3, c4, c5⟩ := blk6 T1.hF
  have hz := T1.size
  have HT1 := Lib.hid T1
  clear T1
  go_wp2_with fail
  go_quiet ((go_at_call 14; refine quiet_left (pending_no _ g pa 0 pc ?_ rfl); simpa using h4))
  go_wp2_with fail
  go_quiet (fail)
  go_wp2_with fail
  refine (answer_any _ g fa fs t x 5 (.slice pa 0 pc) ?hh).mono ?_
  case hh => exact (HT1.out.drewN _).hg
  rintro e w4 ⟨rfl, hb4, hg4⟩
  have T4 := (HT1.out.drewN _).below hb4
  clear h0 h1 h2 h3 h4 f0 f1 f2 f3 f4 a0 a1 a2 a3 a4 a5 b0 b1 b2 b3 b4 b5 c0 c1 c2 c3 c4 c5 hz
  clear hb4 hg4
  obtain ⟨h0, h1, h2, h3, h4⟩ := blk5 T4.hg
  obtain ⟨f0, f1, f2, f3, f4⟩ := frz5 T4.hg
  obtain ⟨a0, a1, a2, a3, a4, a5⟩ := blk6 T4.hA
  obtain ⟨b0, b1, b2, b3, b4, b5⟩ := frz6 T4.hA
  obtain ⟨c0, c1, c2, c3, c4, c5⟩ := blk6 T4.hF
  have hz := T4.size
  have HT4 := Lib.hid T4
  clear T4
  go_wp2_with fail
  have hne1 : ¬ w.heap.size + 1 = g := by omega
  have hne2 : ¬ w.heap.size = g := by omega
  clear c0 c1 c2 c3 c4 c5 f0 f1 f2 f3 f4
  go_region_held3 (fun w' => w'.cell? ⟨g, 1, none⟩ = some (.int .u8 t) ∧ w'.cell? ⟨g, 2, none⟩ = some (.int .u8 x) ∧ w'.cell? ⟨g, 4, none⟩ = some (.slice pa 0 pc))
    (first | (refine ⟨?_, ?_, ?_⟩ <;> (simp (disch := first | (with_reducible assumption) | (simp; done) | (simp; omega)) only [World.cell?_drew, World.cell?_setCell_far, hc, h1, h2, h4]; done)) | (refine ⟨?_, ?_, ?_⟩ <;> (simp (disch := first | (with_reducible assumption) | (simp; done) | (simp; omega)) only [World.cell?_drew, World.cell?_setCell_far, h1, h2, h4]; done)))
    ((go_at_call 28; refine (clone_any _ (.slice pa 0 pc) [] ?_).mono ?_; (exact own_reads ((((((((HT4.out.setA 0 _).setA 1 _).setA 2 _).setA 3 _).setA 4 _).setA 5 _).drew.own HO.out H.out (by decide))) (by first | omega | (simp; done))); rintro e w9 ⟨v9, rfl, hown9, hb9⟩; obtain ⟨A9, c9, rfl⟩ := own_slice hown9; obtain ⟨hc, hf⟩ := bcell hb9))
  have T9 := ((((((HT4.out.setA 0 _).setA 1 _).setA 2 _).setA 3 _).setA 4 _).setA 5 _).drew.below hb9
  simp only [List.setIfInBounds_toArray, List.set_cons_zero, List.set_cons_succ] at T9
  have HO9 := Lib.hid hown9
  have HB9 := Lib.hid hb9
  clear hown9 hb9 hc hf h1 h2 h4 a0 a1 a2 a3 a4 a5 b0 b1 b2 b3 b4 b5 hz
  obtain ⟨a0, a1, a2, a3, a4, a5⟩ := blk6 T9.hA
  obtain ⟨b0, b1, b2, b3, b4, b5⟩ := frz6 T9.hA
  have HT9 := Lib.hid T9
  clear T9
  go_wp2
  have TF := ((((((((HT9.out.setA 3 (.int .u8 t)).setA 4 (.int .u8 x)).setA 5 (.slice A9 0 c9)).setA 0 (.int .u8 fa)).setA 1 (.int .u8 5)).setA 2 (.int .u8 fs)).setA 3 (.int .u8 t)).setA 4 (.int .u8 x)).setA 5 (.slice A9 0 c9)
  simp only [List.setIfInBounds_toArray, List.set_cons_zero, List.set_cons_succ] at TF
  refine bodyPost_ret (res13 _ _ (w.heap.size + 1) (.int .u8 fa) (.int .u8 5) (.int .u8 fs) (.int .u8 t) (.int .u8 x) (.slice A9 0 c9) (.slice none 0 0) (.bool true) rfl rfl rfl TF.hA) rfl ⟨_, _, rfl, ?_, ?_, TF.gr, TF.hg⟩
  · refine own_keep (own_lower HO9.out (by have := HT4.out.size; simp; omega)) fun k hk => ?_
    have hk1 : k ≠ w.heap.size + 1 := by have h1 := (own_lt HO9.out k hk).1; have := HT4.out.size; simp at h1; omega
    repeat (refine far1 (by simpa using hk1) ?_)
    rfl
  · exact World.ownsRow_nil _ _ _ _

set_option maxHeartbeats 4000000 in
set_option maxRecDepth 100000 in
theorem take_no (w : World) (g B : Nat) (a n t x fa fk fs fq fc : Int) (v : Value) (l fb : List UInt8) (A : Option Addr) (m c : Nat)
    (h : w.heap[g]? = some (.cells #[.int .u8 n, .int .u8 t, .int .u8 x, .int .u8 a, v] 43 (0, 0))) (ht : t = 0 ∨ t = 1) (hx : x = 0 ∨ x = 1)
    (hown : w.ownsRow B 5 1 v l.length (bytesV l)) (hl : l.length ≤ 24) (hfb : ReadsB w (.slice A m c) fb) (hfn : NotIn g (.slice A m c) fb)
    (hfa : fa = a) (hn : n ≠ 0) (hs : fs = n) (hp : l = []) (hk : fk = 2) (hq : fq ≠ x) :
    Calls Try.prog 13 #[.pointer (some ⟨g, 0, none⟩), .agg #[.int .u8 fa, .int .u8 fk, .int .u8 fs, .int .u8 fq, .int .u8 fc, .slice A m c]] w fun e w' =>
      TakeEnd w g a n t x l [] (v) e w' := by
  obtain ⟨pa, pc, rfl⟩ := own_slice hown
  subst hp
  simp only [List.length_nil] at h
  have hlt := blk_lt h
  have hne := Nat.ne_of_gt hlt
  have H := Lib.hid h
  have HO := Lib.hid hown
  have HF := Lib.hid hfb
  have HN := Lib.hid hfn
  have T0 := TW.start h 29 #[.int .u8 fa, .int .u8 2, .int .u8 fs, .int .u8 fq, .int .u8 fc, .slice A m c] #[.int .u8 0, .int .u8 0, .int .u8 0, .int .u8 0, .int .u8 0, .slice none 0 0]
  have HT0 := Lib.hid T0
  obtain ⟨h0, h1, h2, h3, h4⟩ := blk5 h
  clear h hown hfb hfn T0
  subst hfa; subst hs; subst hk
  have e1 : (fa != fa) = false := by simp
  have exor : bits BinOp.xor .u8 x 1 = 1 - x := by rcases hx with rfl | rfl <;> rfl
  have e3 : (fq == x) = false := by simpa using hq
  have HQ := True.intro
  clear HQ
  clear hq
  go_enter Try.func13, Try.ntmps13
  go_wp2_with fail
  go_quiet (fail)
  go_wp2_with fail
  go_region_held3 (fun w' => w'.cell? ⟨g, 0, none⟩ = some (.int .u8 fs) ∧ w'.cell? ⟨g, 1, none⟩ = some (.int .u8 t) ∧ w'.cell? ⟨g, 2, none⟩ = some (.int .u8 x) ∧
      w'.cell? ⟨w.heap.size, 0, none⟩ = some (.int .u8 fa) ∧ w'.cell? ⟨w.heap.size, 1, none⟩ = some (.int .u8 2) ∧ w'.cell? ⟨w.heap.size, 2, none⟩ = some (.int .u8 fs) ∧
      w'.cell? ⟨w.heap.size, 3, none⟩ = some (.int .u8 fq) ∧ w'.cell? ⟨w.heap.size, 4, none⟩ = some (.int .u8 fc) ∧ w'.cell? ⟨w.heap.size, 5, none⟩ = some (.slice A m c))
    (first | go_keep | (go_split_ands; refine ⟨?_, ?_, ?_, ?_, ?_, ?_, ?_, ?_, ?_⟩ <;> (rw [hc _ _ (by simp; omega)]; assumption)))
    ((go_at_call 30; refine (is_yes _ _ _ _ _ _ _ _ _ _ _ _ hn rfl).mono ?_; rintro e w1 ⟨rfl, hb⟩; obtain ⟨hc, hf⟩ := bcell hb))
  have T1 := (HT0.out.drewN _).below hb
  clear hb hc hf HT0 h0 h1 h2 h3 h4
  obtain ⟨h0, h1, h2, h3, h4⟩ := blk5 T1.hg
  obtain ⟨f0, f1, f2, f3, f4⟩ := frz5 T1.hg
  obtain ⟨a0, a1, a2, a3, a4, a5⟩ := blk6 T1.hA
  obtain ⟨b0, b1, b2, b3, b4, b5⟩ := frz6 T1.hA
  obtain ⟨c0, c1, c2, c3, c4, c5⟩ := blk6 T1.hF
  have hz := T1.size
  have HT1 := Lib.hid T1
  clear T1
  go_wp2_with fail
  go_quiet ((go_at_call 14; refine quiet_left (pending_no _ g pa 0 pc ?_ rfl); simpa using h4))
  go_wp2_with fail
  go_quiet (fail)
  go_wp2_with fail
  refine (answer_any _ g fa fs t x 5 (.slice pa 0 pc) ?hh).mono ?_
  case hh => exact (HT1.out.drewN _).hg
  rintro e w4 ⟨rfl, hb4, hg4⟩
  have T4 := (HT1.out.drewN _).below hb4
  clear h0 h1 h2 h3 h4 f0 f1 f2 f3 f4 a0 a1 a2 a3 a4 a5 b0 b1 b2 b3 b4 b5 c0 c1 c2 c3 c4 c5 hz
  clear hb4 hg4
  obtain ⟨h0, h1, h2, h3, h4⟩ := blk5 T4.hg
  obtain ⟨f0, f1, f2, f3, f4⟩ := frz5 T4.hg
  obtain ⟨a0, a1, a2, a3, a4, a5⟩ := blk6 T4.hA
  obtain ⟨b0, b1, b2, b3, b4, b5⟩ := frz6 T4.hA
  obtain ⟨c0, c1, c2, c3, c4, c5⟩ := blk6 T4.hF
  have hz := T4.size
  have HT4 := Lib.hid T4
  clear T4
  go_wp2_with fail
  have hne1 : ¬ w.heap.size + 1 = g := by omega
  have hne2 : ¬ w.heap.size = g := by omega
  clear c0 c1 c2 c3 c4 c5 f0 f1 f2 f3 f4
  go_region_held3 (fun w' => w'.cell? ⟨g, 1, none⟩ = some (.int .u8 t) ∧ w'.cell? ⟨g, 2, none⟩ = some (.int .u8 x) ∧ w'.cell? ⟨g, 4, none⟩ = some (.slice pa 0 pc))
    (first | (refine ⟨?_, ?_, ?_⟩ <;> (simp (disch := first | (with_reducible assumption) | (simp; done) | (simp; omega)) only [World.cell?_drew, World.cell?_setCell_far, hc, h1, h2, h4]; done)) | (refine ⟨?_, ?_, ?_⟩ <;> (simp (disch := first | (with_reducible assumption) | (simp; done) | (simp; omega)) only [World.cell?_drew, World.cell?_setCell_far, h1, h2, h4]; done)))
    ((go_at_call 28; refine (clone_any _ (.slice pa 0 pc) [] ?_).mono ?_; (exact own_reads ((((((((HT4.out.setA 0 _).setA 1 _).setA 2 _).setA 3 _).setA 4 _).setA 5 _).drew.own HO.out H.out (by decide))) (by first | omega | (simp; done))); rintro e w9 ⟨v9, rfl, hown9, hb9⟩; obtain ⟨A9, c9, rfl⟩ := own_slice hown9; obtain ⟨hc, hf⟩ := bcell hb9))
  have T9 := ((((((HT4.out.setA 0 _).setA 1 _).setA 2 _).setA 3 _).setA 4 _).setA 5 _).drew.below hb9
  simp only [List.setIfInBounds_toArray, List.set_cons_zero, List.set_cons_succ] at T9
  have HO9 := Lib.hid hown9
  have HB9 := Lib.hid hb9
  clear hown9 hb9 hc hf h1 h2 h4 a0 a1 a2 a3 a4 a5 b0 b1 b2 b3 b4 b5 hz
  obtain ⟨a0, a1, a2, a3, a4, a5⟩ := blk6 T9.hA
  obtain ⟨b0, b1, b2, b3, b4, b5⟩ := frz6 T9.hA
  have HT9 := Lib.hid T9
  clear T9
  go_wp2
  have TF := ((((((((HT9.out.setA 3 (.int .u8 t)).setA 4 (.int .u8 x)).setA 5 (.slice A9 0 c9)).setA 0 (.int .u8 fa)).setA 1 (.int .u8 5)).setA 2 (.int .u8 fs)).setA 3 (.int .u8 t)).setA 4 (.int .u8 x)).setA 5 (.slice A9 0 c9)
  simp only [List.setIfInBounds_toArray, List.set_cons_zero, List.set_cons_succ] at TF
  refine bodyPost_ret (res13 _ _ (w.heap.size + 1) (.int .u8 fa) (.int .u8 5) (.int .u8 fs) (.int .u8 t) (.int .u8 x) (.slice A9 0 c9) (.slice none 0 0) (.bool true) rfl rfl rfl TF.hA) rfl ⟨_, _, rfl, ?_, ?_, TF.gr, TF.hg⟩
  · refine own_keep (own_lower HO9.out (by have := HT4.out.size; simp; omega)) fun k hk => ?_
    have hk1 : k ≠ w.heap.size + 1 := by have h1 := (own_lt HO9.out k hk).1; have := HT4.out.size; simp at h1; omega
    repeat (refine far1 (by simpa using hk1) ?_)
    rfl
  · exact World.ownsRow_nil _ _ _ _

set_option maxHeartbeats 4000000 in
set_option maxRecDepth 100000 in
theorem take_nn (w : World) (g B : Nat) (a n t x fa fk fs fq fc : Int) (v : Value) (l fb : List UInt8) (A : Option Addr) (m c : Nat)
    (h : w.heap[g]? = some (.cells #[.int .u8 n, .int .u8 t, .int .u8 x, .int .u8 a, v] 43 (0, 0))) (ht : t = 0 ∨ t = 1) (hx : x = 0 ∨ x = 1)
    (hown : w.ownsRow B 5 1 v l.length (bytesV l)) (hl : l.length ≤ 24) (hfb : ReadsB w (.slice A m c) fb) (hfn : NotIn g (.slice A m c) fb)
    (hfa : fa = a) (hn : n ≠ 0) (hs : fs = n) (hp : l = []) (hk : fk = 2) (hq : fq = x) :
    Calls Try.prog 13 #[.pointer (some ⟨g, 0, none⟩), .agg #[.int .u8 fa, .int .u8 fk, .int .u8 fs, .int .u8 fq, .int .u8 fc, .slice A m c]] w fun e w' =>
      TakeEnd w g a n t (1 - x) l fb (v) e w' := by
  obtain ⟨pa, pc, rfl⟩ := own_slice hown
  subst hp
  simp only [List.length_nil] at h
  have hlt := blk_lt h
  have hne := Nat.ne_of_gt hlt
  have H := Lib.hid h
  have HO := Lib.hid hown
  have HF := Lib.hid hfb
  have HN := Lib.hid hfn
  have T0 := TW.start h 29 #[.int .u8 fa, .int .u8 2, .int .u8 fs, .int .u8 fq, .int .u8 fc, .slice A m c] #[.int .u8 0, .int .u8 0, .int .u8 0, .int .u8 0, .int .u8 0, .slice none 0 0]
  have HT0 := Lib.hid T0
  obtain ⟨h0, h1, h2, h3, h4⟩ := blk5 h
  clear h hown hfb hfn T0
  subst hfa; subst hs; subst hk
  have e1 : (fa != fa) = false := by simp
  have exor : bits BinOp.xor .u8 x 1 = 1 - x := by rcases hx with rfl | rfl <;> rfl
  have e3 : (fq == x) = true := by simpa using hq
  have HQ := True.intro
  clear HQ
  clear hq
  go_enter Try.func13, Try.ntmps13
  go_wp2_with fail
  go_quiet (fail)
  go_wp2_with fail
  go_region_held3 (fun w' => w'.cell? ⟨g, 0, none⟩ = some (.int .u8 fs) ∧ w'.cell? ⟨g, 1, none⟩ = some (.int .u8 t) ∧ w'.cell? ⟨g, 2, none⟩ = some (.int .u8 x) ∧
      w'.cell? ⟨w.heap.size, 0, none⟩ = some (.int .u8 fa) ∧ w'.cell? ⟨w.heap.size, 1, none⟩ = some (.int .u8 2) ∧ w'.cell? ⟨w.heap.size, 2, none⟩ = some (.int .u8 fs) ∧
      w'.cell? ⟨w.heap.size, 3, none⟩ = some (.int .u8 fq) ∧ w'.cell? ⟨w.heap.size, 4, none⟩ = some (.int .u8 fc) ∧ w'.cell? ⟨w.heap.size, 5, none⟩ = some (.slice A m c))
    (first | go_keep | (go_split_ands; refine ⟨?_, ?_, ?_, ?_, ?_, ?_, ?_, ?_, ?_⟩ <;> (rw [hc _ _ (by simp; omega)]; assumption)))
    ((go_at_call 30; refine (is_yes _ _ _ _ _ _ _ _ _ _ _ _ hn rfl).mono ?_; rintro e w1 ⟨rfl, hb⟩; obtain ⟨hc, hf⟩ := bcell hb))
  have T1 := (HT0.out.drewN _).below hb
  clear hb hc hf HT0 h0 h1 h2 h3 h4
  obtain ⟨h0, h1, h2, h3, h4⟩ := blk5 T1.hg
  obtain ⟨f0, f1, f2, f3, f4⟩ := frz5 T1.hg
  obtain ⟨a0, a1, a2, a3, a4, a5⟩ := blk6 T1.hA
  obtain ⟨b0, b1, b2, b3, b4, b5⟩ := frz6 T1.hA
  obtain ⟨c0, c1, c2, c3, c4, c5⟩ := blk6 T1.hF
  have hz := T1.size
  have HT1 := Lib.hid T1
  clear T1
  go_wp2_with fail
  go_quiet ((go_at_call 14; refine quiet_left (pending_no _ g pa 0 pc ?_ rfl); simpa using h4))
  go_wp2_with fail
  go_quiet (fail)
  go_wp2_with fail
  refine (clone_any _ (.slice A m c) fb ?hh).mono ?_
  case hh => exact (HT1.out.drewN _).reads HF.out HN.out
  rintro e w3 ⟨v3, rfl, hown3, hb3⟩
  have T3 := (HT1.out.drewN _).below hb3
  have HC3 : Hid (w3.ownsRow w.heap.size 5 1 v3 fb.length (bytesV fb)) := own_lower hown3 (Nat.le_of_lt (Nat.lt_of_lt_of_le (Nat.lt_of_succ_lt ((HT1.out.drewN _).size)) (Nat.le_refl _)))
  obtain ⟨A3, c3', rfl⟩ := own_slice hown3
  clear h0 h1 h2 h3 h4 f0 f1 f2 f3 f4 a0 a1 a2 a3 a4 a5 b0 b1 b2 b3 b4 b5 c0 c1 c2 c3 c4 c5 hz
  clear hown3 hb3
  obtain ⟨h0, h1, h2, h3, h4⟩ := blk5 T3.hg
  obtain ⟨f0, f1, f2, f3, f4⟩ := frz5 T3.hg
  obtain ⟨a0, a1, a2, a3, a4, a5⟩ := blk6 T3.hA
  obtain ⟨b0, b1, b2, b3, b4, b5⟩ := frz6 T3.hA
  obtain ⟨c0, c1, c2, c3, c4, c5⟩ := blk6 T3.hF
  have hz := T3.size
  have HT3 := Lib.hid T3
  clear T3
  go_wp2_with fail
  refine (answer_any _ g fa fs t (1 - x) 5 (.slice pa 0 pc) ?hh).mono ?_
  case hh => exact (HT3.out.setG 2 (.int .u8 (1 - x))).hg
  rintro e w4 ⟨rfl, hb4, hg4⟩
  have T4 := (HT3.out.setG 2 (.int .u8 (1 - x))).below hb4
  simp only [List.setIfInBounds_toArray, List.set_cons_zero, List.set_cons_succ] at T4
  have HC4 : Hid (w4.ownsRow w.heap.size 5 1 (.slice A3 fb.length c3') fb.length (bytesV fb)) := own_below (own_keep HC3.out fun k hk => Below.heap_setCell _ _ _ _ (fun e => own_ne HC3.out HT3.out.hg (by decide) k hk e)) hb4
  clear h0 h1 h2 h3 h4 f0 f1 f2 f3 f4 a0 a1 a2 a3 a4 a5 b0 b1 b2 b3 b4 b5 c0 c1 c2 c3 c4 c5 hz
  clear hb4 hg4
  obtain ⟨h0, h1, h2, h3, h4⟩ := blk5 T4.hg
  obtain ⟨f0, f1, f2, f3, f4⟩ := frz5 T4.hg
  obtain ⟨a0, a1, a2, a3, a4, a5⟩ := blk6 T4.hA
  obtain ⟨b0, b1, b2, b3, b4, b5⟩ := frz6 T4.hA
  obtain ⟨c0, c1, c2, c3, c4, c5⟩ := blk6 T4.hF
  have hz := T4.size
  have HT4 := Lib.hid T4
  clear T4
  go_wp2_with fail
  have hne1 : ¬ w.heap.size + 1 = g := by omega
  have hne2 : ¬ w.heap.size = g := by omega
  clear c0 c1 c2 c3 c4 c5 f0 f1 f2 f3 f4
  go_region_held3 (fun w' => w'.cell? ⟨g, 1, none⟩ = some (.int .u8 t) ∧ w'.cell? ⟨g, 2, none⟩ = some (.int .u8 (1 - x)) ∧ w'.cell? ⟨g, 4, none⟩ = some (.slice pa 0 pc))
    (first | (refine ⟨?_, ?_, ?_⟩ <;> (simp (disch := first | (with_reducible assumption) | (simp; done) | (simp; omega)) only [World.cell?_drew, World.cell?_setCell_far, hc, h1, h2, h4]; done)) | (refine ⟨?_, ?_, ?_⟩ <;> (simp (disch := first | (with_reducible assumption) | (simp; done) | (simp; omega)) only [World.cell?_drew, World.cell?_setCell_far, h1, h2, h4]; done)))
    ((go_at_call 28; refine (clone_any _ (.slice pa 0 pc) [] ?_).mono ?_; (exact own_reads ((((((((HT4.out.setA 0 _).setA 1 _).setA 2 _).setA 3 _).setA 4 _).setA 5 _).drew.own HO.out H.out (by decide))) (by first | omega | (simp; done))); rintro e w9 ⟨v9, rfl, hown9, hb9⟩; obtain ⟨A9, c9, rfl⟩ := own_slice hown9; obtain ⟨hc, hf⟩ := bcell hb9))
  have T9 := ((((((HT4.out.setA 0 _).setA 1 _).setA 2 _).setA 3 _).setA 4 _).setA 5 _).drew.below hb9
  simp only [List.setIfInBounds_toArray, List.set_cons_zero, List.set_cons_succ] at T9
  have HO9 := Lib.hid hown9
  have HB9 := Lib.hid hb9
  clear hown9 hb9 hc hf h1 h2 h4 a0 a1 a2 a3 a4 a5 b0 b1 b2 b3 b4 b5 hz
  obtain ⟨a0, a1, a2, a3, a4, a5⟩ := blk6 T9.hA
  obtain ⟨b0, b1, b2, b3, b4, b5⟩ := frz6 T9.hA
  have HT9 := Lib.hid T9
  clear T9
  go_wp2
  have TF := ((((((((HT9.out.setA 3 (.int .u8 t)).setA 4 (.int .u8 (1 - x))).setA 5 (.slice A9 0 c9)).setA 0 (.int .u8 fa)).setA 1 (.int .u8 5)).setA 2 (.int .u8 fs)).setA 3 (.int .u8 t)).setA 4 (.int .u8 (1 - x))).setA 5 (.slice A9 0 c9)
  simp only [List.setIfInBounds_toArray, List.set_cons_zero, List.set_cons_succ] at TF
  refine bodyPost_ret (res13 _ _ (w.heap.size + 1) (.int .u8 fa) (.int .u8 5) (.int .u8 fs) (.int .u8 t) (.int .u8 (1 - x)) (.slice A9 0 c9) (.slice A3 fb.length c3') (.bool true) rfl rfl rfl TF.hA) rfl ⟨_, _, rfl, ?_, ?_, TF.gr, TF.hg⟩
  · refine own_keep (own_lower HO9.out (by have := HT4.out.size; simp; omega)) fun k hk => ?_
    have hk1 : k ≠ w.heap.size + 1 := by have h1 := (own_lt HO9.out k hk).1; have := HT4.out.size; simp at h1; omega
    repeat (refine far1 (by simpa using hk1) ?_)
    rfl
  · refine own_keep HC4.out fun k hk => ?_
    have hk1 : k ≠ w.heap.size + 1 := own_ne HC4.out HT4.out.hA (by decide) k hk
    have hk2 := (own_lt HC4.out k hk).2
    repeat (refine far1 (by simpa using hk1) ?_)
    refine (HB9.out.block k (by simpa using hk2)).trans ?_
    refine blk_drewN' ?_
    repeat (refine far1 (by simpa using hk1) ?_)
    rfl
end Go.Proofs.Ytmhdckpmkgkglaa
