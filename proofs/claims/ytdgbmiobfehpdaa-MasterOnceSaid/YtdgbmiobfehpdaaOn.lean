/- The walk of lamplightlaw07.MasterOnce. -/
import Derived.Test.YtdgbmiobfehpdaaDe
import Derived.Test.YtdgbmiobfehpdaaSr
import Derived.Test.YtdgbmiobfehpdaaAr
set_option linter.unusedVariables false
set_option linter.unusedSimpArgs false
namespace Go.Proofs.Ytdgbmiobfehpdaa
open Go.RowKit Go.ChangeShapes

/-- Frames that came in: six cells each. -/
structure FrIn (w : World) (p : Addr) (a kd s q c : Int) (A : Option Addr) (n cp : Nat) (z : List Int) : Prop where
  c0 : w.cell? p = some (.int .u8 a)
  c1 : w.cell? (p.add 1) = some (.int .u8 kd)
  c2 : w.cell? (p.add 2) = some (.int .u8 s)
  c3 : w.cell? (p.add 3) = some (.int .u8 q)
  c4 : w.cell? (p.add 4) = some (.int .u8 c)
  c5 : w.cell? (p.add 5) = some (.slice A n cp)
  row : IsRow8 w A n cp z
def FramesIn (w : World) (a : Option Addr) (len cap : Nat) : Prop :=
  (a = none ∧ len = 0 ∧ cap = 0) ∨
  ∃ x, a = some x ∧ len ≤ cap ∧ cap ≤ maxLen ∧ ∀ i, i < len → ∃ a kd s q c A n cp z, FrIn w (x.add (i * 6)) a kd s q c A n cp z
theorem FrIn.below {w w1 : World} {p : Addr} {a kd s q c : Int} {A : Option Addr} {n cp : Nat} {z : List Int} (h : FrIn w p a kd s q c A n cp z) (hb : Below w.heap.size w w1) : FrIn w1 p a kd s q c A n cp z := by
  have f : ∀ {q v}, w.cell? q = some v → w1.cell? q = some v := fun hc => (hb.cell (World.block_lt_of_cell? w _ hc)).trans hc
  exact ⟨f h.c0, f h.c1, f h.c2, f h.c3, f h.c4, f h.c5, h.row.below hb (B := 0)⟩
theorem frames_in {H : Type} {enc : TypeId × Value → H} {w : World} {held : Bool} {fuel : Nat} {a : Option Addr} {len cap : Nat} {d : DataW H × List MemPlace} (h : DataW.trod enc Try.prog w 0 (fun _ => true) held fuel 22 [.slice a len cap] = some d) :
    FramesIn w a len cap := by
  rcases Deep.open_slice Try.underlying22 h with ⟨hcs, _⟩ | ⟨x, l, c, m, n, D, Pl, hcs, _, hl, hm, hmm, _, hx⟩
  · simp only [List.cons.injEq, and_true, Value.slice.injEq] at hcs
    exact .inl hcs
  · simp only [List.cons.injEq, and_true, Value.slice.injEq] at hcs
    obtain ⟨rfl, rfl, rfl⟩ := hcs
    have hc : Try.prog.cellsOf 30 = 6 := by kernel_rfl
    refine .inr ⟨x, rfl, hl, hm, fun i hi => ?_⟩
    have hi' : i < m := by rw [hmm]; simp; omega
    obtain ⟨cs, h1, h2⟩ := hx i hi'
    rw [hc] at h1
    obtain ⟨_, hlen, hcell⟩ := World.cells?_some h1
    obtain ⟨ad, kd, s, q, c, A, n, cp, z, e1, hr, _, _⟩ := frame_in h2
    subst e1
    have c0 := hcell 0 (by simp)
    have c1 := hcell 1 (by simp)
    have c2 := hcell 2 (by simp)
    have c3 := hcell 3 (by simp)
    have c4 := hcell 4 (by simp)
    have c5 := hcell 5 (by simp)
    simp at c0 c1 c2 c3 c4 c5
    exact ⟨ad, kd, s, q, c, A, n, cp, z, ⟨by simpa [Addr.add] using c0, c1, c2, c3, c4, c5, hr⟩⟩

theorem cell_alloc_of {w : World} {p : Addr} {v : Value} (h : w.cell? p = some v) (o : Obj) : (w.alloc o).cell? p = some v := by
  rw [World.cell?_alloc_lt _ _ _ (World.block_lt_of_cell? w _ h)]
  exact h
theorem cell_set6 {w : World} {q : Addr} {v : Value} {bx : Nat} {u0 u1 u2 u3 u4 u5 : Value} (h : w.cell? q = some v) (hne : ¬ (q.block = bx)) :
    ((((((w.setCell ⟨bx, 0, none⟩ u0).setCell ⟨bx, 1, none⟩ u1).setCell ⟨bx, 2, none⟩ u2).setCell ⟨bx, 3, none⟩ u3).setCell ⟨bx, 4, none⟩ u4).setCell ⟨bx, 5, none⟩ u5).cell? q = some v := by
  refine (World.cell?_of_block (w := w) ?_).trans h
  repeat (refine far1 (by simpa using hne) ?_)
  rfl
theorem cell_drew {w : World} {q : Addr} {v : Value} (h : w.cell? q = some v) : w.drew.cell? q = some v := h
theorem own_lit_at {W : World} {b B : Nat} (h : W.heap[b]? = some (.cells #[.int .u8 1] 5 (0, 0))) (hb : B ≤ b) : W.ownsRow B 5 1 (.slice (some ⟨b, 0, none⟩) 1 1) ([1] : List UInt8).length (bytesV [1]) :=
  ⟨rfl, .inr ⟨b, 1, _, rfl, hb, h, Nat.le_refl _, by unfold maxLen; omega, rfl, rfl⟩⟩
/-- What is known behind the statement that makes a reply: its box, its bytes. -/
def OnceR (wr wc : World) (a q c : Int) (l : List UInt8) (p : Value) : Prop :=
  ∃ bx A5 c5, p = .pointer (some ⟨bx, 0, none⟩) ∧ Below wr.heap.size wr wc ∧ wc.heap[bx]? = some (.cells #[.int .u8 a, .int .u8 5, .int .u8 1, .int .u8 q, .int .u8 c, .slice A5 l.length c5] 30 (0, 0)) ∧
    wc.ownsRow wr.heap.size 5 1 (.slice A5 l.length c5) l.length (bytesV l)
theorem once_new {wr w5 : World} {a q c : Int} {l : List UInt8} {A5 : Option Addr} {c5 : Nat} (hb : Below wr.heap.size wr w5) (ho : w5.ownsRow wr.heap.size 5 1 (.slice A5 l.length c5) l.length (bytesV l)) :
    OnceR wr (w5.alloc (.cells #[.int .u8 a, .int .u8 5, .int .u8 1, .int .u8 q, .int .u8 c, .slice A5 l.length c5] 30)) a q c l (.pointer (some ⟨w5.heap.size, 0, none⟩)) :=
  ⟨_, A5, c5, rfl, hb.alloc hb.size _, blk_new _ _, own_below ho ((Below.refl _ _).alloc (Nat.le_refl _) _)⟩
theorem once_set {wr w5 : World} {a q c : Int} {l : List UInt8} {A5 : Option Addr} {c5 bx : Nat} {d0 d1 d2 d3 d4 d5 : Value} (hb : Below wr.heap.size wr w5) (ho : w5.ownsRow wr.heap.size 5 1 (.slice A5 l.length c5) l.length (bytesV l))
    (hbx : w5.heap[bx]? = some (.cells #[d0, d1, d2, d3, d4, d5] 30 (0, 0))) (hle : wr.heap.size ≤ bx) :
    OnceR wr ((((((w5.setCell ⟨bx, 0, none⟩ (.int .u8 a)).setCell ⟨bx, 1, none⟩ (.int .u8 5)).setCell ⟨bx, 2, none⟩ (.int .u8 1)).setCell ⟨bx, 3, none⟩ (.int .u8 q)).setCell ⟨bx, 4, none⟩ (.int .u8 c)).setCell ⟨bx, 5, none⟩ (.slice A5 l.length c5)) a q c l (.pointer (some ⟨bx, 0, none⟩)) := by
  refine ⟨_, A5, c5, rfl, (((((hb.setCell hle _).setCell hle _).setCell hle _).setCell hle _).setCell hle _).setCell hle _, ?_, ?_⟩
  · have := blk_set (blk_set (blk_set (blk_set (blk_set (blk_set hbx 0 (.int .u8 a)) 1 (.int .u8 5)) 2 (.int .u8 1)) 3 (.int .u8 q)) 4 (.int .u8 c)) 5 (.slice A5 l.length c5)
    simpa using this
  · refine own_keep ho fun k hk => ?_
    have hne := own_ne ho hbx (by decide) k hk
    repeat (refine far1 (by simpa using hne) ?_)
    rfl
theorem once_new2 {wr w5 : World} {a q c : Int} {l : List UInt8} {A5 : Option Addr} {c5 n : Nat} (hn : n = l.length) (hb : Below wr.heap.size wr w5) (ho : w5.ownsRow wr.heap.size 5 1 (.slice A5 l.length c5) l.length (bytesV l)) :
    OnceR wr (w5.alloc (.cells #[.int .u8 a, .int .u8 5, .int .u8 1, .int .u8 q, .int .u8 c, .slice A5 n c5] 30)) a q c l (.pointer (some ⟨w5.heap.size, 0, none⟩)) := by
  subst hn
  exact once_new hb ho
theorem once_set2 {wr w5 : World} {a q c : Int} {l : List UInt8} {A5 : Option Addr} {c5 bx n : Nat} {d0 d1 d2 d3 d4 d5 : Value} (hn : n = l.length) (hb : Below wr.heap.size wr w5) (ho : w5.ownsRow wr.heap.size 5 1 (.slice A5 l.length c5) l.length (bytesV l))
    (hbx : w5.heap[bx]? = some (.cells #[d0, d1, d2, d3, d4, d5] 30 (0, 0))) (hle : wr.heap.size ≤ bx) :
    OnceR wr ((((((w5.setCell ⟨bx, 0, none⟩ (.int .u8 a)).setCell ⟨bx, 1, none⟩ (.int .u8 5)).setCell ⟨bx, 2, none⟩ (.int .u8 1)).setCell ⟨bx, 3, none⟩ (.int .u8 q)).setCell ⟨bx, 4, none⟩ (.int .u8 c)).setCell ⟨bx, 5, none⟩ (.slice A5 n c5)) a q c l (.pointer (some ⟨bx, 0, none⟩)) := by
  subst hn
  exact once_set hb ho hbx hle
/-- The master behind so many replies. -/
def MS.once (a : Int) (t : Int) : MS := ⟨0, t, a, 1, 1000, 1, 1, 0, []⟩
theorem MS.once_reply (a t q c : Int) (b : List UInt8) (hb : 0 < b.length) : (MS.once a t).heardF ⟨a, 5, 1, q, c, b⟩ = (if q = t then b else [], true, MS.once a (if q = t then 1 - t else t)) := by
  unfold MS.heardF
  rw [if_neg (by simp [MS.once]), if_neg (by simp [MS.once]), if_neg (by simp [MS.once]), if_neg (by simp)]
  have e : MS.acked { MS.once a t with misses := 0 } ⟨a, 5, 1, q, c, b⟩ = MS.once a t := by
    unfold MS.acked
    rw [if_neg (by simp [MS.once])]
    rfl
  unfold MS.replyF
  rw [e]
  by_cases h : q = t
  · subst h
    rw [if_neg (by simp [MS.once]; exact fun e => by simp [e] at hb), if_pos rfl, if_pos rfl]
    rfl
  · rw [if_pos (by right; simpa [MS.once] using h), if_neg h, if_neg h]
theorem MS.once_next (a t : Int) : (MS.once a t).nextF = ⟨a, 3, 1, 0, t, []⟩ := by
  unfold MS.nextF
  rw [if_neg (by simp [MS.once])]
  rfl

set_option maxHeartbeats 16000000 in
set_option maxRecDepth 100000 in
theorem once_walk (a0 : Int) (a1 : Option Addr) (len1 cap1 : Nat) (w : World) (w0 : (Lit.int .u8 a0).wf = true) (r1 : FramesIn w a1 len1 cap1) :
    Calls Try.prog 3 #[.int .u8 a0, .slice a1 len1 cap1] w fun e w' => e = .returned (.bool true) ∧ Below w.heap.size w w' := by
  obtain ⟨i0, hi, hz0, hz1, hz2⟩ := info_parts Try.info5
  go_enter Try.func3, Try.ntmps3
  go_wp2_with fail
  refine (shown_any _).mono ?_
  rintro e w1 ⟨rfl, hb1⟩
  have HB1 := Lib.hid hb1
  have hg : w.heap.size ≤ w1.heap.size := hb1.size
  clear hb1
  go_wp2_with fail
  refine (master_new _ a0 1000 (by decide)).mono ?_
  rintro e w2 ⟨rfl, hb2, hs2⟩
  have HB2 : Hid (Below w.heap.size w w2) := HB1.out.trans (hb2.mono HB1.out.size)
  have HS2 := Lib.hid hs2
  have hl2 : w1.heap.size < w2.heap.size := hs2.lt
  clear hb2 hs2
  go_wp2_with fail
  refine (masterK_heard _ w1.heap.size w1.heap.size (MS.new a0 1000) (MS.once a0 0) ⟨a0, 4, 1, 0, 0, []⟩ none 0 0 [] true rfl HS2.out (ReadsB.nil _) (fun ad n c h => by cases h) (by simp [MS.new]) (by simp [MS.new]) (MS.new_opened a0 1000 (by decide))).mono ?_
  rintro e w3 ⟨v1, rfl, ho, hk, hs⟩
  obtain ⟨A3, c3, rfl⟩ := own_slice ho
  have HB3 : Hid (Below w.heap.size w w3) := stepK HB2.out (by omega) (Below.refl _ _) hk hg
  have HS3 := Lib.hid hs
  have hst : (MS.once a0 0).state = 1 := rfl
  clear ho hk hs
  go_wp2_with (go_at_call 13; refine (master_state _ w1.heap.size w1.heap.size (MS.once a0 0) HS3.out).mono ?_; rintro e w7 ⟨rfl, rfl⟩)
  go_loopw [9, 10] (fun x i wr => ∃ (k : Nat) (t : Int), k ≤ len1 ∧ i = .int .i64 k ∧ x = .int .u8 t ∧ (t = 0 ∨ t = 1) ∧ Below w.heap.size w wr ∧ MasterAt wr w1.heap.size w1.heap.size (MS.once a0 t)) (fun _ i _ => len1 - (intOf i).toNat)
  case atStart => exact ⟨0, 0, Nat.zero_le _, rfl, rfl, .inl rfl, HB3.out, HS3.out⟩
  case round =>
    obtain ⟨k, t, hk, rfl, rfl, ht01, hbr, hsr⟩ := hrel
    have HBr := Lib.hid hbr
    have HSr := Lib.hid hsr
    have HT := Lib.hid ht01
    have ht0 : 0 ≤ t := by omega
    have ht1 : t ≤ 1 := by omega
    have hgw : w1.heap.size < wr.heap.size := hsr.lt
    clear hbr hsr HS2 HB2 HB1 HS3 HB3 ht01
    have hmax : len1 ≤ 9223372036854775807 := by
      rcases r1 with ⟨_, h1, _⟩ | ⟨_, _, h1, h2, _⟩
      · omega
      · unfold maxLen at h2; omega
    by_cases hlt : k < len1 ∧ k < 200
    · obtain ⟨hlt, h200⟩ := hlt
      obtain ⟨x1, rfl, hlc1, _, hst⟩ := r1.resolve_left (by rintro ⟨_, h, _⟩; omega)
      obtain ⟨fa, fk, fs, fq, fc, A, n, cp, z, hst⟩ := hst k hlt
      have HI := Lib.hid (hst.below HBr.out)
      have HJ := Lib.hid hst
      obtain ⟨c0, c1, c2, c3, c4, c5, hrow⟩ := HI.out
      have HRow := Lib.hid hrow
      have e3 : wr.cell? ⟨(x1.add (k * 6)).block, (x1.add (k * 6)).off + 3, none⟩ = some (.int .u8 fq) := by simpa [Addr.add] using c3
      have e4 : wr.cell? ⟨(x1.add (k * 6)).block, (x1.add (k * 6)).off + 4, none⟩ = some (.int .u8 fc) := by simpa [Addr.add] using c4
      have e5 : wr.cell? ⟨(x1.add (k * 6)).block, (x1.add (k * 6)).off + 5, none⟩ = some (.slice A n cp) := by simpa [Addr.add] using c5
      have hpb : (x1.add (k * 6)).block < wr.heap.size := World.block_lt_of_cell? wr _ c0
      obtain ⟨m, hm1, hm2, hmin⟩ : ∃ m : Nat, m ≤ n ∧ m ≤ 20 ∧ (if (20 : Int) < (n : Int) then (20 : Int) else (n : Int)) = (m : Int) := by
        obtain ⟨m, h1, h2, -, h3⟩ := min_nat n 20
        exact ⟨m, h1, h2, h3⟩
      have hncp := HRow.out.cap.1
      have hcpm := HRow.out.cap.2
      obtain ⟨bl, hbl⟩ : ∃ bl, bl = toB (z.take m) := ⟨_, rfl⟩
      have hrd : ReadsB wr (.slice A m cp) bl := by rw [hbl]; exact row_reads (HRow.out.cut hm1) (by omega)
      have hbm : bl.length = m := by
        obtain ⟨_, _, he, _⟩ := hrd
        injection he with _ e2 _
        exact e2.symm
      have HBM := Lib.hid hbm
      have HRd := Lib.hid hrd
      obtain ⟨tq, hq, hq1⟩ : ∃ q : Nat, bits BinOp.and IntKind.u8 fq 1 = (q : Int) ∧ q ≤ 1 := and_u8 fq 1 (by decide)
      obtain ⟨tc, hc, hc1⟩ : ∃ q : Nat, bits BinOp.and IntKind.u8 fc 1 = (q : Int) ∧ q ≤ 1 := and_u8 fc 1 (by decide)
      have hbytes : ([1] : List UInt8).length + bl.length ≤ 140737488355328 := by simp; omega
      have hki : (k : Int) < (len1 : Int) := by omega
      have hki0 : (0 : Int) ≤ (k : Int) := by omega
      have hmc : (m : Int) ≤ (cp : Int) := by omega
      have hm0 : (0 : Int) ≤ (m : Int) := by omega
      clear hst hrow hrd hbl hbm r1
      go_wp2_with fail
      have ka1 : ¬ ((x1.add (k * 6)).block = wr.heap.size) := by omega
      have ka2 : ¬ ((x1.add (k * 6)).block = wr.heap.size + 1) := by omega
      have bel1 : Hid (Below wr.heap.size wr ((wr.alloc (.cells #[.int .u8 1] 5)).drew)) := by show Below _ _ _; go_grown
      have own1 : Hid (((wr.alloc (.cells #[.int .u8 1] 5)).drew).ownsRow wr.heap.size 5 1 (.slice (some ⟨wr.heap.size, 0, none⟩) 1 1) ([1] : List UInt8).length (bytesV [1])) := own_lit_at (blk_drew (blk_new _ _)) (by omega)
      have rds1 : Hid (ReadsB ((wr.alloc (.cells #[.int .u8 1] 5)).drew) (.slice A m cp) bl) := HRd.out.below bel1.out
      have siz1 : Hid (wr.heap.size ≤ ((wr.alloc (.cells #[.int .u8 1] 5)).drew).heap.size) := bel1.out.size
      have bel2 : Hid (Below wr.heap.size wr (((wr.alloc (.cells #[.int .u8 1] 5)).alloc (.cells #[.int .u8 0, .int .u8 0, .int .u8 0, .int .u8 0, .int .u8 0, .slice none 0 0] 30)).drew)) := by show Below _ _ _; go_grown
      have own2 : Hid ((((wr.alloc (.cells #[.int .u8 1] 5)).alloc (.cells #[.int .u8 0, .int .u8 0, .int .u8 0, .int .u8 0, .int .u8 0, .slice none 0 0] 30)).drew).ownsRow wr.heap.size 5 1 (.slice (some ⟨wr.heap.size, 0, none⟩) 1 1) ([1] : List UInt8).length (bytesV [1])) := own_lit_at (blk_drew (blk_alloc (blk_new _ _) _)) (by omega)
      have rds2 : Hid (ReadsB (((wr.alloc (.cells #[.int .u8 1] 5)).alloc (.cells #[.int .u8 0, .int .u8 0, .int .u8 0, .int .u8 0, .int .u8 0, .slice none 0 0] 30)).drew) (.slice A m cp) bl) := HRd.out.below bel2.out
      have siz2 : Hid (wr.heap.size ≤ (((wr.alloc (.cells #[.int .u8 1] 5)).alloc (.cells #[.int .u8 0, .int .u8 0, .int .u8 0, .int .u8 0, .int .u8 0, .slice none 0 0] 30)).drew).heap.size) := bel2.out.size
      have box2 : Hid ((((wr.alloc (.cells #[.int .u8 1] 5)).alloc (.cells #[.int .u8 0, .int .u8 0, .int .u8 0, .int .u8 0, .int .u8 0, .slice none 0 0] 30)).drew).heap[wr.heap.size + 1]? = some (.cells #[.int .u8 0, .int .u8 0, .int .u8 0, .int .u8 0, .int .u8 0, .slice none 0 0] 30 (0, 0))) := blk_drew (blk_new' _ _ _ (by simp))
      have neb2 : Hid (some (wr.heap.size + 1) ≠ (Value.slice (some ⟨wr.heap.size, 0, none⟩) 1 1).ownBlock) := by show _ ≠ _; simp [Value.ownBlock]
      have bel3 : Hid (Below wr.heap.size wr (((wr.alloc (.cells #[.int .u8 0, .int .u8 0, .int .u8 0, .int .u8 0, .int .u8 0, .slice none 0 0] 30)).alloc (.cells #[.int .u8 1] 5)).drew)) := by show Below _ _ _; go_grown
      have own3 : Hid ((((wr.alloc (.cells #[.int .u8 0, .int .u8 0, .int .u8 0, .int .u8 0, .int .u8 0, .slice none 0 0] 30)).alloc (.cells #[.int .u8 1] 5)).drew).ownsRow wr.heap.size 5 1 (.slice (some ⟨wr.heap.size + 1, 0, none⟩) 1 1) ([1] : List UInt8).length (bytesV [1])) := own_lit_at (blk_drew (blk_new' _ _ _ (by simp))) (by omega)
      have rds3 : Hid (ReadsB (((wr.alloc (.cells #[.int .u8 0, .int .u8 0, .int .u8 0, .int .u8 0, .int .u8 0, .slice none 0 0] 30)).alloc (.cells #[.int .u8 1] 5)).drew) (.slice A m cp) bl) := HRd.out.below bel3.out
      have siz3 : Hid (wr.heap.size ≤ (((wr.alloc (.cells #[.int .u8 0, .int .u8 0, .int .u8 0, .int .u8 0, .int .u8 0, .slice none 0 0] 30)).alloc (.cells #[.int .u8 1] 5)).drew).heap.size) := bel3.out.size
      have box3 : Hid ((((wr.alloc (.cells #[.int .u8 0, .int .u8 0, .int .u8 0, .int .u8 0, .int .u8 0, .slice none 0 0] 30)).alloc (.cells #[.int .u8 1] 5)).drew).heap[wr.heap.size]? = some (.cells #[.int .u8 0, .int .u8 0, .int .u8 0, .int .u8 0, .int .u8 0, .slice none 0 0] 30 (0, 0))) := blk_drew (blk_alloc (blk_new _ _) _)
      have neb3 : Hid (some (wr.heap.size) ≠ (Value.slice (some ⟨wr.heap.size + 1, 0, none⟩) 1 1).ownBlock) := by show _ ≠ _; simp [Value.ownBlock]
      have hll : Hid (bl.length + 1 = ([1] ++ bl : List UInt8).length) := by show _ = _; simp [Nat.add_comm]
      go_cut [11] (fun p wc => OnceR wr wc a0 tq tc ([1] ++ bl) p)
      case first =>
        go_region_held3 (fun w' => w'.cell? ⟨(x1.add (k * 6)).block, (x1.add (k * 6)).off + 3, none⟩ = some (.int .u8 fq) ∧ w'.cell? ⟨(x1.add (k * 6)).block, (x1.add (k * 6)).off + 4, none⟩ = some (.int .u8 fc) ∧ w'.cell? ⟨(x1.add (k * 6)).block, (x1.add (k * 6)).off + 5, none⟩ = some (.slice A n cp))
          ((first
          | with_reducible exact ⟨cell_drew e3, cell_drew e4, cell_drew e5⟩
          | with_reducible exact ⟨cell_drew (cell_alloc_of e3 _), cell_drew (cell_alloc_of e4 _), cell_drew (cell_alloc_of e5 _)⟩
          | with_reducible exact ⟨cell_drew (cell_alloc_of (cell_alloc_of e3 _) _), cell_drew (cell_alloc_of (cell_alloc_of e4 _) _), cell_drew (cell_alloc_of (cell_alloc_of e5 _) _)⟩
          | with_reducible exact ⟨(hb5.cell (p := ⟨(x1.add (k * 6)).block, (x1.add (k * 6)).off + 3, none⟩) hpb).trans e3, (hb5.cell (p := ⟨(x1.add (k * 6)).block, (x1.add (k * 6)).off + 4, none⟩) hpb).trans e4, (hb5.cell (p := ⟨(x1.add (k * 6)).block, (x1.add (k * 6)).off + 5, none⟩) hpb).trans e5⟩
          | with_reducible exact ⟨cell_alloc_of ((hb5.cell (p := ⟨(x1.add (k * 6)).block, (x1.add (k * 6)).off + 3, none⟩) hpb).trans e3) _, cell_alloc_of ((hb5.cell (p := ⟨(x1.add (k * 6)).block, (x1.add (k * 6)).off + 4, none⟩) hpb).trans e4) _, cell_alloc_of ((hb5.cell (p := ⟨(x1.add (k * 6)).block, (x1.add (k * 6)).off + 5, none⟩) hpb).trans e5) _⟩
          | with_reducible exact ⟨cell_set6 ((hb5.cell (p := ⟨(x1.add (k * 6)).block, (x1.add (k * 6)).off + 3, none⟩) hpb).trans e3) ka2, cell_set6 ((hb5.cell (p := ⟨(x1.add (k * 6)).block, (x1.add (k * 6)).off + 4, none⟩) hpb).trans e4) ka2, cell_set6 ((hb5.cell (p := ⟨(x1.add (k * 6)).block, (x1.add (k * 6)).off + 5, none⟩) hpb).trans e5) ka2⟩
          | with_reducible exact ⟨cell_set6 ((hb5.cell (p := ⟨(x1.add (k * 6)).block, (x1.add (k * 6)).off + 3, none⟩) hpb).trans e3) ka1, cell_set6 ((hb5.cell (p := ⟨(x1.add (k * 6)).block, (x1.add (k * 6)).off + 4, none⟩) hpb).trans e4) ka1, cell_set6 ((hb5.cell (p := ⟨(x1.add (k * 6)).block, (x1.add (k * 6)).off + 5, none⟩) hpb).trans e5) ka1⟩
          | with_reducible assumption))
          ((first
          | (refine step_append_reads ?_ (.tmp 56) (.tmp 69) 26 ?_ wr.heap.size 5 i0 Try.underlying26 hi hz0 hz1 hz2 (.slice (some ⟨wr.heap.size + 1, 0, none⟩) 1 1) (.slice A m cp) [1] bl ?_ ?_ ?_ ?_ ?_ ?_ ?_
             rfl
             rfl
             rfl
             with_reducible exact own3.out
             rfl
             with_reducible exact rds3.out
             exact hbytes
             with_reducible exact siz3.out
             intro v5 w5 ho5 hg5
             obtain ⟨A5, c5, rfl⟩ := own_slice ho5
             have hb5 : Below wr.heap.size wr w5 := bel3.out.trans (below_grown hg5 siz3.out (fun k2 e2 => by cases e2; first | exact Nat.le_refl _ | exact Nat.le_succ _))
             have hbx := blk_grown box3.out hg5 neb3.out
             obtain ⟨bx0, bx1, bx2, bx3, bx4, bx5⟩ := blk6 hbx
             obtain ⟨bf0, bf1, bf2, bf3, bf4, bf5⟩ := frz6 hbx
             have HBX := Lib.hid hbx
             have HB5 := Lib.hid hb5
             clear hbx
             have HO5 := Lib.hid ho5
             clear ho5 hg5)
          | (refine step_append_reads ?_ (.tmp 56) (.tmp 69) 26 ?_ wr.heap.size 5 i0 Try.underlying26 hi hz0 hz1 hz2 (.slice (some ⟨wr.heap.size, 0, none⟩) 1 1) (.slice A m cp) [1] bl ?_ ?_ ?_ ?_ ?_ ?_ ?_
             rfl
             rfl
             rfl
             with_reducible exact own2.out
             rfl
             with_reducible exact rds2.out
             exact hbytes
             with_reducible exact siz2.out
             intro v5 w5 ho5 hg5
             obtain ⟨A5, c5, rfl⟩ := own_slice ho5
             have hb5 : Below wr.heap.size wr w5 := bel2.out.trans (below_grown hg5 siz2.out (fun k2 e2 => by cases e2; first | exact Nat.le_refl _ | exact Nat.le_succ _))
             have hbx := blk_grown box2.out hg5 neb2.out
             obtain ⟨bx0, bx1, bx2, bx3, bx4, bx5⟩ := blk6 hbx
             obtain ⟨bf0, bf1, bf2, bf3, bf4, bf5⟩ := frz6 hbx
             have HBX := Lib.hid hbx
             have HB5 := Lib.hid hb5
             clear hbx
             have HO5 := Lib.hid ho5
             clear ho5 hg5)
          | (refine step_append_reads ?_ (.tmp 56) (.tmp 69) 26 ?_ wr.heap.size 5 i0 Try.underlying26 hi hz0 hz1 hz2 (.slice (some ⟨wr.heap.size, 0, none⟩) 1 1) (.slice A m cp) [1] bl ?_ ?_ ?_ ?_ ?_ ?_ ?_
             rfl
             rfl
             rfl
             with_reducible exact own1.out
             rfl
             with_reducible exact rds1.out
             exact hbytes
             with_reducible exact siz1.out
             intro v5 w5 ho5 hg5
             obtain ⟨A5, c5, rfl⟩ := own_slice ho5
             have hb5 : Below wr.heap.size wr w5 := bel1.out.trans (below_grown hg5 siz1.out (fun k2 e2 => by cases e2; first | exact Nat.le_refl _ | exact Nat.le_succ _))
             have HB5 := Lib.hid hb5
             have HO5 := Lib.hid ho5
             clear ho5 hg5)))
        all_goals
          go_wp2_with fail
          go_meet
          case rel => first | with_reducible exact once_new2 hll.out HB5.out HO5.out | with_reducible exact once_set2 hll.out HB5.out HO5.out HBX.out (Nat.le_succ _) | with_reducible exact once_set2 hll.out HB5.out HO5.out HBX.out (Nat.le_refl _)
      case rest =>
       clear c0 c1 c2 c3 c4 c5
       obtain ⟨bx, A5, c5, rfl, hb5, hbx, ho5⟩ := hcut
       obtain ⟨bs, hbs⟩ : ∃ bs : List UInt8, [1] ++ bl = bs := ⟨_, rfl⟩
       have hlen : bs.length = bl.length + 1 := by rw [← hbs]; simp [Nat.add_comm]
       rw [hbs] at hbx ho5
       have HLen := Lib.hid hlen
       have hpos : decide (0 < bs.length) = true := by simp; omega
       have hposi : 0 < bs.length := by omega
       have hbsl : bs.length ≤ 21 := by have := HBM.out; omega
       have HB5 : Hid (Below w.heap.size w wc) := HBr.out.trans (hb5.mono HBr.out.size)
       have HS5 := Lib.hid (HSr.out.below hb5)
       have HX5 := Lib.hid hbx
       have HO5 := Lib.hid ho5
       have HR5 := Lib.hid (own_reads ho5 (by omega))
       have hl5 : w1.heap.size < wc.heap.size := HS5.out.lt
       have hnin : NotIn w1.heap.size (.slice A5 bs.length c5) bs := by
        rintro ad n2 c2 e2 _ e3
        obtain ⟨k1, k2⟩ := own_lt ho5 ad.block (by cases e2; rfl)
        omega
       have HN := Lib.hid hnin
       have hxlt : bx < wc.heap.size := blk_lt hbx
       obtain ⟨y0, y1, y2, y3, y4, y5⟩ := blk6 hbx
       clear hb5 hbx ho5 hnin hlen hbs bel1 bel2 bel3 own1 own2 own3 rds1 rds2 rds3 siz1 siz2 siz3 box2 box3 neb2 neb3 e3 e4 e5
       have kf4 := fieldFrame4
       by_cases hqt : (tq : Int) = t
       · subst hqt
         have hne1 : ((1 - (tq : Int)) != (tq : Int)) = true := by simp; omega
         have hwt : IntKind.u8.wrap (1 - (tq : Int)) = 1 - (tq : Int) := IntWalk.u8_in _ (by omega)
         go_wp2_with fail
         refine (masterK_heard _ w1.heap.size w1.heap.size (MS.once a0 tq) (MS.once a0 (1 - tq)) ⟨a0, 5, 1, tq, tc, bs⟩ A5 bs.length c5 bs true rfl HS5.out HR5.out HN.out (by simp [MS.once]) (by simp [MS.once]) (by rw [MS.once_reply _ _ _ _ _ hposi, if_pos rfl, if_pos rfl])).mono ?_
         rintro e w8 ⟨v8, rfl, ho8, hk8, hs8⟩
         obtain ⟨A8, c8, rfl⟩ := own_slice ho8
         have hx8 := hk8.blk HX5.out (by decide)
         have kd1 : (convert 26 9 (.slice A8 bs.length c8)).run Try.prog w8 = .ok (.string ⟨bs.toArray⟩) w8 := conv_bytes _ _ bs (own_reads ho8 (by omega))
         have kd2 : (convert 26 9 (.slice A5 bs.length c5)).run Try.prog w8 = .ok (.string ⟨bs.toArray⟩) w8 := conv_bytes _ _ bs (own_reads (hk8.own (by decide) HO5.out) (by omega))
         have HB8 : Hid (Below w.heap.size w w8) := stepK HB5.out HB5.out.size (Below.refl _ _) hk8 hg
         have HS8 := Lib.hid hs8
         have HX8 := Lib.hid hx8
         obtain ⟨x80, x81, x82, x83, x84, x85⟩ := blk6 hx8
         clear ho8 hk8 hs8 hx8 y0 y1 y2 y3 y4 y5
         go_wp2_with fail
         refine (master_next _ w1.heap.size w1.heap.size _ HS8.out).mono ?_
         rintro e w9 ⟨v9, rfl, ho, hb9⟩
         obtain ⟨A9, c9, rfl⟩ := own_slice ho
         have en := MS.once_next a0 (1 - tq)
         rw [en]
         clear en
         have HB9 : Hid (Below w.heap.size w w9) := HB8.out.trans (hb9.mono HB8.out.size)
         have HS9 := Lib.hid (HS8.out.below hb9)
         obtain ⟨x90, x91, x92, x93, x94, x95⟩ := blk6 (blk_below' HX8.out hb9)
         clear ho hb9 kd1 kd2 x80 x81 x82 x83 x84 x85
         go_wp2_with fail
         go_roundw
         case rel => exact ⟨k + 1, 1 - tq, by omega, by go_num, rfl, by have := HT.out; omega, HB9.out, HS9.out⟩
         case measure => simp [intOf]; omega
       · have q1 : ((tq : Int) == t) = false := by simpa using hqt
         have q2 : ((tq : Int) != t) = true := by simpa using hqt
         go_wp2_with fail
         refine (masterK_heard _ w1.heap.size w1.heap.size (MS.once a0 t) (MS.once a0 t) ⟨a0, 5, 1, tq, tc, bs⟩ A5 bs.length c5 [] true rfl HS5.out HR5.out HN.out (by simp [MS.once]) (by simp [MS.once]) (by rw [MS.once_reply _ _ _ _ _ hposi, if_neg hqt, if_neg hqt])).mono ?_
         rintro e w8 ⟨v8, rfl, ho8, hk8, hs8⟩
         obtain ⟨A8, c8, rfl⟩ := own_slice ho8
         have hx8 := hk8.blk HX5.out (by decide)
         have HB8 : Hid (Below w.heap.size w w8) := stepK HB5.out HB5.out.size (Below.refl _ _) hk8 hg
         have HS8 := Lib.hid hs8
         have HX8 := Lib.hid hx8
         obtain ⟨x80, x81, x82, x83, x84, x85⟩ := blk6 hx8
         clear ho8 hk8 hs8 hx8 y0 y1 y2 y3 y4 y5
         go_wp2_with fail
         refine (master_next _ w1.heap.size w1.heap.size _ HS8.out).mono ?_
         rintro e w9 ⟨v9, rfl, ho, hb9⟩
         obtain ⟨A9, c9, rfl⟩ := own_slice ho
         have en := MS.once_next a0 t
         rw [en]
         clear en
         have HB9 : Hid (Below w.heap.size w w9) := HB8.out.trans (hb9.mono HB8.out.size)
         have HS9 := Lib.hid (HS8.out.below hb9)
         obtain ⟨x90, x91, x92, x93, x94, x95⟩ := blk6 (blk_below' HX8.out hb9)
         clear ho hb9 x80 x81 x82 x83 x84 x85
         go_wp2_with fail
         go_roundw
         case rel => exact ⟨k + 1, t, by omega, by go_num, rfl, HT.out, HB9.out, HS9.out⟩
         case measure => simp [intOf]; omega
    · have hep : (MS.once a0 t).epoch = 1 := rfl
      by_cases h1 : k < len1
      · have hd2 : decide ((k : Int) < (len1 : Int)) = true := by simp; omega
        have hd : decide ((k : Int) < 200) = false := by simp; omega
        go_wp2_with (go_at_call 15; refine (master_epoch _ w1.heap.size w1.heap.size (MS.once a0 t) HSr.out).mono ?_; rintro e w7 ⟨rfl, rfl⟩)
        go_ret
        exact ⟨rfl, HBr.out⟩
      · have hd : decide ((k : Int) < (len1 : Int)) = false := by simp; omega
        go_wp2_with (go_at_call 15; refine (master_epoch _ w1.heap.size w1.heap.size (MS.once a0 t) HSr.out).mono ?_; rintro e w7 ⟨rfl, rfl⟩)
        go_ret
        exact ⟨rfl, HBr.out⟩
end Go.Proofs.Ytdgbmiobfehpdaa
