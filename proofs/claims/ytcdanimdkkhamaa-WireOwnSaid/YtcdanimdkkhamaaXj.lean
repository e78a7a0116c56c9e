/- The walk of lamplightlaw06.WireOwn. -/
import Derived.Test.YtcdanimdkkhamaaXi
set_option linter.unusedVariables false
set_option linter.unusedSimpArgs false
namespace Go.Proofs.Ytcdanimdkkhamaa
open Go.RowKit

/-- What the walk of WireOwn holds. -/
structure OwnW (w : World) (g : Nat) (l : List (List UInt8 × Nat)) (ls : List (List UInt8)) (vw vb vf : Value) (nb nf : Nat) (fk fn fx : Int) (wr : World) : Prop where
  bl : Below w.heap.size w wr
  wi : WireAt wr g g 9 l
  wa : ReadsS wr vw ls
  ty : Ty9 wr vw
  bo : wr.heap[w.heap.size]? = some (.cells #[.int .i64 fk, .int .i64 fn, .int .u8 fx, vf] 30 (0, 0))
  lb : Loose wr w.heap.size vb nb
  lf : Loose wr w.heap.size vf nf
section
variable {w wr w2 : World} {g : Nat} {l l' : List (List UInt8 × Nat)} {ls : List (List UInt8)} {vw vb vf : Value} {nb nf : Nat} {fk fn fx : Int}
theorem OwnW.kept (h : OwnW w g l ls vw vb vf nb nf fk fn fx wr) (k : Kept g [57, 60] wr w2) (hg : w.heap.size ≤ g) (hgw : g ≤ wr.heap.size) (hw : WireAt w2 g g 9 l') : OwnW w g l' ls vw vb vf nb nf fk fn fx w2 :=
  ⟨h.bl.trans ((k.below hgw).mono hg), hw, h.wa.kept k h.ty (by decide), fun A n c e => by obtain ⟨cs, hc⟩ := h.ty A n c e; exact ⟨cs, k.blk hc (by decide)⟩, k.blk h.bo (by decide), h.lb.kept k (by decide), h.lf.kept k (by decide)⟩
theorem OwnW.below (h : OwnW w g l ls vw vb vf nb nf fk fn fx wr) (hb : Below wr.heap.size wr w2) : OwnW w g l ls vw vb vf nb nf fk fn fx w2 :=
  ⟨h.bl.trans (hb.mono h.bl.size), h.wi.below hb, h.wa.below hb, fun A n c e => by obtain ⟨cs, hc⟩ := h.ty A n c e; exact ⟨cs, blk_below' hc hb⟩, blk_below' h.bo hb, h.lb.below hb, h.lf.below hb⟩
theorem ty9_set (h : Ty9 wr vw) {k : Nat} (hk : ∃ cs, wr.heap[k]? = some (.cells cs 5 (0, 0))) (i : Nat) (u : Value) : Ty9 (wr.setCell ⟨k, i, none⟩ u) vw := by
  intro A n c e
  obtain ⟨cs, hc⟩ := h A n c e
  obtain ⟨ds, hk⟩ := hk
  refine ⟨cs, far1 ?_ hc⟩
  simp
  rintro rfl
  rw [hk] at hc
  cases hc
theorem reads9_set (h : ReadsS wr vw ls) (ht : Ty9 wr vw) {k : Nat} (hk : ∃ cs, wr.heap[k]? = some (.cells cs 5 (0, 0))) (i : Nat) (u : Value) : ReadsS (wr.setCell ⟨k, i, none⟩ u) vw ls := by
  obtain ⟨A, c, rfl, h2, h3, h4⟩ := h
  refine ⟨A, c, rfl, h2, h3, fun ad he j u' hu => ?_⟩
  subst he
  have h5 := h4 ad rfl j u' hu
  obtain ⟨cs, hc⟩ := ht ad _ _ rfl
  obtain ⟨ds, hk⟩ := hk
  have hbk : (ad.add j).block = ad.block := by unfold Addr.add; split <;> rfl
  refine (World.cell?_of_block (Below.heap_setCell wr ⟨k, i, none⟩ u _ ?_)).trans h5
  rw [hbk]
  simp
  intro e
  rw [e, hk] at hc
  cases hc
/-- A byte is written over. -/
theorem OwnW.set (h : OwnW w g l ls vw vb vf nb nf fk fn fx wr) {k : Nat} (hk : ∃ cs, wr.heap[k]? = some (.cells cs 5 (0, 0))) (hkw : w.heap.size ≤ k) (i : Nat) (y : Int) (h0 : 0 ≤ y) (h1 : y ≤ 255) (hw : WireAt (wr.setCell ⟨k, i, none⟩ (.int .u8 y)) g g 9 l) :
    OwnW w g l ls vw vb vf nb nf fk fn fx (wr.setCell ⟨k, i, none⟩ (.int .u8 y)) := by
  refine ⟨h.bl.setCell hkw _, hw, reads9_set h.wa h.ty hk i _, ty9_set h.ty hk i _, far1 ?_ h.bo, h.lb.set k i y h0 h1, h.lf.set k i y h0 h1⟩
  obtain ⟨ds, hk⟩ := hk
  have := h.bo
  simp
  intro e
  rw [e, hk] at this
  cases this
end
/-- While what became of them is written over. -/
def OwnX (w : World) (g : Nat) (l : List (List UInt8 × Nat)) (ls : List (List UInt8)) (vw vb vf : Value) (nb nf : Nat) (fk fn fx : Int) (w8 : World) (vx : Value) (wr : World) : Prop :=
  OwnW w g l ls vw vb vf nb nf fk fn fx wr ∧ Below w8.heap.size w8 wr ∧ LooseRows wr w8.heap.size vx (ls.map List.length)
theorem OwnX.set {w wr w8 : World} {g : Nat} {l : List (List UInt8 × Nat)} {ls : List (List UInt8)} {vw vb vf vx : Value} {nb nf : Nat} {fk fn fx : Int} (h : OwnX w g l ls vw vb vf nb nf fk fn fx w8 vx wr) (hw8 : WireAt w8 g g 9 l) (hws : w.heap.size ≤ w8.heap.size)
    {k : Nat} (hk : ∃ cs, wr.heap[k]? = some (.cells cs 5 (0, 0))) (hkw : w8.heap.size ≤ k) (i : Nat) (y : Int) (h0 : 0 ≤ y) (h1 : y ≤ 255) : OwnX w g l ls vw vb vf nb nf fk fn fx w8 vx (wr.setCell ⟨k, i, none⟩ (.int .u8 y)) :=
  have hb := h.2.1.setCell hkw (p := ⟨k, i, none⟩) (.int .u8 y)
  ⟨h.1.set hk (Nat.le_trans hws hkw) i y h0 h1 (hw8.below hb), hb, h.2.2.set k i y h0 h1 hk⟩
/-- Behind i of the last Takes. -/
def OwnT (w : World) (g i : Nat) (ls : List (List UInt8)) (vw vo : Value) (wr : World) : Prop :=
  ∃ l outs, Below w.heap.size w wr ∧ WireAt wr g g 9 l ∧ ReadsS wr vw ls ∧ Ty9 wr vw ∧ RowsAt wr g vo outs ∧ outs ++ l.map Prod.fst = ls ∧ due l ≤ 18 - i

theorem own_ones {w : World} {B : Nat} {vs : List Value} {ls : List (List UInt8)} (h : ∀ (i : Nat) (u : Value) (b : List UInt8), vs[i]? = some u → ls[i]? = some b → w.ownsRow B 5 1 u b.length (bytesV b)) (hl : vs.length = ls.length) : ∀ u ∈ vs, u.oneCell' = true := by
  intro u hu
  obtain ⟨i, hi, rfl⟩ := List.getElem_of_mem hu
  exact own_one (h i _ _ (List.getElem?_eq_getElem hi) (List.getElem?_eq_getElem (by omega)))
theorem ownT_next {w wv w7 w8 : World} {g k : Nat} {ls outs : List (List UInt8)} {l : List (List UInt8 × Nat)} {vw vo v8 : Value} {vs7 vso : List Value}
    (hbl : Below w.heap.size w wv) (hwi : WireAt wv g g 9 l) (hwg : w.heap.size ≤ g) (hgw : g ≤ wv.heap.size) (hwa : ReadsS wv vw ls) (hty : Ty9 wv vw) (hk7 : Kept g [57, 60] wv w7) (hs7 : WireAt w7 g g 9 (takeF l).2) (hvro : ∀ (i : Nat) (u : Value) (b : List UInt8), vso[i]? = some u → outs[i]? = some b → w7.ownsRow g 5 1 u b.length (bytesV b)) (hvr7 : ∀ (i : Nat) (u : Value) (b : List UInt8), vs7[i]? = some u → (takeF l).1[i]? = some b → w7.ownsRow g 5 1 u b.length (bytesV b))
    (hvlo : vso.length = outs.length) (hvl7 : vs7.length = (takeF l).1.length) (hvoo : w7.ownsRow g 28 1 vo outs.length vso) (ho8 : w8.ownsRow g 28 1 v8 (outs.length + (takeF l).1.length) (vso ++ vs7)) (hg8 : w7.grownBy w8 vo.ownBlock) (heq : outs ++ l.map Prod.fst = ls) (hdue : due l ≤ 18 - k)
    : OwnT w g (k + 1) ls vw v8 w8 := by
  have k8 : Kept 0 [28] w7 w8 := Kept.of_row hg8 (off_lower (off_of_own hvoo) (Nat.zero_le _)) (by simp)
  have hb7 : Below w.heap.size w w7 := hbl.trans ((hk7.below hgw).mono hwg)
  have hb8 : Below w.heap.size w w8 := hb7.trans (below_grown hg8 hb7.size (fun kk hkk => Nat.le_trans hwg (own_lt hvoo kk hkk).1))
  have hty7 : Ty9 w7 vw := fun A n c e => by obtain ⟨cs, hc⟩ := hty A n c e; exact ⟨cs, hk7.blk hc (by decide)⟩
  refine ⟨(takeF l).2, outs ++ (takeF l).1, hb8, hs7.kept k8 (by decide) (by decide) (by decide), (hwa.kept hk7 hty (by decide)).kept k8 hty7 (by decide), fun A n c e => by obtain ⟨cs, hc⟩ := hty7 A n c e; exact ⟨cs, k8.blk hc (by decide)⟩, ?_, ?_, ?_⟩
  · refine ⟨vso ++ vs7, by simp [hvlo, hvl7], by rw [List.length_append]; exact ho8, fun i u b hu hb => ?_⟩
    by_cases hi : i < outs.length
    · rw [List.getElem?_append_left (by omega)] at hu
      rw [List.getElem?_append_left hi] at hb
      exact own_kept (hvro i u b hu hb) k8 (by decide)
    · rw [List.getElem?_append_right (by omega), hvlo] at hu
      rw [List.getElem?_append_right (by omega)] at hb
      exact own_kept (hvr7 _ u b hu hb) k8 (by decide)
  · rw [List.append_assoc, take_texts, heq]
  · have := due_take l
    omega
theorem mk_fault {w : World} {B cF : Nat} {AF : Option Addr} {fb : List UInt8} {fk fn fx : Int} {f : FT} (ho : w.ownsRow B 5 1 (.slice AF fb.length cF) fb.length (bytesV fb)) (hc : cF ≤ 9223372036854775807) (hl : fb.length ≤ 200) (h1 : fn ≤ 9223372036854775807) (h2 : 0 ≤ fx) (h3 : fx ≤ 255) (hf : f = ⟨fk, fn, fx, fb⟩) :
    FaultV w (.agg #[.int .i64 fk, .int .i64 fn, .int .u8 fx, .slice AF fb.length cF]) f := by
  subst hf
  exact ⟨AF, cF, rfl, (own_reads ho (by omega)).full (fun A' n' c' e => by injection e with _ _ e3; omega), h1, h2, h3⟩
theorem own7_step {w6 w w2 : World} {bx : Nat} {c0 c1 c2 c3 v : Value} {b : List UInt8} (hr : ReadsB w6 v b) (h : Below w6.heap.size w6 w ∧ w.cell? ⟨bx, 0, none⟩ = some c0 ∧ w.cell? ⟨bx, 1, none⟩ = some c1 ∧ w.cell? ⟨bx, 2, none⟩ = some c2 ∧ w.cell? ⟨bx, 3, none⟩ = some c3 ∧ (convert 28 9 v).run Try.prog w = .ok (.string ⟨b.toArray⟩) w) (hb : Below w.heap.size w w2) :
    Below w6.heap.size w6 w2 ∧ w2.cell? ⟨bx, 0, none⟩ = some c0 ∧ w2.cell? ⟨bx, 1, none⟩ = some c1 ∧ w2.cell? ⟨bx, 2, none⟩ = some c2 ∧ w2.cell? ⟨bx, 3, none⟩ = some c3 ∧ (convert 28 9 v).run Try.prog w2 = .ok (.string ⟨b.toArray⟩) w2 :=
  have f : ∀ {q : Addr} {v : Value}, w.cell? q = some v → w2.cell? q = some v := fun hc => (hb.cell (World.block_lt_of_cell? w _ hc)).trans hc
  have hb2 : Below w6.heap.size w6 w2 := h.1.trans (hb.mono h.1.size)
  ⟨hb2, f h.2.1, f h.2.2.1, f h.2.2.2.1, f h.2.2.2.2.1, conv_bytes _ _ _ (hr.below hb2)⟩

set_option maxHeartbeats 8000000 in
set_option maxRecDepth 100000 in
theorem wown_walk (a0 : Option Addr) (len0 cap0 : Nat) (z0 : List Int) (v1 : Value) (w : World) (w0 : IsRow8 w a0 len0 cap0 z0) (w1 : FaultIn w v1) :
    Calls Try.prog 6 #[.slice a0 len0 cap0, v1] w fun e w' => e = .returned (.bool true) ∧ Below w.heap.size w w' := by
  obtain ⟨fk, fn, fx, A, n, c, z, rfl, hrow, hn2, hx0, hx1⟩ := w1
  have hcc := w0.cap
  have hcf := hrow.cap
  obtain ⟨m, hm1, hm2, hmin⟩ : ∃ m : Nat, m ≤ len0 ∧ m ≤ 200 ∧ (if (200 : Int) < (len0 : Int) then (200 : Int) else (len0 : Int)) = (m : Int) := by
    by_cases h : 200 < len0
    · exact ⟨200, by omega, by omega, by rw [if_pos (by omega)]; rfl⟩
    · exact ⟨len0, by omega, by omega, by rw [if_neg (by omega)]⟩
  obtain ⟨b, hb⟩ : ∃ b, b = toB (z0.take m) := ⟨_, rfl⟩
  have hrd : ReadsB w (.slice a0 m cap0) b := by rw [hb]; exact row_reads (w0.cut hm1) (by omega)
  have hbl : b.length = m := by
    obtain ⟨_, _, he, _⟩ := id hrd
    injection he with _ e2 _
    exact e2.symm
  subst hbl
  obtain ⟨mf, hf1, hf2, hfmin⟩ : ∃ m : Nat, m ≤ n ∧ m ≤ 200 ∧ (if (200 : Int) < (n : Int) then (200 : Int) else (n : Int)) = (m : Int) := by
    by_cases h : 200 < n
    · exact ⟨200, by omega, by omega, by rw [if_pos (by omega)]; rfl⟩
    · exact ⟨n, by omega, by omega, by rw [if_neg (by omega)]⟩
  obtain ⟨fb, hfb⟩ : ∃ b, b = toB (z.take mf) := ⟨_, rfl⟩
  have hrf : ReadsB w (.slice A mf c) fb := by rw [hfb]; exact row_reads (hrow.cut hf1) (by omega)
  have hfl : fb.length = mf := by
    obtain ⟨_, _, he, _⟩ := id hrf
    injection he with _ e2 _
    exact e2.symm
  subst hfl
  have HMIN := Lib.hid hmin
  have HFMIN := Lib.hid hfmin
  have HRD := Lib.hid hrd
  have HRF := Lib.hid hrf
  clear hrd hb hmin hrf hfb hfmin hrow w0
  go_enter Try.func6, Try.ntmps6
  go_wp2_with fail
  refine (shown_any _).mono ?_
  rintro e w2 ⟨rfl, hb2⟩
  have hbx := blk_below' (blk_new w (.cells #[.int .i64 fk, .int .i64 fn, .int .u8 fx, .slice A n c] 30)) hb2
  have HBX := Lib.hid hbx
  have HB2 : Hid (Below w.heap.size w w2) := ((Below.refl _ _).alloc (Nat.le_refl _) _).trans (hb2.mono (by simp))
  have hsz2 : w.heap.size < w2.heap.size := blk_lt hbx
  clear hb2 hbx
  go_upto_region 2 with fail
  go_cut [0] (fun v w' => ∃ A0 c0, v = .slice A0 b.length c0 ∧ Below w2.heap.size w2 w' ∧ w'.ownsRow w2.heap.size 5 1 v b.length (bytesV b))
  case first =>
    go_wp2_with fail
    refine (few_any _ a0 len0 cap0 b.length HMIN.out hm1 hcc.1).mono ?_
    rintro e v2 ⟨rfl, rfl⟩
    go_wp2_with (at_builtin; go_loud (refine wpList_append_bytes rfl (.tmp 16) (.tmp 18) rfl w2.heap.size (.slice (some ⟨w2.heap.size, 0, none⟩) 0 0) 0 [] rfl ?_ (.slice a0 b.length cap0) b rfl ?_ ?_ ?_ ?_))
    · exact own_empty (blk_new _ _) (Nat.le_refl _)
    · exact HRD.out.below (HB2.out.alloc (by omega) _)
    · omega
    · simp
    intro v3 w3 ho3 hg3
    obtain ⟨A3, c3, rfl⟩ := own_slice ho3
    have HO3 := Lib.hid ho3
    have HG3 := Lib.hid hg3
    clear ho3 hg3
    go_wp2_with fail
    go_meet
    case rel => exact ⟨A3, c3, rfl, ((Below.refl w2.heap.size w2).alloc (Nat.le_refl _) (.cells #[] 5)).grown HG3.out (by simp) (fun k hk => by simp [Value.ownBlock] at hk; omega), HO3.out⟩
  case rest =>
  obtain ⟨w3, rfl⟩ : ∃ x, x = wc := ⟨wc, rfl⟩
  obtain ⟨A0, c0, rfl, hb3, ho3⟩ := hcut
  have HO3 := Lib.hid ho3
  have HB3 : Hid (Below w.heap.size w w3) := HB2.out.trans (hb3.mono (by omega))
  have hbx := blk_below' HBX.out hb3
  have HBX3 := Lib.hid hbx
  have hsz3 : w2.heap.size ≤ w3.heap.size := hb3.size
  have x3 := blk_cell hbx 3
  have xf := blk_frozen hbx 3
  simp at x3
  have x3a : ∀ o, (w3.alloc o).cell? ⟨w.heap.size, 3, none⟩ = some (.slice A n c) := fun o => by have := blk_cell (blk_alloc hbx o) 3; simpa using this
  clear hb3 ho3 hbx HBX HB2
  go_upto_region 3 with fail
  go_cut [] (fun w' => ∃ AF cF, Below w.heap.size w w' ∧ w3.heap.size ≤ w'.heap.size ∧ w'.heap[w.heap.size]? = some (.cells #[.int .i64 fk, .int .i64 fn, .int .u8 fx, .slice AF fb.length cF] 30 (0, 0)) ∧ w'.ownsRow w2.heap.size 5 1 (.slice A0 b.length c0) b.length (bytesV b) ∧ w'.ownsRow w2.heap.size 5 1 (.slice AF fb.length cF) fb.length (bytesV fb))
  case first =>
    go_wp2_with fail
    refine (few_any _ A n c fb.length HFMIN.out hf1 hcf.1).mono ?_
    rintro e v2 ⟨rfl, rfl⟩
    go_wp2_with (at_builtin; go_loud (refine wpList_append_bytes rfl (.tmp 20) (.tmp 23) rfl w3.heap.size (.slice (some ⟨w3.heap.size, 0, none⟩) 0 0) 0 [] rfl ?_ (.slice A fb.length c) fb rfl ?_ ?_ ?_ ?_))
    · exact own_empty (blk_new _ _) (Nat.le_refl _)
    · exact HRF.out.below (HB3.out.alloc (by omega) _)
    · omega
    · simp
    intro v4 w4 ho4 hg4
    obtain ⟨AF, cF, rfl⟩ := own_slice ho4
    have hb4 : Below w3.heap.size w3 w4 := ((Below.refl w3.heap.size w3).alloc (Nat.le_refl _) (.cells #[] 5)).grown hg4 (by simp) (fun k hk => by simp [Value.ownBlock] at hk; omega)
    have hbx4 := blk_below' HBX3.out hb4
    have x4 := blk_cell hbx4 3
    have xf4 := blk_frozen hbx4 3
    simp at x4
    have HBX4 := Lib.hid hbx4
    have HO4 := Lib.hid ho4
    have HB4 := Lib.hid hb4
    clear ho4 hg4 hb4 hbx4
    go_wp2_with fail
    go_meet
    case rel =>
      refine ⟨AF, cF, (HB3.out.trans (HB4.out.mono HB3.out.size)).setCell (Nat.le_refl _) _, by have := HB4.out.size; simpa using this, ?_, ?_, ?_⟩
      · have := blk_set HBX4.out 3 (.slice AF fb.length cF)
        simpa using this
      · exact own_keep (own_below HO3.out HB4.out) fun k hk => Below.heap_setCell _ _ _ _ (own_ne (own_below HO3.out HB4.out) HBX4.out (by decide) k hk)
      · exact own_lower (own_keep HO4.out fun k hk => Below.heap_setCell _ _ _ _ (own_ne HO4.out HBX4.out (by decide) k hk)) hsz3
  case rest =>
  obtain ⟨w5, rfl⟩ : ∃ x, x = wc := ⟨wc, rfl⟩
  obtain ⟨AF, cF, hb5, hsz5, hbx5, ho5, hf5⟩ := hcut
  obtain ⟨f, hfd⟩ : ∃ f : FT, f = ⟨fk, fn, fx, fb⟩ := ⟨_, rfl⟩
  have hbs : w.heap.size < w5.heap.size := blk_lt hbx5
  have hcF : cF ≤ 9223372036854775807 := by
    rcases hf5.2 with ⟨h0, _⟩ | ⟨g', cap, cur, he, _, hh, h1, h2, _⟩
    · injection h0 with _ _ e3; omega
    · injection he with _ _ e3; unfold maxLen at h2; omega
  have hc0 : c0 ≤ 9223372036854775807 := by
    rcases ho5.2 with ⟨h0, _⟩ | ⟨g', cap, cur, he, _, hh, h1, h2, _⟩
    · injection h0 with _ _ e3; omega
    · injection he with _ _ e3; unfold maxLen at h2; omega
  have hlowb : Hid (∀ k, (Value.slice A0 b.length c0).ownBlock = some k → k < w5.heap.size) := fun k hk => (own_lt ho5 k hk).2
  have hlowf : Hid (∀ k, (Value.slice AF fb.length cF).ownBlock = some k → k < w5.heap.size) := fun k hk => (own_lt hf5 k hk).2
  have hfv : FaultV w5 (.agg #[.int .i64 fk, .int .i64 fn, .int .u8 fx, .slice AF fb.length cF]) f := by
    rw [hfd]
    exact ⟨AF, cF, rfl, (own_reads hf5 (by omega)).full (fun A' n' c' e => by injection e with _ _ e3; omega), hn2, hx0, hx1⟩
  have HFV := Lib.hid hfv
  have HRB := Lib.hid (own_reads ho5 (by omega))
  have HLB := Lib.hid (show Loose w5 w.heap.size (.slice A0 b.length c0) b.length from ⟨b, rfl, own_lower ho5 (by omega)⟩)
  have HLF := Lib.hid (show Loose w5 w.heap.size (.slice AF fb.length cF) fb.length from ⟨fb, rfl, own_lower hf5 (by omega)⟩)
  have HBX5 := Lib.hid hbx5
  have HB5 := Lib.hid hb5
  have HVC : Hid (∀ A1 n1 c1, Value.slice A0 b.length c0 = .slice A1 n1 c1 → c1 ≤ 9223372036854775807) := cap_lit hc0
  have hfn : f.n ≤ 9223372036854775807 := by rw [hfd]; exact hn2
  have hffb : f.b.length ≤ 9223372036854775807 := by rw [hfd]; show fb.length ≤ _; omega
  have hfx0 : 0 ≤ f.x := by rw [hfd]; exact hx0
  have hfx1 : f.x ≤ 255 := by rw [hfd]; exact hx1
  have HOB5 := Lib.hid ho5
  have HOF5 := Lib.hid hf5
  have HFD := Lib.hid hfd
  clear ho5 hf5 hbx5 hb5 hfv hfd x3 x3a xf HBX3 HB3 HO3
  go_wp2_with fail
  refine (wire_new _ 9 9 rfl (by omega)).mono ?_
  rintro e w6 ⟨rfl, hb6, hs6⟩
  have hbx6 := blk_below' HBX5.out hb6
  have y0 := blk_cell hbx6 0
  have y1 := blk_cell hbx6 1
  have y2 := blk_cell hbx6 2
  have y3 := blk_cell hbx6 3
  simp at y0 y1 y2 y3
  have HBX6 := Lib.hid hbx6
  have HB6 := Lib.hid (HB5.out.trans (hb6.mono (by omega)))
  have HB56 := Lib.hid hb6
  have HFV6 := Lib.hid (HFV.out.below hb6)
  have HRB6 := Lib.hid (HRB.out.below hb6)
  have HLB6 := Lib.hid (HLB.out.below hb6)
  have HLF6 := Lib.hid (HLF.out.below hb6)
  have HS6 := Lib.hid hs6
  have hsz6 : w5.heap.size < w6.heap.size := hs6.lt
  obtain ⟨ls, hls⟩ : ∃ ls, ls = f.of b := ⟨_, rfl⟩
  have HLS := Lib.hid hls
  clear hb6 hs6 hbx6 HBX5 HB5 HFV HRB HLB HLF hls
  go_upto_region 7 with fail
  go_cut [7] (fun v w' => ∃ AC cC, v = .slice AC ls.length cC ∧ Below w6.heap.size w6 w' ∧ ReadsS w' v ls ∧ Ty9 w' v)
  case first =>
    have kcv := conv_bytes w6 (.slice A0 b.length c0) b HRB6.out
    go_region_held3 (fun w' => Below w6.heap.size w6 w' ∧ w'.cell? ⟨w.heap.size, 0, none⟩ = some (.int .i64 fk) ∧ w'.cell? ⟨w.heap.size, 1, none⟩ = some (.int .i64 fn) ∧ w'.cell? ⟨w.heap.size, 2, none⟩ = some (.int .u8 fx) ∧ w'.cell? ⟨w.heap.size, 3, none⟩ = some (.slice AF fb.length cF) ∧ (convert 28 9 (.slice A0 b.length c0)).run Try.prog w' = .ok (.string ⟨b.toArray⟩) w')
      ((first
        | exact ⟨(Below.refl _ _).drew, y0, y1, y2, y3, conv_bytes _ _ b (HRB6.out.below (drew_below _))⟩
        | assumption
        | exact own7_step HRB6.out (by assumption) (by assumption)))
      ((first
        | (go_at_call 16; refine (ref_any _ _ f ?_).mono ?_; exact HFV6.out.below (‹Below w6.heap.size w6 _ ∧ _›).1; rintro e wB ⟨rfl, hbB⟩)
        | (go_at_call 15; refine (refof_any _ f b hfn hffb hfx0 hfx1 hm2).mono ?_; rintro e wC ⟨vC, rfl, hC, hbC, _, htC⟩; obtain ⟨AC, cC, rfl, _⟩ := id hC)))
    all_goals
      go_wp2_with fail
      go_meet
      case rel => exact ⟨AC, cC, by rw [HLS.out], (‹Below w6.heap.size w6 wC ∧ _›).1, by rw [HLS.out]; exact hC, htC⟩
  case rest =>
  obtain ⟨w7, rfl⟩ : ∃ x, x = wc := ⟨wc, rfl⟩
  obtain ⟨AC, cC, rfl, hb7, hC7, ht7⟩ := hcut
  have hbx7 := blk_below' HBX6.out hb7
  have HOB7 := Lib.hid (own_below HOB5.out ((by exact HB56.out.trans (hb7.mono HB56.out.size)) : Below w5.heap.size w5 w7))
  have HOF7 := Lib.hid (own_below HOF5.out ((by exact HB56.out.trans (hb7.mono HB56.out.size)) : Below w5.heap.size w5 w7))
  have HW7 := Lib.hid (show OwnW w w5.heap.size [] ls (.slice AC ls.length cC) (.slice A0 b.length c0) (.slice AF fb.length cF) b.length fb.length fk fn fx w7 from
    ⟨HB6.out.trans (hb7.mono HB6.out.size), HS6.out.below hb7, hC7, ht7, hbx7, HLB6.out.below hb7, HLF6.out.below hb7⟩)
  have y0 := blk_cell hbx7 0
  have y1 := blk_cell hbx7 1
  have y2 := blk_cell hbx7 2
  have y3 := blk_cell hbx7 3
  simp at y0 y1 y2 y3
  have hF : putF 9 [] f b = (0, heldF ls f.held) := by
    have := FT.of_len f b
    unfold putF
    rw [if_neg (by simp; omega), ← HLS.out]
    rfl
  have HF := Lib.hid hF
  have hsz7 : w6.heap.size ≤ w7.heap.size := hb7.size
  clear hb7 hC7 ht7 hbx7 hF HB6 HS6 HLB6 HLF6 HBX6 HFV6 HRB6
  go_wp2_with fail
  refine (wire_put _ w5.heap.size w5.heap.size 9 [] (heldF ls f.held) 0 (.agg #[.int .i64 fk, .int .i64 fn, .int .u8 fx, .slice AF fb.length cF]) (.slice A0 b.length c0) f b HW7.out.wi (mk_fault HOF7.out hcF hf2 hn2 hx0 hx1 HFD.out) (own_reads HOB7.out (by omega)) hm2 HVC.out (by simp) HF.out).mono ?_
  rintro e w8 ⟨rfl, hk8, hs8⟩
  have HW8 := Lib.hid (show OwnW w w5.heap.size (heldF ls f.held) ls (.slice AC ls.length cC) (.slice A0 b.length c0) (.slice AF fb.length cF) b.length fb.length fk fn fx w8 from HW7.out.kept hk8 (by omega) (by omega) hs8)
  have HOB8 := Lib.hid (own_kept HOB7.out hk8 (by decide))
  have HOF8 := Lib.hid (own_kept HOF7.out hk8 (by decide))
  have hsz8 : w7.heap.size ≤ w8.heap.size := hk8.size
  have y0 := blk_cell HW8.out.bo 0
  have y1 := blk_cell HW8.out.bo 1
  have y2 := blk_cell HW8.out.bo 2
  have y3 := blk_cell HW8.out.bo 3
  simp at y0 y1 y2 y3
  clear hk8 hs8 HW7 HOB7 HOF7
  go_wp2_with fail
  refine (of_any _ _ (.slice A0 b.length c0) f b (mk_fault HOF8.out hcF hf2 hn2 hx0 hx1 HFD.out) (own_reads HOB8.out (by omega)) hm2 HVC.out).mono ?_
  rintro e w9 ⟨vx, rfl, hr9, hb9⟩
  rw [← HLS.out] at hr9
  obtain ⟨Ax, cx, rfl⟩ := hr9.slice
  have HX9 := Lib.hid (show OwnX w w5.heap.size (heldF ls f.held) ls (.slice AC ls.length cC) (.slice A0 b.length c0) (.slice AF fb.length cF) b.length fb.length fk fn fx w8 (.slice Ax ls.length cx) w9 from ⟨HW8.out.below hb9, hb9, LooseRows.of hr9⟩)
  have hnsl : (ls.map List.length).length = ls.length := by simp
  have hlsl : ls.length ≤ 2 := by rw [HLS.out]; exact FT.of_len f b
  have hsz9 : w8.heap.size ≤ w9.heap.size := hb9.size
  have hlss : ∀ x ∈ ls, x.length ≤ 140737488355328 := by rw [HLS.out]; exact FT.of_small f b hm2
  have HLSS := Lib.hid hlss
  have HWI8 := Lib.hid HW8.out.wi
  clear hr9 hb9 y0 y1 y2 y3 HOB8 HOF8 hlss
  go_wp2_with fail
  go_loopw [9] (fun i wr => ∃ j : Nat, j ≤ ls.length ∧ i = .int .i64 j ∧ OwnX w w5.heap.size (heldF ls f.held) ls (.slice AC ls.length cC) (.slice A0 b.length c0) (.slice AF fb.length cF) b.length fb.length fk fn fx w8 (.slice Ax ls.length cx) wr) (fun i _ => ls.length - (intOf i).toNat)
  case atStart => exact ⟨0, Nat.zero_le _, rfl, HX9.out⟩
  case round =>
    obtain ⟨j, hj, rfl, hxr⟩ := hrel
    obtain ⟨wi, rfl⟩ : ∃ x, x = wr := ⟨wr, rfl⟩
    have HXR := Lib.hid hxr
    clear hxr HX9
    by_cases hlt : j < ls.length
    · go_wp2_with fail
      obtain ⟨nj, hnj⟩ : ∃ nj, nj = (ls.map List.length).getD j 0 := ⟨_, rfl⟩
      have hnj2 : nj ≤ 140737488355328 := by
        have : (ls.map List.length).getD j 0 = ls[j].length := by simp [List.getD, hlt]
        rw [hnj, this]
        exact HLSS.out _ (List.getElem_mem hlt)
      have HNJ := Lib.hid hnj
      clear hnj
      go_loopw [10] (fun i wr => ∃ t : Nat, t ≤ nj ∧ i = .int .i64 t ∧ OwnX w w5.heap.size (heldF ls f.held) ls (.slice AC ls.length cC) (.slice A0 b.length c0) (.slice AF fb.length cF) b.length fb.length fk fn fx w8 (.slice Ax ls.length cx) wr) (fun i _ => nj - (intOf i).toNat)
      case atStart => exact ⟨0, Nat.zero_le _, rfl, HXR.out⟩
      case round =>
        obtain ⟨t, ht, rfl, hxt⟩ := hrel
        obtain ⟨wt, rfl⟩ : ∃ x, x = wr := ⟨wr, rfl⟩
        obtain ⟨gx, _, u, hex, hcx1, hcx2, hcell, hloose, AU, cU, heu⟩ := hxt.2.2.at (i := j) (by rw [hnsl]; exact hlt)
        rw [hnsl] at hex hcx1
        cases hex
        rw [← HNJ.out] at hloose heu
        subst heu
        have HXT := Lib.hid hxt
        clear hxt HXR
        by_cases htj : t < nj
        · obtain ⟨gu, _, zz, heu, hcu1, hcu2, hgu, hgu2, hcu, hfu, hty⟩ := hloose.at htj
          cases heu
          have HTY := Lib.hid hty
          clear hty hloose
          go_wp2_with fail
          go_roundw
          case rel => exact ⟨t + 1, by omega, by go_num, HXT.out.set HWI8.out HW8.out.bl.size HTY.out hgu t 7 (by omega) (by omega)⟩
          case measure => simp [intOf]; omega
        · obtain rfl : t = nj := by omega
          clear hloose
          go_wp2_with fail
          go_roundw
          case rel => exact ⟨j + 1, by omega, by go_num, HXT.out⟩
          case measure => simp [intOf]; omega
    · go_wp2_with fail
      have HWR := Lib.hid HXR.out.1
      clear HXR hlt
      go_loopw [11] (fun i wr => ∃ t : Nat, t ≤ b.length ∧ i = .int .i64 t ∧ OwnW w w5.heap.size (heldF ls f.held) ls (.slice AC ls.length cC) (.slice A0 b.length c0) (.slice AF fb.length cF) b.length fb.length fk fn fx wr) (fun i _ => b.length - (intOf i).toNat)
      case atStart => exact ⟨0, Nat.zero_le _, rfl, HWR.out⟩
      case round =>
        obtain ⟨t, ht, rfl, hwt⟩ := hrel
        obtain ⟨wt, rfl⟩ : ∃ x, x = wr := ⟨wr, rfl⟩
        have HWT := Lib.hid hwt
        clear hwt HWR
        by_cases htb : t < b.length
        · obtain ⟨gb, _, zz, heb, hcb1, hcb2, hgb, hgb2, hcb, hfb, htyb⟩ := HWT.out.lb.at htb
          have hgl := hlowb.out gb (by rw [heb]; rfl)
          have HTY := Lib.hid htyb
          have HEB := Lib.hid heb
          clear htyb
          injection heb with e1 e2 e3
          subst e1
          go_wp2_with fail
          go_roundw
          case rel => exact ⟨t + 1, by omega, by go_num, HWT.out.set HTY.out hgb t 9 (by omega) (by omega) (HWT.out.wi.low hgl t _)⟩
          case measure => simp [intOf]; omega
        · go_wp2_with fail
          go_loopw [12] (fun i wr => ∃ t : Nat, t ≤ fb.length ∧ i = .int .i64 t ∧ OwnW w w5.heap.size (heldF ls f.held) ls (.slice AC ls.length cC) (.slice A0 b.length c0) (.slice AF fb.length cF) b.length fb.length fk fn fx wr) (fun i _ => fb.length - (intOf i).toNat)
          case atStart => exact ⟨0, Nat.zero_le _, rfl, HWT.out⟩
          case round =>
            obtain ⟨t2, ht2, rfl, hwt⟩ := hrel
            obtain ⟨wu, rfl⟩ : ∃ x, x = wr := ⟨wr, rfl⟩
            have HWU := Lib.hid hwt
            have y3 := blk_cell hwt.bo 3
            simp at y3
            clear hwt HWT
            by_cases htf : t2 < fb.length
            · obtain ⟨gf, _, zz, heb, hcb1, hcb2, hgb, hgb2, hcb, hfb, htyb⟩ := HWU.out.lf.at htf
              have hgl := hlowf.out gf (by rw [heb]; rfl)
              have HTY := Lib.hid htyb
              clear htyb
              injection heb with e1 e2 e3
              subst e1
              go_wp2_with fail
              go_roundw
              case rel => exact ⟨t2 + 1, by omega, by go_num, HWU.out.set HTY.out hgb t2 9 (by omega) (by omega) (HWU.out.wi.low hgl t2 _)⟩
              case measure => simp [intOf]; omega
            · have hT0 : OwnT w w5.heap.size 0 ls (.slice AC ls.length cC) (.slice none 0 0) wu :=
                ⟨heldF ls f.held, [], HWU.out.bl, HWU.out.wi, HWU.out.wa, HWU.out.ty, RowsAt.nil _ _, by rw [heldF_fst]; rfl, due_held ls f.held (FT.held_le f) hlsl⟩
              have HT0 := Lib.hid hT0
              clear hT0
              go_wp2_with fail
              go_loopw [13, 14] (fun v i wr => ∃ k : Nat, k ≤ 20 ∧ i = .int .i64 k ∧ OwnT w w5.heap.size k ls (.slice AC ls.length cC) v wr) (fun _ i _ => 20 - (intOf i).toNat)
              case atStart => exact ⟨0, Nat.zero_le _, rfl, HT0.out⟩
              case round =>
                obtain ⟨k, hk, rfl, l, outs, hbl, hwi, hwa, hty, hro, heq, hdue⟩ := hrel
                obtain ⟨wv, rfl⟩ : ∃ x, x = wr := ⟨wr, rfl⟩
                obtain ⟨Ao, co, rfl⟩ := hro.slice
                have hol : outs.length + l.length = ls.length := by rw [← heq]; simp
                have hgw : w5.heap.size ≤ wv.heap.size := by have := hwi.lt; omega
                have HBL := Lib.hid hbl
                have HWI := Lib.hid hwi
                have HWA := Lib.hid hwa
                have HTY := Lib.hid hty
                have HRO := Lib.hid hro
                have HEQ := Lib.hid heq
                clear hbl hwi hwa hty hro heq HT0
                by_cases hk20 : k < 20
                · have hl2 := take_out_len l
                  go_wp2_with fail
                  refine (wire_take _ w5.heap.size w5.heap.size 9 l HWI.out (by omega)).mono ?_
                  rintro e w7' ⟨v7, rfl, hr7, hk7, hs7⟩
                  have hro7 := HRO.out.kept hk7 (by decide) (by decide)
                  have hkb := hk7.below hgw
                  have HK7 := Lib.hid hk7
                  have HS7 := Lib.hid hs7
                  have HR7 := Lib.hid hr7
                  have HRO7 := Lib.hid hro7
                  obtain ⟨vs7, hvl7, hvo7, hvr7⟩ := hr7
                  obtain ⟨vso, hvlo, hvoo, hvro⟩ := hro7
                  have HVO7 := Lib.hid hvo7
                  have HVOO := Lib.hid hvoo
                  have hone := own_ones hvr7 hvl7
                  have HONE := Lib.hid hone
                  have HVR7 := Lib.hid hvr7
                  have HVRO := Lib.hid hvro
                  have hgw7 : w5.heap.size ≤ w7'.heap.size := by have := hk7.size; omega
                  clear hk7 hs7 hvo7 hvoo hvr7 hvro hone hkb
                  obtain ⟨A7, c7, rfl⟩ := own_slice HVO7.out
                  go_wp2_with (at_builtin; go_loud (refine wpList_append_rows rfl (.tmp 87) (.tmp 89) rfl w5.heap.size (.slice Ao outs.length co) outs.length vso rfl HVOO.out w5.heap.size (.slice A7 (takeF l).1.length c7) (takeF l).1.length vs7 rfl HVO7.out HONE.out ?_ hgw7 ?_))
                  · omega
                  intro v8 w8' ho8 hg8
                  obtain ⟨A8, c8, rfl⟩ := own_slice ho8
                  have hN := ownT_next HBL.out HWI.out (by omega : w.heap.size ≤ w5.heap.size) hgw HWA.out HTY.out HK7.out HS7.out HVRO.out HVR7.out hvlo hvl7 HVOO.out ho8 hg8 HEQ.out hdue
                  have HN := Lib.hid hN
                  clear hN ho8 hg8
                  go_wp2_with fail
                  go_roundw
                  case rel => exact ⟨k + 1, by omega, by go_num, HN.out⟩
                  case measure => simp [intOf]; omega
                · obtain rfl := due_nil l (by omega)
                  have hos : outs = ls := by have := HEQ.out; simpa using this
                  subst hos
                  go_wp2_with fail
                  refine (texts_eq _ w5.heap.size _ _ outs HRO.out HWA.out (by omega) HLSS.out).mono ?_
                  rintro e w9' ⟨rfl, hb9'⟩
                  have HB9' := Lib.hid hb9'
                  clear hb9'
                  go_wp2_with fail
                  go_ret
                  exact ⟨rfl, HBL.out.trans (HB9'.out.mono HBL.out.size)⟩
end Go.Proofs.Ytcdanimdkkhamaa
