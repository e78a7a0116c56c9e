/- The reference's Take. -/
import Derived.Test.YtcdanimdkkhamaaWw
set_option linter.unusedVariables false
set_option linter.unusedSimpArgs false
namespace Go.Proofs.Ytcdanimdkkhamaa
open Go.RowKit

theorem Try.info9 : (Try.prog.info? 9).map (fun i => (i.zero, i.size, i.bytes)) = some (some (.string ⟨#[]⟩), 1, 16) := by kernel_rfl

def RTakeEnd (w : World) (B g room : Nat) (ls : List (List UInt8)) (l : List (List UInt8 × Nat)) (e : Ending) (w' : World) : Prop :=
  ∃ v, e = .returned v ∧ w'.ownsRow w.heap.size 9 1 v ls.length (ls.map strV) ∧ Kept B [50, 62] w w' ∧ RefAt w' B g room l
theorem own_texts {w : World} {B : Nat} {v : Value} {ls : List (List UInt8)} (h : w.ownsRow B 9 1 v ls.length (ls.map strV)) : ReadsS w v ls := by
  rcases h.2 with ⟨rfl, h0⟩ | ⟨g, cap, cur, rfl, hg, hh, hle, hcap, hcs, htake⟩
  · have : ls = [] := List.eq_nil_of_length_eq_zero h0
    subst this
    exact ⟨none, 0, rfl, Nat.le_refl _, fun _ => rfl, fun ad h => by cases h⟩
  · exact ⟨_, cap, rfl, hle, (fun e => by cases e), fun ad he j u hu => by cases he; exact h.cells (g := g) rfl j u hu⟩

/-- The reference's wire with a first row, laid open. -/
theorem RefAt.head {w : World} {B g room h : Nat} {b : List UInt8} {l : List (List UInt8 × Nat)} (hw : RefAt w B g room ((b, h) :: l)) :
    ∃ (k o c : Nat), w.heap[g]? = some (.cells #[.int .i64 (room : Int), .slice (some ⟨k, o, none⟩) (l.length + 1) c] 50 (0, 0)) ∧
      OffRow w B 62 2 (.slice (some ⟨k, o, none⟩) (l.length + 1) c) (l.length + 1) (strV b :: .int .i64 (h : Int) :: cells2 (l.map fun p => (strV p.1, p.2))) ∧
      w.cell? ⟨k, o, none⟩ = some (strV b) ∧ w.cell? ⟨k, o + 1, none⟩ = some (.int .i64 (h : Int)) ∧ w.frozen? ⟨k, o + 1, none⟩ = false ∧ B ≤ k ∧ l.length + 1 ≤ c ∧ c ≤ 9223372036854775807 ∧ (∃ cs, w.heap[k]? = some (.cells cs 62 (0, 0))) ∧
      ∀ y, OffRow (w.setCell ⟨k, o + 1, none⟩ y) B 62 2 (.slice (some ⟨k, o, none⟩) (l.length + 1) c) (l.length + 1) (strV b :: y :: cells2 (l.map fun p => (strV p.1, p.2))) := by
  obtain ⟨v, hg, ho⟩ := hw.ex
  have ho' : OffRow w B 62 2 v (l.length + 1) (strV b :: .int .i64 (h : Int) :: cells2 (l.map fun p => (strV p.1, p.2))) := ho
  obtain ⟨k, o, c, rfl, c1, c2, c3, c4, c5, c6, c7, c8⟩ := ho'.head2
  exact ⟨k, o, c, hg, ho', c1, c2, c3, c4, c5, by unfold maxLen at c6; omega, c7, c8⟩

set_option maxHeartbeats 2000000 in
theorem rtake_held (w : World) (B g room h : Nat) (b : List UInt8) (l : List (List UInt8 × Nat)) (hw : RefAt w B g room ((b, h + 1) :: l)) :
    Calls Try.prog 20 #[.pointer (some ⟨g, 0, none⟩)] w (RTakeEnd w B g room [] ((b, h) :: l)) := by
  obtain ⟨k, o, c, hg, ho, c0, c1, cf, hk, hc1, hc2, ⟨cs, hty⟩, hset⟩ := hw.head
  have hh := hw.hh (b, h + 1) (by simp)
  simp only [] at hh
  have HW := Lib.hid hw
  have g1 := blk_cell hg 1
  simp at g1
  have hkl := blk_lt hty
  have hgl := blk_lt hg
  have HG := Lib.hid hg
  have HO := Lib.hid ho
  have HS := Lib.hid hset
  have HT := Lib.hid hty
  have hgt : g ≠ k := by
    rintro rfl
    rw [hg] at hty
    cases hty
  clear hw hg ho hset hty c0
  go_enter Try.func20, Try.ntmps20
  go_wp2_with fail
  go_ret
  have hkp : Kept B [62] w (w.setCell ⟨k, o + 1, none⟩ (.int .i64 (h : Int))) := Kept.of_grown (grown_set (grown_refl _ _) _ _) HT.out (by simp) hk
  have hal : Below (w.setCell ⟨k, o + 1, none⟩ (.int .i64 (h : Int))).heap.size (w.setCell ⟨k, o + 1, none⟩ (.int .i64 (h : Int))) ((w.setCell ⟨k, o + 1, none⟩ (.int .i64 (h : Int))).alloc (.cells #[] 9)) := (Below.refl _ _).alloc (Nat.le_refl _) _
  refine ⟨_, rfl, own_empty (blk_new' _ _ _ (by simp)) (Nat.le_refl _), (hkp.then_below hal).mono (by simp), HW.out.ge, HW.out.rm, fun p hp => ?_, _, blk_below' (hkp.blk HG.out (by decide)) hal, (HS.out (.int .i64 (h : Int))).below hal⟩
  rcases List.mem_cons.1 hp with rfl | hp
  · show h ≤ 16; omega
  · exact HW.out.hh p (List.mem_cons_of_mem _ hp)

/-- What a round of the reference's Take has. -/
def RTakeI (w : World) (B g room : Nat) (l : List (List UInt8 × Nat)) (done : List (List UInt8)) (rest : List (List UInt8 × Nat)) (v : Value) (wr : World) : Prop :=
  outF l = done ++ outF rest ∧ restF l = restF rest ∧ Kept B [50, 62] w wr ∧ RefAt wr B g room rest ∧ wr.ownsRow w.heap.size 9 1 v done.length (done.map strV)
theorem rtakeI_end {w wr : World} {B g room : Nat} {l : List (List UInt8 × Nat)} {done : List (List UInt8)} {rest : List (List UInt8 × Nat)} {v : Value} (h : RTakeI w B g room l done rest v wr) (h0 : outF rest = []) (h1 : restF rest = rest) :
    RTakeEnd w B g room (outF l) (restF l) (.returned v) wr := by
  obtain ⟨a1, a2, a3, a4, a6⟩ := h
  rw [h0, List.append_nil] at a1
  rw [h1] at a2
  rw [a1, a2]
  exact ⟨v, rfl, a6, a3, a4⟩
theorem rtakeI_next {w wr w2 : World} {B g room : Nat} {l : List (List UInt8 × Nat)} {done : List (List UInt8)} {b : List UInt8} {rest : List (List UInt8 × Nat)} {v v4 v5 : Value} {k o c : Nat}
    (h1 : outF l = done ++ outF ((b, 0) :: rest)) (h2 : restF l = restF ((b, 0) :: rest)) (hkr : Kept B [50, 62] w wr) (hw : RefAt wr B g room ((b, 0) :: rest))
    (hvo : wr.ownsRow w.heap.size 9 1 v done.length (done.map strV))
    (hg : wr.heap[g]? = some (.cells #[.int .i64 (room : Int), .slice (some ⟨k, o, none⟩) (rest.length + 1) c] 50 (0, 0)))
    (tmp : Obj) (hgr : (wr.alloc tmp).grownBy w2 v.ownBlock) (ho2 : w2.ownsRow w.heap.size 9 1 v4 (done.length + 1) (done.map strV ++ [strV b])) (ho5 : OffRow wr B 62 2 v5 rest.length (cells2 (rest.map fun p => (strV p.1, p.2)))) :
    RTakeI w B g room l (done ++ [b]) rest v4 (w2.setCell ⟨g, 1, none⟩ v5) := by
  have hal : Below wr.heap.size wr (wr.alloc tmp) := (Below.refl _ _).alloc (Nat.le_refl _) _
  have k1 : Kept 0 [9] wr w2 := (Kept.of_below hal).trans (Kept.of_row hgr (off_lower (off_of_own (own_below hvo hal)) (Nat.zero_le _)) (by simp))
  have hg2 : w2.heap[g]? = some (.cells #[.int .i64 (room : Int), .slice (some ⟨k, o, none⟩) (rest.length + 1) c] 50 (0, 0)) := k1.blk hg (by decide)
  have k2 : Kept B [50] w2 (w2.setCell ⟨g, 1, none⟩ v5) := Kept.of_grown (grown_set (grown_refl _ _) _ _) hg2 (by simp) hw.ge
  have k3 : Kept B [50, 62] w w2 := by
    cases hob : v.ownBlock with
    | none => rw [hob] at hgr; exact hkr.then_below (hal.trans ((below_of_none hgr).mono hal.size))
    | some kb =>
      rw [hob] at hgr
      exact (hkr.then_below hal).grown_new hgr (own_lt hvo kb hob).1
  refine ⟨?_, ?_, k3.trans (k2.mono (by simp)), ⟨hw.ge, hw.rm, fun p hp => hw.hh p (List.mem_cons_of_mem _ hp), v5, ?_, off_kept (off_kept ho5 k1 (by decide)) k2 (by decide)⟩, ?_⟩
  · rw [h1]; simp [outF]
  · rw [h2]; simp [restF]
  · have := blk_set hg2 1 v5
    simpa using this
  · have hlen : (done ++ [b]).length = done.length + 1 := by simp
    have hmp : (done ++ [b]).map strV = done.map strV ++ [strV b] := by simp
    rw [hlen, hmp]
    exact own_kept ho2 k2 (by decide)

set_option maxHeartbeats 4000000 in
theorem rtake_open (w : World) (B g room : Nat) (l : List (List UInt8 × Nat)) (hw : RefAt w B g room l) (hll : l.length ≤ 10000) (h0 : ∀ b h r, l = (b, h) :: r → h = 0) :
    Calls Try.prog 20 #[.pointer (some ⟨g, 0, none⟩)] w (RTakeEnd w B g room (outF l) (restF l)) := by
  have hB : B ≤ w.heap.size := by have := hw.ge; have := hw.lt; omega
  obtain ⟨i0, hi, hz0, hz1, hz2⟩ := info_parts Try.info9
  obtain ⟨i6, hi6, hy0, hy1, hy2⟩ := info_parts Try.info62
  have hal : Below w.heap.size w (w.alloc (.cells #[] 9)) := (Below.refl _ _).alloc (Nat.le_refl _) _
  have hI : RTakeI w B g room l [] l (.slice (some ⟨w.heap.size, 0, none⟩) 0 0) (w.alloc (.cells #[] 9)) := ⟨rfl, rfl, Kept.of_below hal, hw.below hal, own_empty (blk_new w _) (Nat.le_refl _)⟩
  have HI := Lib.hid hI
  have HLL := Lib.hid hll
  have hgl := hw.lt
  clear hI hal
  obtain ⟨cnd, A, c, g1, hcl⟩ : ∃ (cnd : Bool) (A : Option Addr) (c : Nat), w.cell? ⟨g, 1, none⟩ = some (.slice A l.length c) ∧ (l.length = 0 ∨ ∃ k o, 0 < l.length ∧ A = some ⟨k, o, none⟩ ∧ k < w.heap.size ∧ w.cell? ⟨k, o + 1, none⟩ = some (.int .i64 0)) := by
    cases l with
    | nil =>
      obtain ⟨v, hg, ho⟩ := hw.ex
      obtain ⟨A, c, rfl⟩ := ho.slice
      have g1 := blk_cell hg 1
      exact ⟨false, A, c, by simpa using g1, .inl rfl⟩
    | cons p r =>
      obtain ⟨b, h⟩ := p
      obtain rfl := h0 b h r rfl
      obtain ⟨k, o, c, hg, ho, c0, c1, cf, _, _, _, ⟨cs, hty⟩, _⟩ := hw.head
      have g1 := blk_cell hg 1
      exact ⟨true, some ⟨k, o, none⟩, c, by simpa using g1, .inr ⟨k, o, by simp, rfl, blk_lt hty, c1⟩⟩
  clear hw h0
  go_enter Try.func20, Try.ntmps20
  go_upto_region 2 with fail
  go_cut [20] (fun s w' => s = .bool false ∧ w.alloc (.cells #[] 9) = w')
  case first =>
    rcases hcl with hcl | ⟨k, o, hcl, rfl, hkl, hck⟩
    · have hd : decide (0 < l.length) = false := by simp; exact List.eq_nil_of_length_eq_zero hcl
      go_wp2_with fail
      go_meet
      case rel => exact ⟨rfl, rfl⟩
    · have hd : decide (0 < l.length) = true := by simpa using hcl
      go_wp2_with fail
      go_meet
      case rel => exact ⟨rfl, rfl⟩
  case rest =>
    obtain ⟨rfl, rfl⟩ := hcut
    clear g1 hcl
    go_wp2_with fail
    go_loopw [3] (fun v wr => ∃ (done : List (List UInt8)) (rest : List (List UInt8 × Nat)), done.length + rest.length = l.length ∧ lenOf v = done.length ∧ RTakeI w B g room l done rest v wr) (fun v _ => l.length - lenOf v)
    case atStart => exact ⟨[], l, by simp, rfl, HI.out⟩
    case round =>
      obtain ⟨done, rest, hlen, hvn, hinv⟩ := hrel
      have HINV := Lib.hid hinv
      have HLEN := Lib.hid hlen
      have HVN := Lib.hid hvn
      clear HI
      obtain ⟨h1, h2, hkr, hwr, hvo⟩ := hinv
      obtain ⟨Av, cv, rfl⟩ := own_slice hvo
      match rest, hwr, hlen, h1, h2, HINV with
      | [], hwr, hlen, h1, h2, HINV =>
        obtain ⟨vw, hg, ho⟩ := hwr.ex
        obtain ⟨A2, c2, rfl⟩ := ho.slice
        have g2 := blk_cell hg 1
        simp at g2
        clear hg ho hwr hvo hkr h1 h2 hlen hvn
        go_wp2_with fail
        go_ret
        exact rtakeI_end HINV.out rfl rfl
      | (b, h + 1) :: r, hwr, hlen, h1, h2, HINV =>
        obtain ⟨k, o, c2, hg, ho, c0, c1, cf, _, hc1, hc2, _⟩ := hwr.head
        have g2 := blk_cell hg 1
        simp at g2
        have hh := hwr.hh (b, h + 1) (by simp)
        simp only [] at hh
        clear hg ho hwr hvo hkr h1 h2 hlen c0 hvn
        go_wp2_with fail
        go_ret
        exact rtakeI_end HINV.out rfl rfl
      | (b, 0) :: r, hwr, hlen, h1, h2, HINV =>
        obtain ⟨k, o, c2, hg, ho, c0, c1, cf, hBk, hc1, hc2, _⟩ := hwr.head
        obtain ⟨v5, hsl, ho5, _⟩ := OffRow.tail (P := Try.prog) (t := 48) Try.underlying48 hi6 hy1 ho
        obtain ⟨A5, c5, rfl⟩ := ho5.slice
        have g2 := blk_cell hg 1
        simp at g2
        unfold strV at c0
        have hgl2 := hwr.lt
        simp only [List.drop] at ho5
        have hwsz := hkr.size
        have hdl : done.length ≤ 10000 := by have := HLL.out; omega
        have H1 := Lib.hid h1
        have H2 := Lib.hid h2
        have HKR := Lib.hid hkr
        have HWR := Lib.hid hwr
        have HVO := Lib.hid hvo
        have HG := Lib.hid hg
        have HO5 := Lib.hid ho5
        have hne : Hid (some g ≠ (Value.slice Av done.length cv).ownBlock) := fun e => by have := own_ne hvo hg (by decide) g e.symm; omega
        clear h1 h2 hkr hwr hvo hg ho5 ho hlen hvn
        go_wp2_with (at_builtin; go_loud (refine wpList_append_own _ rfl (.tmp 48) (.tmp 56) 37 rfl w.heap.size 9 i0 (.string ⟨#[]⟩) 1 16 Try.underlying37 hi hz0 hz1 hz2 rfl (by decide) (.slice Av done.length cv) done.length (done.map strV) rfl ?o1 ⟨wr.heap.size, 0, none⟩ 1 1 [.string ⟨b.toArray⟩] rfl rfl ?o2 ?o3 ?o4 ?o5 ?o6 ?_))
        case o1 => exact own_below HVO.out ((Below.refl _ _).alloc (Nat.le_refl _) _)
        case o2 => exact news_one (blk_new _ _)
        case o3 => simp [Value.oneCell']
        case o4 => unfold maxLen; omega
        case o5 => omega
        case o6 => simp; omega
        intro v2 w2 ho3 hgr3 _
        obtain ⟨A3, c3, rfl⟩ := own_slice ho3
        have hg3 := blk_grown (blk_alloc HG.out _) hgr3 hne.out
        have g3 := blk_cell hg3 1
        have f3 := blk_frozen hg3 1
        simp at g3
        have HO3 := Lib.hid ho3
        have HGR3 := Lib.hid hgr3
        clear ho3 hgr3 hg3
        go_wp2_with fail
        go_roundw
        case rel => exact ⟨done ++ [b], r, by have := HLEN.out; simp at this ⊢; omega, by simp [lenOf], rtakeI_next H1.out H2.out HKR.out HWR.out HVO.out HG.out _ HGR3.out HO3.out HO5.out⟩
        case measure => have := HLEN.out; simp [lenOf] at this ⊢; omega

theorem ref_take (w : World) (B g room : Nat) (l : List (List UInt8 × Nat)) (hw : RefAt w B g room l) (hll : l.length ≤ 10000) :
    Calls Try.prog 20 #[.pointer (some ⟨g, 0, none⟩)] w (RTakeEnd w B g room (takeF l).1 (takeF l).2) := by
  match l, hw, hll with
  | [], hw, hll => exact rtake_open w B g room [] hw hll (fun b h r e => by cases e)
  | (b, 0) :: r, hw, hll => exact rtake_open w B g room ((b, 0) :: r) hw hll (fun b h r e => by cases e; rfl)
  | (b, h + 1) :: r, hw, hll => exact rtake_held w B g room h b r hw
end Go.Proofs.Ytcdanimdkkhamaa
