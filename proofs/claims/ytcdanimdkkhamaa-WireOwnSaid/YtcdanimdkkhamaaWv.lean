/- Wire.Take. -/
import Derived.Test.YtcdanimdkkhamaaWu
set_option linter.unusedVariables false
set_option linter.unusedSimpArgs false
namespace Go.Proofs.Ytcdanimdkkhamaa
open Go.RowKit

def lenOf : Value → Nat
  | .slice _ n _ => n
  | _ => 0
theorem out_len (l : List (List UInt8 × Nat)) : (outF l).length + (restF l).length = l.length := by
  induction l with
  | nil => rfl
  | cons p r ih =>
    obtain ⟨b, h⟩ := p
    simp only [outF, restF]
    split
    · simp; omega
    · simp
theorem rest_mem (l : List (List UInt8 × Nat)) : ∀ p ∈ restF l, p ∈ l := by
  induction l with
  | nil => intro p hp; exact hp
  | cons q r ih =>
    obtain ⟨b, h⟩ := q
    intro p hp
    simp only [restF] at hp
    split at hp
    · exact List.mem_cons_of_mem _ (ih p hp)
    · exact hp

def TakeEnd (w : World) (B g room : Nat) (ls : List (List UInt8)) (l : List (List UInt8 × Nat)) (e : Ending) (w' : World) : Prop := ∃ v, e = .returned v ∧ RowsAt w' B v ls ∧ Kept B [57, 60] w w' ∧ WireAt w' B g room l

/-- A wire with a first row, laid open. -/
theorem WireAt.head {w : World} {B g room h : Nat} {b : List UInt8} {l : List (List UInt8 × Nat)} (hw : WireAt w B g room ((b, h) :: l)) :
    ∃ (k o c : Nat) (u : Value) (us : List Value), us.length = l.length ∧ w.heap[g]? = some (.cells #[.int .i64 (room : Int), .slice (some ⟨k, o, none⟩) (l.length + 1) c] 57 (0, 0)) ∧
      OffRow w B 60 2 (.slice (some ⟨k, o, none⟩) (l.length + 1) c) (l.length + 1) (u :: .int .i64 (h : Int) :: cells2 (us.zip (l.map Prod.snd))) ∧ w.ownsRow B 5 1 u b.length (bytesV b) ∧
      (∀ (i : Nat) (u : Value) (p : List UInt8 × Nat), us[i]? = some u → l[i]? = some p → w.ownsRow B 5 1 u p.1.length (bytesV p.1)) ∧
      w.cell? ⟨k, o, none⟩ = some u ∧ w.cell? ⟨k, o + 1, none⟩ = some (.int .i64 (h : Int)) ∧ w.frozen? ⟨k, o + 1, none⟩ = false ∧ B ≤ k ∧ l.length + 1 ≤ c ∧ c ≤ 9223372036854775807 ∧ (∃ cs, w.heap[k]? = some (.cells cs 60 (0, 0))) ∧
      ∀ y, OffRow (w.setCell ⟨k, o + 1, none⟩ y) B 60 2 (.slice (some ⟨k, o, none⟩) (l.length + 1) c) (l.length + 1) (u :: y :: cells2 (us.zip (l.map Prod.snd))) := by
  obtain ⟨v, us, hul, hg, ho, hr⟩ := hw.ex
  match us, hul with
  | u :: us, hul =>
    simp at hul
    have ho' : OffRow w B 60 2 v (l.length + 1) (u :: .int .i64 (h : Int) :: cells2 (us.zip (l.map Prod.snd))) := ho
    obtain ⟨k, o, c, rfl, c1, c2, c3, c4, c5, c6, c7, c8⟩ := ho'.head2
    exact ⟨k, o, c, u, us, hul, hg, ho', hr 0 u (b, h) rfl rfl, fun i u' p hu' hp => hr (i + 1) u' p hu' hp, c1, c2, c3, c4, c5, by unfold maxLen at c6; omega, c7, c8⟩

set_option maxHeartbeats 2000000 in
theorem take_held (w : World) (B g room h : Nat) (b : List UInt8) (l : List (List UInt8 × Nat)) (hw : WireAt w B g room ((b, h + 1) :: l)) :
    Calls Try.prog 19 #[.pointer (some ⟨g, 0, none⟩)] w (TakeEnd w B g room [] ((b, h) :: l)) := by
  obtain ⟨k, o, c, u, us, hul, hg, ho, hu, hr, c0, c1, cf, hk, hc1, hc2, ⟨cs, hty⟩, hset⟩ := hw.head
  have hh := hw.hh (b, h + 1) (by simp)
  simp only [] at hh
  have HW := Lib.hid hw
  have g1 := blk_cell hg 1
  simp at g1
  have HG := Lib.hid hg
  have HO := Lib.hid ho
  have HU := Lib.hid hu
  have HR := Lib.hid hr
  have HS := Lib.hid hset
  have HT := Lib.hid hty
  have HUL := Lib.hid hul
  have hgt : g ≠ k := by
    rintro rfl
    rw [hg] at hty
    cases hty
  clear hw hg ho hu hr hset hty c0 hul
  go_enter Try.func19, Try.ntmps19
  go_wp2_with fail
  go_ret
  have hkp : Kept B [60] w (w.setCell ⟨k, o + 1, none⟩ (.int .i64 (h : Int))) := Kept.of_grown (grown_set (grown_refl _ _) _ _) HT.out (by simp) hk
  refine ⟨_, rfl, RowsAt.nil _ _, hkp.mono (by simp), HW.out.ge, HW.out.rm, fun p hp => ?_, _, u :: us, by simp [HUL.out], hkp.blk HG.out (by decide), HS.out (.int .i64 (h : Int)), fun i u' p hu' hp => ?_⟩
  · rcases List.mem_cons.1 hp with rfl | hp
    · show h ≤ 16; omega
    · exact HW.out.hh p (List.mem_cons_of_mem _ hp)
  · rcases i with _ | i
    · cases hu'; cases hp; exact own_kept HU.out hkp (by decide)
    · exact own_kept (HR.out i u' p hu' hp) hkp (by decide)

/-- The first row is off the wire. -/
theorem wire_pop {w w2 : World} {B g room h : Nat} {b : List UInt8} {l : List (List UInt8 × Nat)} {v v2 : Value} {us : List Value} {B3 : Nat}
    (hB : B ≤ g) (hrm : room ≤ 9223372036854775807) (hh : ∀ p ∈ (b, h) :: l, p.2 ≤ 16) (hul : us.length = l.length) (hg : w.heap[g]? = some (.cells #[.int .i64 (room : Int), v] 57 (0, 0)))
    (hr : ∀ (i : Nat) (u : Value) (p : List UInt8 × Nat), us[i]? = some u → l[i]? = some p → w.ownsRow B 5 1 u p.1.length (bytesV p.1))
    (hk : Kept B3 [28] w w2) (ho2 : OffRow w B 60 2 v2 l.length (cells2 (us.zip (l.map Prod.snd)))) :
    WireAt (w2.setCell ⟨g, 1, none⟩ v2) B g room l := by
  have hg2 : w2.heap[g]? = some (.cells #[.int .i64 (room : Int), v] 57 (0, 0)) := hk.blk hg (by decide)
  have k2 : Kept B [57] w2 (w2.setCell ⟨g, 1, none⟩ v2) := Kept.of_grown (grown_set (grown_refl _ _) _ _) hg2 (by simp) hB
  refine ⟨hB, hrm, fun p hp => hh p (List.mem_cons_of_mem _ hp), v2, us, hul, ?_, off_kept (off_kept ho2 hk (by decide)) k2 (by decide), fun i u' p hu' hp => own_kept (own_kept (hr i u' p hu' hp) hk (by decide)) k2 (by decide)⟩
  have := blk_set hg2 1 v2
  simpa using this

/-- What a round of Take has. -/
def TakeI (w : World) (B g room : Nat) (l : List (List UInt8 × Nat)) (done : List (List UInt8)) (rest : List (List UInt8 × Nat)) (v : Value) (wr : World) : Prop :=
  outF l = done ++ outF rest ∧ restF l = restF rest ∧ Kept B [57, 60] w wr ∧ WireAt wr B g room rest ∧ ∃ vs : List Value, vs.length = done.length ∧ wr.ownsRow w.heap.size 28 1 v done.length vs ∧
    ∀ (i : Nat) (u : Value) (b : List UInt8), vs[i]? = some u → done[i]? = some b → wr.ownsRow B 5 1 u b.length (bytesV b)
theorem takeI_end {w wr : World} {B g room : Nat} {l : List (List UInt8 × Nat)} {done : List (List UInt8)} {rest : List (List UInt8 × Nat)} {v : Value} (hB : B ≤ w.heap.size) (h : TakeI w B g room l done rest v wr) (h0 : outF rest = []) (h1 : restF rest = rest) :
    TakeEnd w B g room (outF l) (restF l) (.returned v) wr := by
  obtain ⟨a1, a2, a3, a4, vs, a5, a6, a7⟩ := h
  rw [h0, List.append_nil] at a1
  rw [h1] at a2
  rw [a1, a2]
  exact ⟨v, rfl, ⟨vs, a5, own_lower a6 hB, a7⟩, a3, a4⟩
/-- A round: the first row goes out. -/
theorem takeI_next {w wr w2 : World} {B g room : Nat} {l : List (List UInt8 × Nat)} {done : List (List UInt8)} {b : List UInt8} {rest : List (List UInt8 × Nat)} {v u v4 v5 : Value} {us vs : List Value} {k o c : Nat}
    (hB : B ≤ w.heap.size) (h1 : outF l = done ++ outF ((b, 0) :: rest)) (h2 : restF l = restF ((b, 0) :: rest)) (hkr : Kept B [57, 60] w wr) (hw : WireAt wr B g room ((b, 0) :: rest)) (hvl : vs.length = done.length)
    (hvo : wr.ownsRow w.heap.size 28 1 v done.length vs) (hvr : ∀ (i : Nat) (u : Value) (b : List UInt8), vs[i]? = some u → done[i]? = some b → wr.ownsRow B 5 1 u b.length (bytesV b))
    (hul : us.length = rest.length) (hg : wr.heap[g]? = some (.cells #[.int .i64 (room : Int), .slice (some ⟨k, o, none⟩) (rest.length + 1) c] 57 (0, 0))) (hu : wr.ownsRow B 5 1 u b.length (bytesV b))
    (hr : ∀ (i : Nat) (u : Value) (p : List UInt8 × Nat), us[i]? = some u → rest[i]? = some p → wr.ownsRow B 5 1 u p.1.length (bytesV p.1))
    (tmp : Obj) (hgr : (wr.alloc tmp).grownBy w2 v.ownBlock) (ho2 : w2.ownsRow w.heap.size 28 1 v4 (done.length + 1) (vs ++ [u])) (ho5 : OffRow wr B 60 2 v5 rest.length (cells2 (us.zip (rest.map Prod.snd)))) :
    TakeI w B g room l (done ++ [b]) rest v4 (w2.setCell ⟨g, 1, none⟩ v5) := by
  have hal : Below wr.heap.size wr (wr.alloc tmp) := (Below.refl _ _).alloc (Nat.le_refl _) _
  have k1 : Kept 0 [28] wr w2 := (Kept.of_below hal).trans (Kept.of_row hgr (off_lower (off_of_own (own_below hvo hal)) (Nat.zero_le _)) (by simp))
  have hwn := wire_pop hw.ge hw.rm hw.hh hul hg hr k1 ho5
  have hg2 : w2.heap[g]? = some (.cells #[.int .i64 (room : Int), .slice (some ⟨k, o, none⟩) (rest.length + 1) c] 57 (0, 0)) := k1.blk hg (by decide)
  have k2 : Kept B [57] w2 (w2.setCell ⟨g, 1, none⟩ v5) := Kept.of_grown (grown_set (grown_refl _ _) _ _) hg2 (by simp) hw.ge
  have k3 : Kept B [57, 60] w w2 := by
    cases hob : v.ownBlock with
    | none => rw [hob] at hgr; exact hkr.then_below (hal.trans ((below_of_none hgr).mono hal.size))
    | some kb =>
      rw [hob] at hgr
      exact (hkr.then_below hal).grown_new hgr (own_lt hvo kb hob).1
  refine ⟨?_, ?_, k3.trans (k2.mono (by simp)), hwn, vs ++ [u], by simp [hvl], ?_, fun i u' b' hu' hb' => ?_⟩
  · rw [h1]; simp [outF]
  · rw [h2]; simp [restF]
  · have hlen : (done ++ [b]).length = done.length + 1 := by simp
    rw [hlen]
    exact own_kept ho2 k2 (by decide)
  · by_cases hi : i < done.length
    · rw [List.getElem?_append_left (by omega)] at hu'
      rw [List.getElem?_append_left hi] at hb'
      exact own_kept (own_kept (hvr i u' b' hu' hb') k1 (by decide)) k2 (by decide)
    · have hi' : i = done.length := by
        have := (List.getElem?_eq_some_iff.1 hb').1
        simp at this
        omega
      subst hi'
      rw [List.getElem?_append_right (by omega)] at hu'
      rw [List.getElem?_append_right (by omega)] at hb'
      simp [hvl] at hu' hb'
      subst hu'
      subst hb'
      exact own_kept (own_kept hu k1 (by decide)) k2 (by decide)

set_option maxHeartbeats 4000000 in
theorem take_open (w : World) (B g room : Nat) (l : List (List UInt8 × Nat)) (hw : WireAt w B g room l) (hll : l.length ≤ 10000) (h0 : ∀ b h r, l = (b, h) :: r → h = 0) :
    Calls Try.prog 19 #[.pointer (some ⟨g, 0, none⟩)] w (TakeEnd w B g room (outF l) (restF l)) := by
  have hB : B ≤ w.heap.size := by have := hw.ge; have := hw.lt; omega
  obtain ⟨i0, hi, hz0, hz1, hz2⟩ := info_parts Try.info28
  obtain ⟨i6, hi6, hy0, hy1, hy2⟩ := info_parts Try.info60
  have HW := Lib.hid hw
  have hI : TakeI w B g room l [] l (.slice none 0 0) w := ⟨rfl, rfl, Kept.refl _ _ _, hw, [], rfl, World.ownsRow_nil _ _ _ _, fun i u b h => by simp at h⟩
  have HI := Lib.hid hI
  have HLL := Lib.hid hll
  clear hI
  obtain ⟨cnd, A, c, g1, hcl⟩ : ∃ (cnd : Bool) (A : Option Addr) (c : Nat), w.cell? ⟨g, 1, none⟩ = some (.slice A l.length c) ∧ (l.length = 0 ∨ ∃ k o, 0 < l.length ∧ A = some ⟨k, o, none⟩ ∧ w.cell? ⟨k, o + 1, none⟩ = some (.int .i64 0)) := by
    cases l with
    | nil =>
      obtain ⟨v, us, hul, hg, ho, hr⟩ := hw.ex
      obtain ⟨A, c, rfl⟩ := ho.slice
      have g1 := blk_cell hg 1
      exact ⟨false, A, c, by simpa using g1, .inl rfl⟩
    | cons p r =>
      obtain ⟨b, h⟩ := p
      obtain rfl := h0 b h r rfl
      obtain ⟨k, o, c, u, us, hul, hg, ho, hu, hr, c0, c1, cf, _⟩ := hw.head
      have g1 := blk_cell hg 1
      exact ⟨true, some ⟨k, o, none⟩, c, by simpa using g1, .inr ⟨k, o, by simp, rfl, c1⟩⟩
  clear hw h0
  go_enter Try.func19, Try.ntmps19
  go_upto_region 1 with fail
  go_cut [18] (fun s w' => s = .bool false ∧ w = w')
  case first =>
    rcases hcl with hcl | ⟨k, o, hcl, rfl, hck⟩
    · have hd : decide (0 < l.length) = false := by simp; exact List.eq_nil_of_length_eq_zero hcl
      go_wp2_with fail
      go_meet
      case rel => exact ⟨rfl, rfl⟩
    · have hd : decide (0 < l.length) = true := by simpa using hcl
      go_wp2_with fail
      go_meet
      case rel => exact ⟨rfl, rfl⟩
  case rest =>
    obtain ⟨rfl, rfl⟩ := hcut
    clear g1 hcl HW
    go_wp2_with fail
    go_loopw [2] (fun v wr => ∃ (done : List (List UInt8)) (rest : List (List UInt8 × Nat)), done.length + rest.length = l.length ∧ lenOf v = done.length ∧ TakeI w B g room l done rest v wr) (fun v _ => l.length - lenOf v)
    case atStart => exact ⟨[], l, by simp, rfl, HI.out⟩
    case round =>
      obtain ⟨done, rest, hlen, hvn, hinv⟩ := hrel
      have HINV := Lib.hid hinv
      have HLEN := Lib.hid hlen
      have HVN := Lib.hid hvn
      clear HI
      obtain ⟨h1, h2, hkr, hwr, vs, hvl, hvo, hvr⟩ := hinv
      obtain ⟨Av, cv, rfl⟩ := own_slice hvo
      match rest, hwr, hlen, h1, h2, HINV with
      | [], hwr, hlen, h1, h2, HINV =>
        obtain ⟨vw, us, hul, hg, ho, hr⟩ := hwr.ex
        obtain ⟨A2, c2, rfl⟩ := ho.slice
        have g2 := blk_cell hg 1
        simp at g2
        clear hg ho hr hwr hvo hvr hkr hvl h1 h2 hul hlen hvn
        go_wp2_with fail
        go_ret
        exact takeI_end hB HINV.out rfl rfl
      | (b, h + 1) :: r, hwr, hlen, h1, h2, HINV =>
        obtain ⟨k, o, c2, u, us, hul, hg, ho, hu, hr, c0, c1, cf, _, hc1, hc2, _⟩ := hwr.head
        have g2 := blk_cell hg 1
        simp at g2
        have hh := hwr.hh (b, h + 1) (by simp)
        simp only [] at hh
        clear hg ho hr hwr hvo hvr hkr hvl h1 h2 hul hlen hu c0 hvn
        go_wp2_with fail
        go_ret
        exact takeI_end hB HINV.out rfl rfl
      | (b, 0) :: r, hwr, hlen, h1, h2, HINV =>
        obtain ⟨k, o, c2, u, us, hul, hg, ho, hu, hr, c0, c1, cf, hBk, hc1, hc2, _⟩ := hwr.head
        obtain ⟨v5, hsl, ho5, _⟩ := OffRow.tail (P := Try.prog) (t := 55) Try.underlying55 hi6 hy1 ho
        obtain ⟨A5, c5, rfl⟩ := ho5.slice
        obtain ⟨Au, cu, rfl⟩ := own_slice hu
        have g2 := blk_cell hg 1
        simp at g2
        have hgl := hwr.lt
        simp only [List.drop] at ho5
        have hwsz := hkr.size
        have hdl : done.length ≤ 10000 := by have := HLL.out; omega
        have H1 := Lib.hid h1
        have H2 := Lib.hid h2
        have HKR := Lib.hid hkr
        have HWR := Lib.hid hwr
        have HVL := Lib.hid hvl
        have HVO := Lib.hid hvo
        have HVR := Lib.hid hvr
        have HUL := Lib.hid hul
        have HG := Lib.hid hg
        have HU := Lib.hid hu
        have HR := Lib.hid hr
        have HO5 := Lib.hid ho5
        have hne : Hid (some g ≠ (Value.slice Av done.length cv).ownBlock) := fun e => by have := own_ne hvo hg (by decide) g e.symm; omega
        clear h1 h2 hkr hwr hvl hvo hvr hul hg hu hr ho5 ho hlen hvn
        go_wp2_with (at_builtin; go_loud (refine wpList_append_own _ rfl (.tmp 45) (.tmp 53) 35 rfl w.heap.size 28 i0 (.slice none 0 0) 1 24 Try.underlying35 hi hz0 hz1 hz2 rfl (by decide) (.slice Av done.length cv) done.length vs rfl ?o1 ⟨wr.heap.size, 0, none⟩ 1 1 [.slice Au b.length cu] rfl rfl ?o2 ?o3 ?o4 ?o5 ?o6 ?_))
        case o1 => exact own_below HVO.out ((Below.refl _ _).alloc (Nat.le_refl _) _)
        case o2 => exact news_one (blk_new _ _)
        case o3 => simp [Value.oneCell']
        case o4 => unfold maxLen; omega
        case o5 => omega
        case o6 => simp; omega
        intro v2 w2 ho3 hgr3 _
        obtain ⟨A3, c3, rfl⟩ := own_slice ho3
        have hg3 := blk_grown (blk_alloc HG.out _) hgr3 hne.out
        have g3 := blk_cell hg3 1
        have f3 := blk_frozen hg3 1
        simp at g3
        have HO3 := Lib.hid ho3
        have HGR3 := Lib.hid hgr3
        clear ho3 hgr3 hg3
        go_wp2_with fail
        go_roundw
        case rel => exact ⟨done ++ [b], r, by have := HLEN.out; simp at this ⊢; omega, by simp [lenOf], takeI_next hB H1.out H2.out HKR.out HWR.out HVL.out HVO.out HVR.out HUL.out HG.out HU.out HR.out _ HGR3.out HO3.out HO5.out⟩
        case measure => have := HLEN.out; simp [lenOf] at this ⊢; omega

theorem wire_take (w : World) (B g room : Nat) (l : List (List UInt8 × Nat)) (hw : WireAt w B g room l) (hll : l.length ≤ 10000) :
    Calls Try.prog 19 #[.pointer (some ⟨g, 0, none⟩)] w (TakeEnd w B g room (takeF l).1 (takeF l).2) := by
  match l, hw, hll with
  | [], hw, hll => exact take_open w B g room [] hw hll (fun b h r e => by cases e)
  | (b, 0) :: r, hw, hll => exact take_open w B g room ((b, 0) :: r) hw hll (fun b h r e => by cases e; rfl)
  | (b, h + 1) :: r, hw, hll => exact take_held w B g room h b r hw
end Go.Proofs.Ytcdanimdkkhamaa
