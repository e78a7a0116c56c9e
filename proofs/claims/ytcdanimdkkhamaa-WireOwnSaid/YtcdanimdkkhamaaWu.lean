/- Wire.Put where there is room. -/
import Derived.Test.YtcdanimdkkhamaaWt
set_option linter.unusedVariables false
set_option linter.unusedSimpArgs false
namespace Go.Proofs.Ytcdanimdkkhamaa
open Go.RowKit

theorem heldF_at (ls : List (List UInt8)) (h k : Nat) (b : List UInt8) (hb : ls[k]? = some b) : (heldF ls h).take (k + 1) = (heldF ls h).take k ++ [(b, if k = 0 then h else 0)] := by
  cases ls with
  | nil => simp at hb
  | cons c r =>
    cases k with
    | zero => simp at hb; subst hb; simp [heldF]
    | succ k =>
      simp at hb
      have hk := (List.getElem?_eq_some_iff.1 hb).1
      have : (heldF (c :: r) h)[k + 1]? = some (b, 0) := by simp [heldF, hb]
      rw [List.take_add_one, this]
      simp
/-- What a round of Put has: the rows, and k of them on their way. -/
def PutI (w : World) (B g room : Nat) (l : List (List UInt8 × Nat)) (ls : List (List UInt8)) (h : Nat) (vA : Value) (k : Nat) (wr : World) : Prop :=
  Kept B [57, 60] w wr ∧ WireAt wr B g room (l ++ (heldF ls h).take k) ∧ RowsAt wr w.heap.size vA ls

set_option maxHeartbeats 4000000 in
theorem put_ok (w : World) (B g room : Nat) (l : List (List UInt8 × Nat)) (fv v : Value) (f : FT) (b : List UInt8) (hw : WireAt w B g room l) (hf : FaultV w fv f) (hr : ReadsB w v b) (hl : b.length ≤ 200) (hvc : ∀ A n c, v = .slice A n c → c ≤ 9223372036854775807)
    (hll : l.length ≤ 10000) (hF : l.length + (f.of b).length ≤ room) (hld : ∀ x ∈ f.of b, x.length ≤ 140737488355328) :
    Calls Try.prog 17 #[.pointer (some ⟨g, 0, none⟩), v, fv] w (PutEnd w B g room 0 (l ++ heldF (f.of b) f.held)) := by
  obtain ⟨vw, us, hul, hg, ho, hrr⟩ := hw.ex
  obtain ⟨Aw, cw, rfl⟩ := ho.slice
  have HW := Lib.hid hw
  have HF := Lib.hid hf
  have HR := Lib.hid hr
  have HV := Lib.hid hvc
  have HG := Lib.hid hg
  have HLD := Lib.hid hld
  have hlt := hw.lt
  have hBw : B ≤ w.heap.size := by have := hw.ge; omega
  obtain ⟨A, c, rfl, _, hn, _⟩ := hf
  have h2 := FT.of_len f b
  obtain ⟨p, hp, hp1⟩ : ∃ p : Nat, max f.n 0 = (p : Int) ∧ p = f.n.toNat := ⟨f.n.toNat, by omega, rfl⟩
  have hple : p ≤ 9223372036854775807 := by omega
  have HP := Lib.hid hp
  have HP1 := Lib.hid hp1
  clear hw hr hvc hg ho hrr hul hp hp1 hld
  obtain ⟨i0, hi, hz0, hz1, hz2⟩ := info_parts Try.info60
  go_enter Try.func17, Try.ntmps17
  go_wp2_with fail
  refine (of_any _ _ v f b (HF.out.below ((Below.refl _ _).alloc (Nat.le_refl _) _)) (HR.out.below ((Below.refl _ _).alloc (Nat.le_refl _) _)) hl HV.out).mono ?_
  rintro e w1 ⟨vA, rfl, hA, hb1⟩
  obtain ⟨A1, c1, rfl⟩ := hA.slice
  have hg1 := blk_below' (blk_alloc HG.out _) hb1
  have hx1 := blk_below' (blk_new _ _) hb1
  have g0 := blk_cell hg1 0
  have g1 := blk_cell hg1 1
  have x0 := blk_cell hx1 0
  have x1 := blk_cell hx1 1
  have x2 := blk_cell hx1 2
  have x3 := blk_cell hx1 3
  simp at g0 g1 x0 x1 x2 x3
  have HB1 : Hid (Below w.heap.size w w1) := ((Below.refl _ _).alloc (Nat.le_refl _) _).trans (hb1.mono (by simp))
  have HX1 := Lib.hid hx1
  have hA' : RowsAt w1 w.heap.size (.slice A1 (f.of b).length c1) (f.of b) := hA.lower (by simp)
  have HA := Lib.hid hA'
  have hd : decide (room < l.length + (f.of b).length) = false := by simpa using hF
  clear hA hb1 hg1 hx1 hA'
  go_wp2_with fail
  go_quiet (fail)
  go_upto_if 29 with fail
  go_cut [8] (fun h w' => h = .int .i64 (f.held : Int) ∧ Below w1.heap.size w1 w')
  case first =>
    by_cases hk : f.kind = 3
    · have e3 : (f.kind == 3) = true := by simpa using hk
      have hheld : f.held = min p 16 := by unfold FT.held; rw [if_pos hk]; unfold FT.pos; rw [HP1.out]
      have HK := Lib.hid hk
      clear hk
      by_cases h16 : 16 < p
      · have hm : f.held = 16 := by omega
        have HM := Lib.hid hm
        clear hm hheld
        go_wp2_with fail
        refine (n_any _ _ _ _ _ p HP.out).mono ?_
        rintro e w3 ⟨rfl, hb3⟩
        have HB3 := Lib.hid hb3
        clear hb3
        go_wp2_with fail
        go_meet
        case rel => exact ⟨by rw [HM.out]; rfl, (below_drewN (Below.refl _ _) _).trans HB3.out⟩
      · have hm : f.held = p := by omega
        have HM := Lib.hid hm
        clear hm hheld
        go_wp2_with fail
        refine (n_any _ _ _ _ _ p HP.out).mono ?_
        rintro e w3 ⟨rfl, hb3⟩
        have HB3 := Lib.hid hb3
        clear hb3
        go_wp2_with fail
        go_meet
        case rel => exact ⟨by rw [HM.out], (below_drewN (Below.refl _ _) _).trans HB3.out⟩
    · have e3 : (f.kind == 3) = false := by simpa using hk
      have hheld : f.held = 0 := by unfold FT.held; rw [if_neg hk]
      have HM := Lib.hid hheld
      clear hheld hk
      go_wp2_with fail
      go_meet
      case rel => exact ⟨by rw [HM.out]; rfl, below_drewN (Below.refl _ _) _⟩
  case rest =>
    obtain ⟨rfl, hb2⟩ := hcut
    have hwc : WireAt wc B g room l := HW.out.below (HB1.out.trans (hb2.mono HB1.out.size))
    have hac : RowsAt wc w.heap.size (.slice A1 (f.of b).length c1) (f.of b) := HA.out.below hb2
    have hbc : Below w.heap.size w wc := HB1.out.trans (hb2.mono HB1.out.size)
    have HWC := Lib.hid hwc
    have HAC := Lib.hid hac
    have HBC := Lib.hid hbc
    clear g0 g1 x0 x1 x2 x3 hb2 hwc hac hbc HX1 HA HB1 HW HF HR HV HG
    go_wp2_with fail
    go_loopw [8, 35] (fun h i wr => ∃ k : Nat, k ≤ (f.of b).length ∧ i = .int .i64 k ∧ h = .int .i64 ((if k = 0 then f.held else 0 : Nat) : Int) ∧ PutI w B g room l (f.of b) f.held (.slice A1 (f.of b).length c1) k wr) (fun _ i _ => (f.of b).length - (intOf i).toNat)
    case atStart => exact ⟨0, Nat.zero_le _, rfl, rfl, Kept.of_below HBC.out, by simpa using HWC.out, HAC.out⟩
    case round =>
      obtain ⟨k, hk, rfl, rfl, hkr, hwr, har⟩ := hrel
      obtain ⟨q, hq, hq16⟩ : ∃ q : Nat, q = (if k = 0 then f.held else 0) ∧ q ≤ 16 := ⟨_, rfl, by have := FT.held_le f; split <;> omega⟩
      rw [← hq]
      have HQ := Lib.hid hq
      have HKR := Lib.hid hkr
      have HWR := Lib.hid hwr
      have HAR := Lib.hid har
      clear hkr hwr har hq HWC HAC HBC
      by_cases hlt2 : k < (f.of b).length
      · obtain ⟨x, hx⟩ : ∃ x, (f.of b)[k]? = some x := ⟨_, List.getElem?_eq_getElem hlt2⟩
        obtain ⟨vs, hvl, hvo, hvr⟩ := HAR.out
        obtain ⟨u, hu⟩ : ∃ u, vs[k]? = some u := ⟨_, List.getElem?_eq_getElem (by rw [hvl]; exact hlt2)⟩
        obtain ⟨ga, ca, he, hga, _⟩ := own_some hvo (by omega)
        cases he
        have hc1 : wr.cell? ⟨ga, k, none⟩ = some u := by
          have h1 := hvo.cells (g := ga) rfl k u hu
          have h2 : (⟨ga, 0, none⟩ : Addr).add k = ⟨ga, k, none⟩ := by unfold Addr.add; split <;> simp_all
          rwa [h2] at h1
        have hux := hvr k u x hu hx
        obtain ⟨Au, cu, rfl⟩ := own_slice hux
        obtain ⟨vw, us2, hul2, hg2, ho2, hr2⟩ := HWR.out.ex
        obtain ⟨Aw2, cw2, rfl⟩ := ho2.slice
        have g1 := blk_cell hg2 1
        simp at g1
        have hgr := HWR.out.lt
        have hlen : (l ++ (heldF (f.of b) f.held).take k).length ≤ l.length + 2 := by simp [heldF_len]; omega
        have hnext : l ++ (heldF (f.of b) f.held).take (k + 1) = (l ++ (heldF (f.of b) f.held).take k) ++ [(x, q)] := by rw [heldF_at _ _ _ _ hx, ← HQ.out, List.append_assoc]
        have HNX := Lib.hid hnext
        have HWX := Lib.hid HWR.out.hh
        have hrm := HWR.out.rm
        have hge := HWR.out.ge
        clear hnext HWR g1
        obtain ⟨L, hL⟩ : ∃ L, L = l ++ (heldF (f.of b) f.held).take k := ⟨_, rfl⟩
        rw [← hL] at HNX HWX hlen hr2 ho2 hg2 hul2
        clear hL
        have g1 := blk_cell hg2 1
        have f1 := blk_frozen hg2 1
        simp at g1
        have HG2 := Lib.hid hg2
        have HO2 := Lib.hid ho2
        have HR2 := Lib.hid hr2
        have HUL := Lib.hid hul2
        have HUX := Lib.hid hux
        have HVR := Lib.hid hvr
        have HVO := Lib.hid hvo
        have hne : Hid (some g ≠ (Value.slice Aw2 L.length cw2).ownBlock) := fun e => by have := ho2.ne hg2 (by decide) g e.symm; omega
        clear hg2 ho2 hr2 hul2 hux hvr hvo hx hu hvl
        have hBr : B ≤ wr.heap.size := by omega
        go_wp2_with (at_builtin; go_loud (refine wpList_append_off rfl (.tmp 43) (.tmp 47) 55 rfl B 60 i0 (.agg #[.slice none 0 0, .int .i64 0]) 2 32 Try.underlying55 hi hz0 hz1 hz2 rfl (by decide) (.slice Aw2 L.length cw2) L.length (cells2 (us2.zip (L.map Prod.snd))) rfl ?o1 ⟨wr.heap.size, 0, none⟩ 1 1 [.slice Au x.length cu, .int .i64 (q : Int)] rfl rfl ?o2 ?o3 ?o4 ?o5 ?o6 (by decide) ?_))
        case o1 => exact HO2.out.below ((Below.refl _ _).alloc (Nat.le_refl _) _)
        case o2 => exact cells_two _ (blk_new _ _)
        case o3 => simp [Value.oneCell']
        case o4 => unfold maxLen; omega
        case o5 => omega
        case o6 => simp; omega
        intro v2 w2 ho3 hgr3
        obtain ⟨A3, c3, rfl⟩ := ho3.slice
        have hg3 := blk_grown (blk_alloc HG2.out _) hgr3 hne.out
        have g3 := blk_cell hg3 1
        have f3 := blk_frozen hg3 1
        simp at g3
        have HO3 := Lib.hid ho3
        have HGR3 := Lib.hid hgr3
        clear ho3 hgr3 hg3
        go_wp2_with fail
        go_roundw
        case rel =>
          obtain ⟨p1, p2⟩ := wire_push hge hrm HWX.out hq16 HUL.out HG2.out HO2.out HR2.out HUX.out hBw HGR3.out HO3.out
          refine ⟨k + 1, by omega, by go_num, by simp, HKR.out.trans p1, ?_, HAR.out.kept p1 (by decide) (by decide)⟩
          rw [HNX.out]
          exact p2
        case measure => simp [intOf]; omega
      · have hkk : k = (f.of b).length := by omega
        subst hkk
        go_wp2_with fail
        go_ret
        have h9 : (heldF (f.of b) f.held).take (f.of b).length = heldF (f.of b) f.held := List.take_of_length_le (by rw [heldF_len]; exact Nat.le_refl _)
        refine ⟨rfl, HKR.out, ?_⟩
        have := HWR.out
        rwa [h9] at this

theorem FT.of_small (f : FT) (b : List UInt8) (hb : b.length ≤ 200) : ∀ x ∈ f.of b, x.length ≤ 140737488355328 := by
  intro x hx
  have he : ∀ k y, (editF b k y).length = b.length := fun k y => by simp [editF]
  have ht : ∀ k, (b.take k).length ≤ b.length := fun k => by simp; omega
  have hn : (f.b.take 64).length ≤ 64 := by simp; omega
  unfold FT.of at hx
  split at hx
  · simp at hx
  split at hx
  · simp at hx; subst hx; omega
  split at hx
  · simp only [List.mem_singleton] at hx
    split at hx
    · subst hx; omega
    · subst hx; rw [he]; omega
  split at hx
  · simp only [List.mem_singleton] at hx
    subst hx; have := ht f.pos; omega
  split at hx
  · simp only [List.mem_cons, List.not_mem_nil, or_false] at hx
    rcases hx with rfl | rfl <;> omega
  · simp at hx; subst hx; omega
theorem wire_put (w : World) (B g room : Nat) (l l' : List (List UInt8 × Nat)) (n : Int) (fv v : Value) (f : FT) (b : List UInt8) (hw : WireAt w B g room l) (hf : FaultV w fv f) (hr : ReadsB w v b) (hl : b.length ≤ 200) (hvc : ∀ A n c, v = .slice A n c → c ≤ 9223372036854775807)
    (hll : l.length ≤ 10000) (hF : putF room l f b = (n, l')) :
    Calls Try.prog 17 #[.pointer (some ⟨g, 0, none⟩), v, fv] w (PutEnd w B g room n l') := by
  unfold putF at hF
  split at hF
  · rename_i h
    cases hF
    exact put_full w B g room l fv v f b hw hf hr hl hvc hll h
  · rename_i h
    cases hF
    exact put_ok w B g room l fv v f b hw hf hr hl hvc hll (by omega) (FT.of_small f b hl)
end Go.Proofs.Ytcdanimdkkhamaa
