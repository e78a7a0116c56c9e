/- The walk of lamplightlaw06.WireFull. -/
import Derived.Test.YtcdanimdkkhamaaXf
set_option linter.unusedVariables false
set_option linter.unusedSimpArgs false
namespace Go.Proofs.Ytcdanimdkkhamaa
open Go.RowKit

def FullI (w : World) (g room : Nat) (l : List (List UInt8 × Nat)) (wr : World) : Prop := Below w.heap.size w wr ∧ WireAt wr w.heap.size g room l
theorem FullI.kept {w wr w2 : World} {g room : Nat} {l l' : List (List UInt8 × Nat)} (h : FullI w g room l wr) (k : Kept w.heap.size [57, 60] wr w2) (hw : WireAt w2 w.heap.size g room l') : FullI w g room l' w2 :=
  ⟨h.1.trans (k.below h.1.size), hw⟩

set_option maxHeartbeats 4000000 in
set_option maxRecDepth 100000 in
theorem wfull_walk (a0 : Int) (a1 : Option Addr) (len1 cap1 : Nat) (w : World) (w0 : (Lit.int .i64 a0).wf = true) (r1 : RowsIn w a1 len1 cap1) :
    Calls Try.prog 7 #[.int .i64 a0, .slice a1 len1 cap1] w fun e w' => e = .returned (.bool true) ∧ Below w.heap.size w w' := by
  obtain ⟨q, hq, hq2⟩ := and_i64 a0 65535 (by omega)
  obtain ⟨room, hroom, hr1, hr2⟩ : ∃ room : Nat, 1 + (q : Int) % 20 = (room : Int) ∧ 1 ≤ room ∧ room ≤ 20 := ⟨1 + q % 20, by omega, by omega, by omega⟩
  obtain ⟨m, hm1, hm2, hm3, hmin⟩ := min_nat len1 40
  obtain ⟨hmax, ts, htl, hts, htx⟩ := few_all r1 m hm1
  have hq' : bits BinOp.and IntKind.i64 a0 65535 = (q : Int) := hq
  have hnew : (if (room : Int) < 1 then 1 else (room : Int)) = (room : Int) := by rw [if_neg (by omega)]
  have HNEW := Lib.hid hnew
  have HQ := Lib.hid hq'
  have HR := Lib.hid hroom
  have HTL := Lib.hid htl
  have HTS := Lib.hid hts
  have HTX := Lib.hid htx
  have HM3 := Lib.hid hm3
  have hml : m ≤ len1 := hm1
  clear hq hq' hroom hmin htl hts htx hm3 r1 hm1 hnew
  go_enter Try.func7, Try.ntmps7
  go_wp2_with fail
  refine (shown_any _).mono ?_
  rintro e w1 ⟨rfl, hb1⟩
  have HB1 := Lib.hid hb1
  clear hb1
  have hqq := HQ.out
  have hro := HR.out
  go_upto_region 3 with fail
  clear hqq hro
  go_wp2_with fail
  refine (wire_new _ (room : Int) room HNEW.out (by omega)).mono ?_
  rintro e w2 ⟨rfl, hb2, hs2⟩
  have hg : w.heap.size ≤ w1.heap.size := HB1.out.size
  have HI2 := Lib.hid (show FullI w w1.heap.size room [] w2 from ⟨HB1.out.trans (hb2.mono HB1.out.size), hs2.lower hg⟩)
  clear hb2 hs2
  go_wp2_with fail
  go_loopw [7, 8] (fun n i wr => ∃ k : Nat, k ≤ m ∧ i = .int .i64 k ∧ n = .int .i64 ((min k room : Nat) : Int) ∧ FullI w w1.heap.size room (pass (ts.take (min k room))) wr) (fun _ i _ => m - (intOf i).toNat)
  case atStart => exact ⟨0, Nat.zero_le _, rfl, by simp, by simpa [pass] using HI2.out⟩
  case round =>
    obtain ⟨k, hk, rfl, rfl, hir⟩ := hrel
    have HIR := Lib.hid hir
    clear hir HI2
    obtain ⟨mn, hmn⟩ : ∃ mn : Nat, mn = min k room := ⟨_, rfl⟩
    rw [← hmn] at HIR ⊢
    by_cases hlt : k < m
    · have hk1 : k < len1 := by omega
      have hd : (decide ((k : Int) < 40)) = true := by simp; omega
      have hkt : k < ts.length := by have := HTL.out; omega
      have hx := getD_of hkt
      obtain ⟨b, hb⟩ : ∃ b, b = ts.getD k [] := ⟨_, rfl⟩
      rw [← hb] at hx
      obtain ⟨x, hxa, hxf⟩ := HTX.out (by omega)
      obtain ⟨A, n, c, mm, c1, c2, c3, c4, c5, c6, c7, c8⟩ := (hxf k b hx).below HIR.out.1
      have hbl : b.length ≤ 200 := by omega
      have hpl : (pass (ts.take mn)).length = mn := by simp [pass_len]; omega
      have HPL := Lib.hid hpl
      have H5 := Lib.hid c5
      have H6 := Lib.hid c6
      have HXB := Lib.hid hx
      by_cases hkr : k < room
      · have hmk : mn = k := by omega
        have hsn : pass (ts.take (k + 1)) = pass (ts.take mn) ++ [(b, 0)] := by rw [pass_snoc ts k b hx, hmk]
        have hm1 : min (k + 1) room = k + 1 := by omega
        have hF : putF room (pass (ts.take mn)) ⟨0, 0, 0, []⟩ b = (0, pass (ts.take mn) ++ [(b, 0)]) := by rw [put_pass, if_pos (by omega)]
        have HF := Lib.hid hF
        have HSN := Lib.hid hsn
        have HM1 := Lib.hid hm1
        subst hmk
        clear hF hsn hm1 c5 c6 c7 hpl hb hx hxf hmn
        subst hxa
        go_wp2_with fail
        refine (few_any _ A n c mm H5.out c4 c2).mono ?_
        rintro e w4 ⟨rfl, rfl⟩
        go_wp2_with fail
        refine (wire_put _ w.heap.size w1.heap.size room (pass (ts.take mn)) (pass (ts.take mn) ++ [(b, 0)]) 0 (.agg #[.int .i64 0, .int .i64 0, .int .u8 0, .slice none 0 0]) (.slice A mm c) ⟨0, 0, 0, []⟩ b HIR.out.2 (fault_lit _ 0 0 (by omega)) H6.out hbl (cap_lit c3) (by have := HPL.out; omega) HF.out).mono ?_
        rintro e w5 ⟨rfl, hk5, hs5⟩
        have HI5 := Lib.hid (HIR.out.kept hk5 hs5)
        clear hk5 hs5
        go_wp2_with fail
        go_roundw
        case rel => exact ⟨mn + 1, by omega, by go_num, by rw [HM1.out]; go_num, by rw [HM1.out, HSN.out]; exact HI5.out⟩
        case measure => simp [intOf]; omega
      · have hmn20 : mn ≤ 20 := by omega
        have hmk : mn = room := by omega
        have hm1 : min (k + 1) room = mn := by omega
        have hF : putF room (pass (ts.take mn)) ⟨0, 0, 0, []⟩ b = (5, pass (ts.take mn)) := by rw [put_pass, if_neg (by omega)]
        have HF := Lib.hid hF
        have HM1 := Lib.hid hm1
        clear hF hm1 c5 c6 c7 hpl hb hx hxf hmn hmk
        subst hxa
        go_wp2_with fail
        refine (few_any _ A n c mm H5.out c4 c2).mono ?_
        rintro e w4 ⟨rfl, rfl⟩
        go_wp2_with fail
        refine (wire_put _ w.heap.size w1.heap.size room (pass (ts.take mn)) (pass (ts.take mn)) 5 (.agg #[.int .i64 0, .int .i64 0, .int .u8 0, .slice none 0 0]) (.slice A mm c) ⟨0, 0, 0, []⟩ b HIR.out.2 (fault_lit _ 0 0 (by omega)) H6.out hbl (cap_lit c3) (by have := HPL.out; omega) HF.out).mono ?_
        rintro e w5 ⟨rfl, hk5, hs5⟩
        have HI5 := Lib.hid (HIR.out.kept hk5 hs5)
        clear hk5 hs5
        go_wp2_with fail
        go_roundw
        case rel => exact ⟨k + 1, by omega, by go_num, by rw [HM1.out], by rw [HM1.out]; exact HI5.out⟩
        case measure => simp [intOf]; omega
    · obtain rfl : k = m := by omega
      have hmnk : mn ≤ k := by omega
      have hmn40 : mn ≤ 20 := by omega
      have hcase : (¬ k < len1) ∨ (k < len1 ∧ decide ((k : Int) < 40) = false) := by
        have := HM3.out
        by_cases h : k < len1
        · exact .inr ⟨h, by simp; omega⟩
        · exact .inl h
      have hte := take_pass (ts.take mn)
      have hul : (ts.take mn).length = mn := by have := HTL.out; simp; omega
      obtain ⟨us, hus⟩ : ∃ us, us = ts.take mn := ⟨_, rfl⟩
      have hat : ∀ t, t < mn → us.getD t [] = ts.getD t [] := fun t ht => by rw [hus]; simp [List.getD, List.getElem?_take, ht]
      rw [← hus] at HIR hte hul
      have HAT := Lib.hid hat
      have HTE := Lib.hid hte
      have HUL := Lib.hid hul
      clear hus hat hte hul hmn hlt
      rcases hcase with hk1 | ⟨hk1, hd⟩
      all_goals
        go_wp2_with fail
        refine (wire_take _ w.heap.size w1.heap.size room _ HIR.out.2 (by rw [pass_len]; have := HUL.out; omega)).mono ?_
        rw [HTE.out]
        rintro e w7 ⟨v7, rfl, hr7, hk7, hs7⟩
        have HI7 := Lib.hid (HIR.out.kept hk7 hs7)
        have HR7 := Lib.hid hr7
        obtain ⟨A7, c7, rfl⟩ := hr7.slice
        have hsl : Value.slice A7 us.length c7 = .slice A7 mn c7 := by rw [HUL.out]
        simp only [hsl] at HR7 ⊢
        clear hr7 hk7 hs7 hsl
        go_wp2_with fail
        refine (wire_len _ w.heap.size w1.heap.size room [] HI7.out.2).mono ?_
        rintro e w8 ⟨rfl, rfl⟩
        go_wp2_with fail
        go_loopw [11] (fun i wr => ∃ t : Nat, t ≤ mn ∧ i = .int .i64 t ∧ Below w7.heap.size w7 wr) (fun i _ => mn - (intOf i).toNat)
        case atStart => exact ⟨0, Nat.zero_le _, rfl, Below.refl _ _⟩
        case round =>
          obtain ⟨t, ht, rfl, hbt⟩ := hrel
          obtain ⟨wt, rfl⟩ : ∃ x, x = wr := ⟨wr, rfl⟩
          have HBT := Lib.hid hbt
          by_cases htj : t < mn
          · have htt : t < ts.length := by have := HTL.out; omega
            have htlen : t < len1 := by omega
            have hx := getD_of htt
            have hrt := HR7.out.below hbt
            obtain ⟨b, hb⟩ : ∃ b, b = ts.getD t [] := ⟨_, rfl⟩
            rw [← hb] at hx
            obtain ⟨gb, cb, A9, c9, he, hcb1, hcb2, hcell2, hown2⟩ := hrt.at (k := t) (by have := HUL.out; omega)
            cases he
            have hgd : us.getD t [] = b := by rw [hb]; exact HAT.out t htj
            rw [hgd] at hcell2 hown2
            obtain ⟨x, hxa, hxf⟩ := HTX.out (by omega)
            obtain ⟨A, n, c, mm, c1, c2, c3, c4, c5, c6, c7', c8'⟩ := (hxf t b hx).below (HI7.out.1.trans (hbt.mono HI7.out.1.size))
            have hcv1 := rows_small' hown2 (by have := HTS.out b (List.mem_of_getElem? hx); exact this)
            have hcv2 : ∀ mmm, (convert 28 9 (.slice A mm c)).run Try.prog (wt.drewN mmm) = .ok (.string ⟨b.toArray⟩) (wt.drewN mmm) := fun mmm => conv_bytes _ _ _ (c6.below (below_drewN (Below.refl _ _) mmm))
            have H5 := Lib.hid c5
            subst hxa
            clear hb hx hrt hxf c5 c6 c7' hgd hown2 hbt
            go_wp2_with fail
            go_quiet ((first
              | (go_at_call 12; refine quiet_left (few_any _ A n c mm H5.out c4 c2))
              | (go_at_call 12; refine quiet_add_left (few_any _ A n c mm H5.out c4 c2))))
            go_wp2_with fail
            go_roundw
            case rel => exact ⟨t + 1, by omega, by go_num, below_drewN HBT.out _⟩
            case measure => simp [intOf]; omega
          · obtain rfl : t = mn := by omega
            clear hbt
            go_wp2_with fail
            go_ret
            exact ⟨rfl, HI7.out.1.trans (HBT.out.mono HI7.out.1.size)⟩
end Go.Proofs.Ytcdanimdkkhamaa
