/- The walk of lamplightlaw06.WireHeld. -/
import Derived.Test.YtcdanimdkkhamaaXe
set_option linter.unusedVariables false
set_option linter.unusedSimpArgs false
namespace Go.Proofs.Ytcdanimdkkhamaa
open Go.RowKit

def first5 : List UInt8 := [102, 105, 114, 115, 116]
def HeldI (w : World) (g : Nat) (l : List (List UInt8 × Nat)) (wr : World) : Prop := Below w.heap.size w wr ∧ WireAt wr w.heap.size g 20 l
theorem HeldI.kept {w wr w2 : World} {g : Nat} {l l' : List (List UInt8 × Nat)} (h : HeldI w g l wr) (k : Kept w.heap.size [57, 60] wr w2) (hw : WireAt w2 w.heap.size g 20 l') : HeldI w g l' w2 :=
  ⟨h.1.trans (k.below h.1.size), hw⟩
theorem put_first (r : Nat) (h : r ≤ 16) : putF 20 [] ⟨3, r, 0, []⟩ first5 = (0, [(first5, r)]) := by
  unfold putF
  simp [FT.of, FT.held, heldF, FT.pos]
  omega

theorem rows_small' {w : World} {B : Nat} {A : Option Addr} {c : Nat} {x : List UInt8} (h : w.ownsRow B 5 1 (.slice A x.length c) x.length (bytesV x)) (hx : x.length ≤ 200) : ∀ n, (convert 28 9 (.slice A x.length c)).run Try.prog (w.drewN n) = .ok (.string ⟨x.toArray⟩) (w.drewN n) :=
  fun n => conv_bytes _ _ _ ((own_reads h (by omega)).below (below_drewN (Below.refl _ _) n))

set_option maxHeartbeats 4000000 in
set_option maxRecDepth 100000 in
theorem wheld_walk (a0 : Int) (a1 : Option Addr) (len1 cap1 : Nat) (w : World) (w0 : (Lit.int .i64 a0).wf = true) (r1 : RowsIn w a1 len1 cap1) :
    Calls Try.prog 5 #[.int .i64 a0, .slice a1 len1 cap1] w fun e w' => e = .returned (.bool true) ∧ Below w.heap.size w w' := by
  obtain ⟨q, hq, hq2⟩ := and_i64 a0 65535 (by omega)
  obtain ⟨r, hr, hr2⟩ : ∃ r : Nat, (q : Int) % 17 = (r : Int) ∧ r ≤ 16 := ⟨q % 17, by omega, by omega⟩
  obtain ⟨m, hm1, hm2, hm3, hmin⟩ := min_nat len1 10
  obtain ⟨hmax, ts, htl, hts, htx⟩ := few_all r1 m hm1
  have hq' : bits BinOp.and IntKind.i64 a0 65535 = (q : Int) := hq
  have hmin' : (if (10 : Int) < (len1 : Int) then (10 : Int) else (len1 : Int)) = (m : Int) := hmin
  have HQ := Lib.hid hq'
  have HR := Lib.hid hr
  have HMIN := Lib.hid hmin'
  have HTL := Lib.hid htl
  have HTS := Lib.hid hts
  have HTX := Lib.hid htx
  have hml : m ≤ len1 := hm1
  clear hq hq' hr hmin hmin' htl hts htx hm3 r1 hm1
  have kc := conv_const
  go_enter Try.func5, Try.ntmps5
  go_wp2_with fail
  refine (shown_any _).mono ?_
  rintro e w1 ⟨rfl, hb1⟩
  have HB1 := Lib.hid hb1
  clear hb1
  have hqq := HQ.out
  have hro := HR.out
  have hrt : (q : Int).tmod 17 = (r : Int) := by rw [← HR.out]; exact Int.tmod_eq_emod_of_nonneg (by omega)
  go_upto_region 3 with fail
  go_wp2_with fail
  clear hqq hro hrt
  refine (wire_new _ 20 20 rfl (by omega)).mono ?_
  rintro e w2 ⟨rfl, hb2, hs2⟩
  have hg : w.heap.size ≤ w1.heap.size := HB1.out.size
  have HI2 := Lib.hid (show HeldI w w1.heap.size [] w2 from ⟨HB1.out.trans (hb2.mono HB1.out.size), hs2.lower hg⟩)
  clear hb2 hs2
  go_wp2_with fail
  refine (wire_put _ w.heap.size w1.heap.size 20 [] [(first5, r)] 0 (.agg #[.int .i64 3, .int .i64 (r : Int), .int .u8 0, .slice none 0 0]) (.slice (some ⟨w2.heap.size, 0, none⟩) 5 5) ⟨3, r, 0, []⟩ first5 (HI2.out.2.below ?hA) (fault_lit _ 3 r (by omega)) ?hR (by decide) (cap_lit (by omega)) (by decide) (put_first r hr2)).mono ?_
  case hA => exact (by repeat' (first | (with_reducible exact Below.refl _ _) | (with_reducible refine below_drewN ?_ _) | (with_reducible refine Below.setCell ?_ ?_ _) | (with_reducible refine Below.alloc ?_ ?_ _) | (simp; done) | (simp; omega)))
  case hR => exact reads_lit (t := 5) (fr := (5, 6)) (cs := #[.int .u8 102, .int .u8 105, .int .u8 114, .int .u8 115, .int .u8 116]) (by repeat' (first | (refine blk_new' _ _ _ ?_; simp; done) | (with_reducible refine blk_alloc ?_ _))) first5 rfl (by decide)
  rintro e w3 ⟨rfl, hk, hs⟩
  have HI3 := Lib.hid (show HeldI w w1.heap.size [(first5, r)] w3 from ⟨kept_step HI2.out.1 (by repeat' (first | (with_reducible exact Below.refl _ _) | (with_reducible refine below_drewN ?_ _) | (with_reducible refine Below.setCell ?_ ?_ _) | (with_reducible refine Below.alloc ?_ ?_ _) | (simp; done) | (simp; omega))) HI2.out.1.size hk, hs⟩)
  clear hk hs HI2 kc
  have hmn := HMIN.out
  go_upto_region 7 with fail
  clear hmn
  go_wp2_with fail
  go_loopw [8] (fun i wr => ∃ k : Nat, k ≤ m ∧ i = .int .i64 k ∧ HeldI w w1.heap.size ((first5, r) :: pass (ts.take k)) wr) (fun i _ => m - (intOf i).toNat)
  case atStart => exact ⟨0, Nat.zero_le _, rfl, HI3.out⟩
  case round =>
    obtain ⟨k, hk, rfl, hir⟩ := hrel
    have HIR := Lib.hid hir
    clear hir HI3
    by_cases hlt : k < m
    · have hkt : k < ts.length := by have := HTL.out; omega
      have hx := getD_of hkt
      obtain ⟨b, hb⟩ : ∃ b, b = ts.getD k [] := ⟨_, rfl⟩
      rw [← hb] at hx
      obtain ⟨x, hxa, hxf⟩ := HTX.out (by omega)
      obtain ⟨A, n, c, mm, c1, c2, c3, c4, c5, c6, c7, c8⟩ := (hxf k b hx).below HIR.out.1
      have HXF := Lib.hid hxf
      have hsn : (first5, r) :: pass (ts.take (k + 1)) = ((first5, r) :: pass (ts.take k)) ++ [(b, 0)] := by rw [pass_snoc ts k b hx]; rfl
      have hpl : ((first5, r) :: pass (ts.take k)).length = 1 + k := by simp [pass_len]; omega
      obtain ⟨L, hL⟩ : ∃ L, L = (first5, r) :: pass (ts.take k) := ⟨_, rfl⟩
      have HSN := Lib.hid hsn
      rw [← hL] at HIR hpl HSN
      have hF : putF 20 L ⟨0, 0, 0, []⟩ b = (0, L ++ [(b, 0)]) := by rw [put_pass, if_pos (by omega)]
      have hbl : b.length ≤ 200 := by omega
      have HF := Lib.hid hF
      have H5 := Lib.hid c5
      have H6 := Lib.hid c6
      have H7 := Lib.hid c7
      have HPL := Lib.hid hpl
      clear hF c5 c6 c7 hpl hL hsn hb hx hxf
      subst hxa
      go_wp2_with fail
      refine (few_any _ A n c mm H5.out c4 c2).mono ?_
      rintro e w4 ⟨rfl, rfl⟩
      go_wp2_with fail
      refine (wire_put _ w.heap.size w1.heap.size 20 L (L ++ [(b, 0)]) 0 (.agg #[.int .i64 0, .int .i64 0, .int .u8 0, .slice none 0 0]) (.slice A mm c) ⟨0, 0, 0, []⟩ b HIR.out.2 (fault_lit _ 0 0 (by omega)) H6.out hbl (cap_lit c3) (by have := HPL.out; omega) HF.out).mono ?_
      rintro e w5 ⟨rfl, hk5, hs5⟩
      have HI5 := Lib.hid (HIR.out.kept hk5 hs5)
      clear hk5 hs5
      go_wp2_with fail
      go_roundw
      case rel => exact ⟨k + 1, by omega, by go_num, by rw [HSN.out]; exact HI5.out⟩
      case measure => simp [intOf]; omega
    · obtain rfl : k = m := by omega
      have htk : ts.take k = ts := List.take_of_length_le (by have := HTL.out; omega)
      rw [htk] at HIR
      clear htk
      have hpl : (pass ts).length = k := by rw [pass_len]; exact HTL.out
      go_wp2_with fail
      go_loopw [9] (fun i wr => ∃ j : Nat, j ≤ r ∧ i = .int .i64 j ∧ HeldI w w1.heap.size ((first5, r - j) :: pass ts) wr) (fun i _ => r - (intOf i).toNat)
      case atStart => exact ⟨0, Nat.zero_le _, rfl, HIR.out⟩
      case round =>
        obtain ⟨j, hj, rfl, hir⟩ := hrel
        have HJ := Lib.hid hir
        clear hir HIR
        by_cases hjr : j < r
        · obtain ⟨h, hh⟩ : ∃ h, r - j = h + 1 := ⟨r - j - 1, by omega⟩
          have hh2 : r - (j + 1) = h := by omega
          rw [hh] at HJ
          go_wp2_with fail
          refine (wire_take _ w.heap.size w1.heap.size 20 _ HJ.out.2 (by simp; omega)).mono ?_
          rintro e w7 ⟨v7, rfl, hr7, hk7, hs7⟩
          have hr7' : RowsAt w7 w.heap.size v7 [] := hr7
          have hs7' : WireAt w7 w.heap.size w1.heap.size 20 ((first5, h) :: pass ts) := hs7
          obtain ⟨A7, c7, rfl⟩ := hr7'.slice
          have HI7 := Lib.hid (HJ.out.kept hk7 hs7')
          have hln : (([] : List (List UInt8)).length) = 0 := rfl
          have hln2 : ((first5, h) :: pass ts).length = k + 1 := by simp; exact hpl
          have HP := Lib.hid hpl
          have HH := Lib.hid hh
          have HH2 := Lib.hid hh2
          have HLN := Lib.hid hln2
          clear hr7 hk7 hs7 hr7' hs7' hpl hh hh2 hln2
          go_wp2_with fail
          refine (wire_len _ w.heap.size w1.heap.size 20 _ HI7.out.2).mono ?_
          rintro e w9 ⟨rfl, rfl⟩
          rw [HLN.out]
          go_wp2_with fail
          go_roundw
          case rel => exact ⟨j + 1, by omega, by go_num, by rw [HH2.out]; exact HI7.out⟩
          case measure => simp [intOf]; omega
        · obtain rfl : j = r := by omega
          rw [Nat.sub_self] at HJ
          have hte := take_first first5 ts
          have HP := Lib.hid hpl
          go_wp2_with fail
          refine (wire_take _ w.heap.size w1.heap.size 20 _ HJ.out.2 (by simp; omega)).mono ?_
          rw [hte]
          clear hte hpl
          rintro e w7 ⟨v7, rfl, hr7, hk7, hs7⟩
          have HI7 := Lib.hid (HJ.out.kept hk7 hs7)
          have HR7 := Lib.hid hr7
          have hl7 : (first5 :: ts).length = k + 1 := by simp; exact HTL.out
          obtain ⟨ga, ca, A8, c8, rfl, hca, hca2, hcell, hown⟩ := hr7.at (k := 0) (by simp)
          have hcell' : w7.cell? ⟨ga, 0, none⟩ = some (.slice A8 5 c8) := hcell
          have hcv : (convert 28 9 (.slice A8 5 c8)).run Try.prog w7 = .ok (.string ⟨#[102, 105, 114, 115, 116]⟩) w7 := conv_bytes _ _ _ (own_reads (l := first5) hown (by decide))
          rw [hl7] at HR7 hca
          have HL7 := Lib.hid hl7
          have hsl : Value.slice (some ⟨ga, 0, none⟩) (first5 :: ts).length ca = .slice (some ⟨ga, 0, none⟩) (k + 1) ca := by rw [hl7]
          rw [hsl]
          clear hr7 hk7 hs7 hcell hown hl7 hsl
          go_wp2_with fail
          go_loopw [12] (fun i wr => ∃ t : Nat, t ≤ k ∧ i = .int .i64 t ∧ Below w7.heap.size w7 wr) (fun i _ => k - (intOf i).toNat)
          case atStart => exact ⟨0, Nat.zero_le _, rfl, Below.refl _ _⟩
          case round =>
            obtain ⟨t, ht, rfl, hbt⟩ := hrel
            obtain ⟨wt, rfl⟩ : ∃ x, x = wr := ⟨wr, rfl⟩
            have HBT := Lib.hid hbt
            by_cases htj : t < k
            · have htt : t < ts.length := by have := HTL.out; omega
              have hx := getD_of htt
              have hrt := HR7.out.below hbt
              obtain ⟨b, hb⟩ : ∃ b, b = ts.getD t [] := ⟨_, rfl⟩
              rw [← hb] at hx
              obtain ⟨gb, cb, A9, c9, he, _, _, hcell2, hown2⟩ := hrt.at (k := t + 1) (by have := HTL.out; simp; omega)
              cases he
              have hgd : (first5 :: ts).getD (t + 1) [] = b := by rw [hb]; rfl
              rw [hgd] at hcell2 hown2
              obtain ⟨x, hxa, hxf⟩ := HTX.out (by omega)
              obtain ⟨A, n, c, mm, c1, c2, c3, c4, c5, c6, c7, c8'⟩ := (hxf t b hx).below (HI7.out.1.trans (hbt.mono HI7.out.1.size))
              have hcv1 := rows_small' hown2 (by have := HTS.out b (List.mem_of_getElem? hx); exact this)
              have hcv2 : ∀ mmm, (convert 28 9 (.slice A mm c)).run Try.prog (wt.drewN mmm) = .ok (.string ⟨b.toArray⟩) (wt.drewN mmm) := fun mmm => conv_bytes _ _ _ (c6.below (below_drewN (Below.refl _ _) mmm))
              have H5 := Lib.hid c5
              subst hxa
              clear hb hx hrt hxf c5 c6 c7 hgd hown2 hbt
              go_wp2_with fail
              go_quiet ((first
                | (go_at_call 12; refine quiet_left (few_any _ A n c mm H5.out c4 c2))
                | (go_at_call 12; refine quiet_add_left (few_any _ A n c mm H5.out c4 c2))))
              go_wp2_with fail
              go_roundw
              case rel => exact ⟨t + 1, by omega, by go_num, below_drewN HBT.out _⟩
              case measure => simp [intOf]; omega
            · obtain rfl : t = k := by omega
              clear hbt
              go_wp2_with fail
              refine (wire_len _ w.heap.size w1.heap.size 20 [] (HI7.out.2.below HBT.out)).mono ?_
              rintro e w9 ⟨rfl, rfl⟩
              go_wp2_with fail
              go_ret
              exact ⟨rfl, HI7.out.1.trans (HBT.out.mono HI7.out.1.size)⟩
end Go.Proofs.Ytcdanimdkkhamaa
