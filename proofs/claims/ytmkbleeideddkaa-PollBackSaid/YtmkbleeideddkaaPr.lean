/- The walk of lamplightlaw09.PollBack. -/
import Derived.Test.YtmkbleeideddkaaPq
import Derived.Deep.CutBlock
set_option linter.unusedVariables false
set_option linter.unusedSimpArgs false
namespace Go.Proofs.Ytmkbleeideddkaa
open Go.RowKit

def BackS (w wr : World) (g h : Nat) (v v2 : Value) (us us2 : List Nat) : Prop := ∃ P Q, Two w wr g h v v2 us us2 P Q ∧ FR P Q

set_option maxHeartbeats 4000000 in
set_option maxRecDepth 100000 in
theorem pback_walk (a0 : Option Addr) (len0 cap0 : Nat) (z0 : List Int) (a1 : Option Addr) (len1 cap1 : Nat) (z1 : List Int) (a2 : Int) (w : World) (w0 : IsRow8 w a0 len0 cap0 z0) (w1 : IsRow8 w a1 len1 cap1 z1) (w2 : (Lit.int .i64 a2).wf = true) :
    Calls Try.prog 8 #[.slice a0 len0 cap0, .slice a1 len1 cap1, .int .i64 a2] w fun e w' => e = .returned (.bool true) ∧ Below w.heap.size w w' := by
  obtain ⟨m, l, hm1, hm2, hm3, hc1, hc2, hl, hl4, hmin, hrd⟩ := addrs_in w0
  obtain ⟨hb1, hb2, f, hf255, hbf⟩ := bytes_fun w1
  obtain ⟨q, hq, hq2⟩ := and_i64 a2 31 (by omega)
  have hq' : bits BinOp.and IntKind.i64 a2 31 = (q : Int) := hq
  have HQ := Lib.hid hq'
  have HRD := Lib.hid hrd
  have HBF := Lib.hid hbf
  clear w0 w1 w2 hq hq' hrd hbf
  go_enter Try.func8, Try.ntmps8
  go_wp2_with fail
  refine (shown_any _).mono ?_
  rintro e w1 ⟨rfl, hb1'⟩
  have HB1 := Lib.hid hb1'
  clear hb1'
  go_wp2_with fail
  refine (poll_new _ (.slice a0 m cap0) l (HRD.out.below HB1.out) hl4 (cap_lit (by omega))).mono ?_
  rintro e w2 ⟨rfl, hb2', hs2⟩
  have HB2 := Lib.hid hb2'
  have HS2 := Lib.hid hs2
  clear hb2' hs2 hmin
  go_wp2_with fail
  refine (poll_new _ (.slice a0 m cap0) l ((HRD.out.below HB1.out).below HB2.out) hl4 (cap_lit (by omega))).mono ?_
  rintro e w3 ⟨rfl, hb3', hs3⟩
  have hfr : FR (newF (intsOf l)) (newF (intsOf l)) := ⟨fun p hp => (newF_fresh _ p hp).1, fun p hp => (newF_fresh _ p hp).1, rfl, rfl⟩
  obtain ⟨v, v2, us, us2, htw⟩ := two_start HB1.out HB2.out HS2.out hb3' hs3
  have HT : Hid (BackS w w3 w1.heap.size w2.heap.size v v2 us us2) := ⟨_, _, htw, hfr⟩
  clear hb3' hs3 hfr htw HB2 HS2
  go_wp2_with fail
  go_loopw [10] (fun i wr => ∃ k : Nat, k ≤ q ∧ i = .int .i64 k ∧ BackS w wr w1.heap.size w2.heap.size v v2 us us2) (fun i _ => q - (intOf i).toNat)
  case atStart => exact ⟨0, Nat.zero_le _, rfl, HT.out⟩
  case round =>
    obtain ⟨k, hk, rfl, P, Q, htw, hfr⟩ := hrel
    have HTW := Lib.hid htw
    have HFR := Lib.hid hfr
    clear htw hfr
    have hqq := HQ.out
    by_cases hlt : k < q
    · obtain ⟨x, b, P', Q', hP, hQ, hfr⟩ := HFR.out.next (k : Int)
      have HP := Lib.hid hP
      have HQN := Lib.hid hQ
      have HFR' := Lib.hid hfr
      clear hP hQ hfr
      go_upto_region 10 with fail
      clear hqq
      go_wp2_with fail
      refine (poll_nextU _ w.heap.size w1.heap.size P P' (k : Int) x b v us HTW.out.p ⟨by omega, by omega⟩ HP.out).mono ?_
      rintro e w4 ⟨rfl, hk4, hp4⟩
      have HT4 := Lib.hid (HTW.out.left hk4 hp4)
      clear hk4 hp4
      go_wp2_with fail
      refine (poll_nextU _ w.heap.size w2.heap.size Q Q' (k : Int) x b v2 us2 HT4.out.q ⟨by omega, by omega⟩ HQN.out).mono ?_
      rintro e w5 ⟨rfl, hk5, hp5⟩
      have HT5 := Lib.hid (HT4.out.right hk5 hp5)
      clear hk5 hp5
      go_wp2_with fail
      go_roundw
      case rel => exact ⟨k + 1, by omega, by go_num, P', Q', HT5.out, HFR'.out⟩
      case measure => simp [intOf]; omega
    · have HT2 : Hid (BackS w wr w1.heap.size w2.heap.size v v2 us us2) := ⟨P, Q, HTW.out, HFR.out⟩
      clear HTW HFR HT P Q
      go_upto_region 12 with fail
      clear hqq
      go_wp2_with fail
      go_loopw [11] (fun i wr => ∃ k : Nat, k ≤ len1 ∧ k ≤ 40 ∧ i = .int .i64 k ∧ BackS w wr w1.heap.size w2.heap.size v v2 us us2) (fun i _ => len1 - (intOf i).toNat)
      case atStart => exact ⟨0, Nat.zero_le _, by omega, rfl, HT2.out⟩
      case round =>
        obtain ⟨j, hj, hj40, rfl, P, Q, htw, hfr⟩ := hrel
        have HTW := Lib.hid htw
        have HFR := Lib.hid hfr
        clear htw hfr
        by_cases hstop : j < len1 ∧ j < 40
        · obtain ⟨hjl, hj4⟩ := hstop
          obtain ⟨ad, rfl⟩ : ∃ ad, a1 = some ad := by
            cases a1 with
            | none => have := hb2 rfl; omega
            | some ad => exact ⟨ad, rfl⟩
          have hcb := HBF.out _ HTW.out.be ad rfl j hjl
          have hfj := hf255 j
          obtain ⟨y, hy⟩ : ∃ y, y = f j := ⟨_, rfl⟩
          rw [← hy] at hcb hfj
          have HY := Lib.hid hy
          clear hy
          obtain ⟨n, P1, P2, hd, ha, hfr, hn⟩ := HFR.out.back (y : Int) (3 * (j : Int))
          have HD := Lib.hid hd
          have HA := Lib.hid ha
          have HFR' := Lib.hid hfr
          clear hd ha hfr
          have hjd : decide ((j : Int) < 40) = true := by simp; omega
          go_wp2_with fail
          refine (poll_deadU _ w.heap.size w1.heap.size P P1 (y : Int) (3 * (j : Int)) n v us HTW.out.p ⟨by omega, by omega⟩ HD.out).mono ?_
          rintro e w4 ⟨rfl, hk4, hp4⟩
          have ht4 := HTW.out.left hk4 hp4
          have HT4 := Lib.hid ht4
          have hcb4 := HBF.out _ ht4.be ad rfl j hjl
          rw [← HY.out] at hcb4
          clear hk4 hp4 ht4 hcb
          go_wp2_with fail
          refine (poll_aliveU _ w.heap.size w1.heap.size P1 P2 (y : Int) n v us HT4.out.p HA.out).mono ?_
          rintro e w5 ⟨rfl, hk5, hp5⟩
          have ht5 := HT4.out.left hk5 hp5
          have HT5 := Lib.hid ht5
          have hcb5 := HBF.out _ ht5.be ad rfl j hjl
          rw [← HY.out] at hcb5
          clear hk5 hp5 ht5 hcb4
          rcases hn with ⟨rfl, his⟩ | rfl
          · have HIS := Lib.hid his
            clear his
            go_wp2_with fail
            refine (poll_is _ w.heap.size w1.heap.size P2 (y : Int) HT5.out.p.at_).mono ?_
            rw [HIS.out]
            rintro e w6 ⟨rfl, hb6⟩
            have HT6 := Lib.hid (HT5.out.below hb6)
            clear hb6 hcb5
            go_wp2_with fail
            go_roundw
            case rel => exact ⟨j + 1, by omega, by omega, by go_num, P2, Q, HT6.out, HFR'.out⟩
            case measure => simp [intOf]; omega
          · go_wp2_with fail
            go_roundw
            case rel => exact ⟨j + 1, by omega, by omega, by go_num, P2, Q, HT5.out, HFR'.out⟩
            case measure => simp [intOf]; omega
        · have HT3 : Hid (BackS w wr w1.heap.size w2.heap.size v v2 us us2) := ⟨P, Q, HTW.out, HFR.out⟩
          clear HTW HFR HT2 P Q
          go_upto_region 13 with fail
          go_cut [54] (fun b w' => b = .bool false ∧ w' = wr)
          case first =>
            by_cases hjl : j < len1
            · have hjd : decide ((j : Int) < 40) = false := by simp; omega
              go_wp2_with fail
              go_meet
              case rel => exact ⟨rfl, rfl⟩
            · go_wp2_with fail
              go_meet
              case rel => exact ⟨rfl, rfl⟩
          case rest =>
          obtain ⟨rfl, rfl⟩ := hcut
          go_wp2_with fail
          go_loopw [14] (fun i wr => ∃ k : Nat, k ≤ 80 ∧ i = .int .i64 k ∧ BackS w wr w1.heap.size w2.heap.size v v2 us us2) (fun i _ => 80 - (intOf i).toNat)
          case atStart => exact ⟨0, Nat.zero_le _, rfl, HT3.out⟩
          case round =>
            obtain ⟨k, hk, rfl, P, Q, htw, hfr⟩ := hrel
            have HTW := Lib.hid htw
            have HFR := Lib.hid hfr
            clear htw hfr HT3
            by_cases hlt3 : k < 80
            · obtain ⟨x, b, P', Q', hP, hQ, hfr⟩ := HFR.out.next (100 + (k : Int))
              have HP := Lib.hid hP
              have HQN := Lib.hid hQ
              have HFR' := Lib.hid hfr
              clear hP hQ hfr
              go_wp2_with fail
              refine (poll_nextU _ w.heap.size w1.heap.size P P' (100 + (k : Int)) x b v us HTW.out.p ⟨by omega, by omega⟩ HP.out).mono ?_
              rintro e w4 ⟨rfl, hk4, hp4⟩
              have HT4 := Lib.hid (HTW.out.left hk4 hp4)
              clear hk4 hp4
              go_wp2_with fail
              refine (poll_nextU _ w.heap.size w2.heap.size Q Q' (100 + (k : Int)) x b v2 us2 HT4.out.q ⟨by omega, by omega⟩ HQN.out).mono ?_
              rintro e w5 ⟨rfl, hk5, hp5⟩
              have HT5 := Lib.hid (HT4.out.right hk5 hp5)
              clear hk5 hp5
              go_wp2_with fail
              go_roundw
              case rel => exact ⟨k + 1, by omega, by go_num, P', Q', HT5.out, HFR'.out⟩
              case measure => simp [intOf]; omega
            · go_wp2_with fail
              go_ret
              exact ⟨rfl, HTW.out.be⟩
end Go.Proofs.Ytmkbleeideddkaa
