/- The walk of lamplightlaw07.MasterDead. -/
import Derived.Test.YtdgbmiobfehpdaaCl
set_option linter.unusedVariables false
set_option linter.unusedSimpArgs false
namespace Go.Proofs.Ytdgbmiobfehpdaa
open Go.RowKit

/-- Between two rounds: k sessions are over. -/
def MS.down (a T : Int) (k : Nat) (st : Int) : MS := ⟨0, 0, a, (k : Int) + 1, T, st, k, 0, []⟩
/-- In round k. -/
def MS.live (a T : Int) (k : Nat) (q : List (List UInt8)) (ms : Nat) : MS := ⟨0, 0, a, (k : Int) + 1, T, 1, (k : Int) + 1, ms, q⟩
theorem MS.down_next (a T : Int) (k : Nat) (st : Int) (h : st ≠ 1) : (MS.down a T k st).nextF = ⟨a, 1, (k : Int) + 1, 0, 0, []⟩ := by
  unfold MS.nextF
  rw [if_pos (by simpa [MS.down] using h)]
  rfl
theorem MS.down_opened (a T : Int) (k : Nat) (st : Int) (h : st ≠ 1) : (MS.down a T k st).heardF ⟨a, 4, (k : Int) + 1, 0, 0, []⟩ = ([], true, MS.live a T k [] 0) := by
  unfold MS.heardF
  rw [if_neg (by simp [MS.down]), if_pos (by simpa [MS.down] using h), if_neg (by simp [MS.down])]
  rfl
theorem MS.live_send (a T : Int) (k ms : Nat) (q : List (List UInt8)) (b : List UInt8) (hb : 0 < b.length) (hb' : b.length ≤ 24) (hq : q.length < 8) : (MS.live a T k q ms).sendF b = (0, MS.live a T k (q ++ [b]) ms) := by
  unfold MS.sendF
  rw [if_neg (by omega), if_neg (by simp [MS.live]), if_neg (by simp [MS.live]; omega)]
  rfl
theorem MS.live_missed (a T : Int) (k ms : Nat) (q : List (List UInt8)) (h : (ms : Int) + 1 < T) : (MS.live a T k q ms).missedF = (false, MS.live a T k q (ms + 1)) := by
  unfold MS.missedF
  rw [if_pos (by simpa [MS.live] using h)]
  simp [MS.live]
theorem MS.live_dead (a T : Int) (k ms : Nat) (q : List (List UInt8)) (h : ¬ (ms : Int) + 1 < T) (hk : k < 100) : (MS.live a T k q ms).missedF = (true, MS.down a T (k + 1) 2) := by
  unfold MS.missedF
  rw [if_neg (by simpa [MS.live] using h)]
  simp [MS.live, MS.down, MS.close]
  omega
theorem MS.down_send (a T : Int) (k : Nat) (b : List UInt8) (hb : 0 < b.length) (hb' : b.length ≤ 24) : (MS.down a T k 2).sendF b = (7, MS.down a T k 2) := by
  unfold MS.sendF
  rw [if_neg (by omega), if_pos (by simp [MS.down])]

/-- What is known in the loop of the misses: j have been. -/
def DeadR (w wr : World) (G : Nat) (a T : Int) (k j : Nat) (q : List (List UInt8)) : Prop :=
  Below w.heap.size w wr ∧ ((j : Int) < T → MasterAt wr G G (MS.live a T k q j)) ∧ (¬ (j : Int) < T → MasterAt wr G G (MS.down a T (k + 1) 2))

set_option maxHeartbeats 4000000 in
set_option maxRecDepth 100000 in
theorem dead_walk (a0 a1 a2 a3 : Int) (w : World) (w0 : (Lit.int .u8 a0).wf = true) (w1 : (Lit.int .i64 a1).wf = true) (w2 : (Lit.int .i64 a2).wf = true) (w3 : (Lit.int .i64 a3).wf = true) :
    Calls Try.prog 5 #[.int .u8 a0, .int .i64 a1, .int .i64 a2, .int .i64 a3] w fun e w' => e = .returned (.bool true) ∧ Below w.heap.size w w' := by
  obtain ⟨q1, hq1, hq1'⟩ : ∃ q : Nat, bits BinOp.and IntKind.i64 a1 65535 = (q : Int) ∧ q ≤ 65535 := and_i64 a1 65535 (by decide)
  obtain ⟨q2, hq2, hq2'⟩ : ∃ q : Nat, bits BinOp.and IntKind.i64 a2 7 = (q : Int) ∧ q ≤ 7 := and_i64 a2 7 (by decide)
  obtain ⟨q3, hq3, hq3'⟩ : ∃ q : Nat, bits BinOp.and IntKind.i64 a3 65535 = (q : Int) ∧ q ≤ 65535 := and_i64 a3 65535 (by decide)
  obtain ⟨T, hT, hT1, hT2⟩ : ∃ T : Nat, 1 + (q1 : Int) % 50 = (T : Int) ∧ 1 ≤ T ∧ T ≤ 50 := ⟨1 + q1 % 50, by omega, by omega, by omega⟩
  obtain ⟨R, hR, hR2⟩ : ∃ R : Nat, (q3 : Int) % 10 = (R : Int) ∧ R < 10 := ⟨q3 % 10, by omega, by omega⟩
  clear w1 w2 w3
  have kc := conv_const
  go_enter Try.func5, Try.ntmps5
  go_wp2_with fail
  refine (shown_any _).mono ?_
  rintro e w1 ⟨rfl, hb1⟩
  have HB1 := Lib.hid hb1
  have hg : w.heap.size ≤ w1.heap.size := hb1.size
  clear hb1
  go_wp2_with fail
  refine (master_new _ a0 T (by omega)).mono ?_
  rintro e w2 ⟨rfl, hb2, hs2⟩
  have HB2 : Hid (Below w.heap.size w w2) := HB1.out.trans (hb2.mono HB1.out.size)
  have HS2 : Hid (MasterAt w2 w1.heap.size w1.heap.size (MS.down a0 T 0 0)) := by
    have e : MS.new a0 T = MS.down a0 T 0 0 := by unfold MS.new MS.down; rw [if_neg (by omega)]; rfl
    rw [← e]
    exact hs2
  have hl2 : w1.heap.size < w2.heap.size := hs2.lt
  clear hb2 hs2
  go_wp2_with fail
  go_loopw [11] (fun i wr => ∃ (k : Nat) (st : Int), k ≤ R ∧ i = .int .i64 k ∧ st ≠ 1 ∧ Below w.heap.size w wr ∧ MasterAt wr w1.heap.size w1.heap.size (MS.down a0 T k st)) (fun i _ => R - (intOf i).toNat)
  case atStart => exact ⟨0, 0, Nat.zero_le _, rfl, by decide, HB2.out, HS2.out⟩
  case round =>
    obtain ⟨k, st, hk, rfl, hst, hbr, hsr⟩ := hrel
    obtain ⟨wo, rfl⟩ : ∃ wo : World, wo = wr := ⟨_, rfl⟩
    have HBr := Lib.hid hbr
    have HSr := Lib.hid hsr
    have HST := Lib.hid hst
    have hlr : w1.heap.size < wo.heap.size := hsr.lt
    clear hbr hsr hst HB2 HS2 HB1
    by_cases hlt : k < R
    · go_wp2_with fail
      refine (master_next _ w1.heap.size w1.heap.size (MS.down a0 T k st) HSr.out).mono ?_
      rintro e w5 ⟨v5, rfl, ho, hb5⟩
      obtain ⟨A5, c5, rfl⟩ := own_slice ho
      have e1 := MS.down_next a0 T k st HST.out
      rw [e1]
      clear e1
      have HB5 : Hid (Below w.heap.size w w5) := HBr.out.trans (hb5.mono HBr.out.size)
      have HS5 := Lib.hid (HSr.out.below hb5)
      have hl5 : w1.heap.size < w5.heap.size := HS5.out.lt
      clear ho hb5
      have hu8 : IntKind.u8.wrap ((k : Int) + 1) = (k : Int) + 1 := IntWalk.u8_in _ (by omega)
      go_wp2_with fail
      refine (masterK_heard _ w1.heap.size w1.heap.size (MS.down a0 T k st) (MS.live a0 T k [] 0) ⟨a0, 4, (k : Int) + 1, 0, 0, []⟩ none 0 0 [] true rfl (HS5.out.below (by go_grown)) (ReadsB.nil _) (fun ad n c h => by cases h) (by simp [MS.down]) (by simp [MS.down]; omega) (MS.down_opened a0 T k st HST.out)).mono ?_
      rintro e w6 ⟨v6, rfl, ho, hk6, hs6⟩
      obtain ⟨A6, c6, rfl⟩ := own_slice ho
      have HB6 : Hid (Below w.heap.size w w6) := stepK HB5.out (by omega) (by go_grown) hk6 hg
      have HS6 := Lib.hid hs6
      have hl6 : w1.heap.size < w6.heap.size := hs6.lt
      clear ho hk6 hs6
      have hst1 : (MS.live a0 T k [] 0).state = 1 := rfl
      have hep1 : (MS.live a0 T k [] 0).epoch = (k : Int) + 1 := rfl
      have hln1 : (MS.live a0 T k [] 0).queue.length = 0 := rfl
      go_wp2_with (first
        | (go_at_call 13; refine (master_state _ w1.heap.size w1.heap.size (MS.live a0 T k [] 0) HS6.out).mono ?_; rintro e w7 ⟨rfl, rfl⟩)
        | (go_at_call 15; refine (master_epoch _ w1.heap.size w1.heap.size (MS.live a0 T k [] 0) HS6.out).mono ?_; rintro e w7 ⟨rfl, rfl⟩)
        | (go_at_call 25; refine (master_len _ w1.heap.size w1.heap.size (MS.live a0 T k [] 0) HS6.out).mono ?_; rintro e w7 ⟨rfl, rfl⟩))
      go_loopw [16] (fun i wr => ∃ (j : Nat) (l : List (List UInt8)), j ≤ q2 ∧ i = .int .i64 j ∧ l.length = j ∧ Below w.heap.size w wr ∧ MasterAt wr w1.heap.size w1.heap.size (MS.live a0 T k l 0)) (fun i _ => q2 - (intOf i).toNat)
      case atStart => exact ⟨0, [], Nat.zero_le _, rfl, rfl, HB6.out, HS6.out⟩
      case round =>
        obtain ⟨j, l, hj, rfl, hlk, hbr, hsr⟩ := hrel
        have HBi := Lib.hid hbr
        have HSi := Lib.hid hsr
        have HLK := Lib.hid hlk
        have hli : w1.heap.size < wr.heap.size := hsr.lt
        clear hbr hsr hlk HB6 HS6 HB5 HS5 HBr HSr
        by_cases hjq : j < q2
        · go_wp2_with fail
          refine (masterK_send _ w1.heap.size w1.heap.size (MS.live a0 T k l 0) (MS.live a0 T k (l ++ [[UInt8.ofNat j]]) 0) _ [UInt8.ofNat j] 0 (HSi.out.below (by go_grown)) (reads_one (k := j) (by first | exact blk_new _ _ | exact blk_new' _ _ _ (by simp)) (by omega)) (MS.live_send a0 T k 0 l _ (by simp) (by simp) (by have := HLK.out; omega))).mono ?_
          rintro e w7 ⟨rfl, hk7, hs7⟩
          have HB7 : Hid (Below w.heap.size w w7) := stepK HBi.out (by omega) (by go_grown) hk7 hg
          have HS7 := Lib.hid hs7
          clear hk7 hs7
          go_wp2_with fail
          go_roundw
          case rel => exact ⟨j + 1, l ++ [[UInt8.ofNat j]], by omega, by go_num, by simp [HLK.out], HB7.out, HS7.out⟩
          case measure => simp [intOf]; omega
        · obtain ⟨wi, rfl⟩ : ∃ wi : World, wi = wr := ⟨_, rfl⟩
          go_wp2_with fail
          go_loopw [17] (fun i wr => ∃ (m : Nat), m ≤ T ∧ i = .int .i64 ((m : Int) + 1) ∧ DeadR w wr w1.heap.size a0 T k m l) (fun i _ => T + 1 - (intOf i).toNat)
          case atStart => exact ⟨0, Nat.zero_le _, rfl, HBi.out, fun _ => HSi.out, fun h => by omega⟩
          case round =>
            obtain ⟨m, hm, rfl, hbr, hm1, hm2⟩ := hrel
            have HBm := Lib.hid hbr
            have HM1 := Lib.hid hm1
            have HM2 := Lib.hid hm2
            clear hbr hm1 hm2
            by_cases hmT : m < T
            · by_cases hlast : m + 1 < T
              · have hne : (((m : Int) + 1) == (T : Int)) = false := by simp; omega
                go_wp2_with fail
                refine (masterK_missed _ w1.heap.size w1.heap.size (MS.live a0 T k l m) (MS.live a0 T k l (m + 1)) false (HM1.out (by omega)) (MS.live_missed a0 T k m l (by omega))).mono ?_
                rintro e w8 ⟨rfl, hk8, hs8⟩
                have HB8 : Hid (Below w.heap.size w w8) := stepK HBm.out (HBm.out.size) (Below.refl _ _) hk8 hg
                have HS8 := Lib.hid hs8
                clear hk8 hs8
                go_wp2_with fail
                go_roundw
                case rel => exact ⟨m + 1, by omega, by go_num, HB8.out, fun _ => HS8.out, fun h => by omega⟩
                case measure => simp [intOf]; omega
              · have hne : (((m : Int) + 1) == (T : Int)) = true := by simp; omega
                go_wp2_with fail
                refine (masterK_missed _ w1.heap.size w1.heap.size (MS.live a0 T k l m) (MS.down a0 T (k + 1) 2) true (HM1.out (by omega)) (MS.live_dead a0 T k m l (by omega) (by omega))).mono ?_
                rintro e w8 ⟨rfl, hk8, hs8⟩
                have HB8 : Hid (Below w.heap.size w w8) := stepK HBm.out (HBm.out.size) (Below.refl _ _) hk8 hg
                have HS8 := Lib.hid hs8
                clear hk8 hs8
                go_wp2_with fail
                go_roundw
                case rel => exact ⟨m + 1, by omega, by go_num, HB8.out, fun h => by omega, fun _ => HS8.out⟩
                case measure => simp [intOf]; omega
            · have HS9 := Lib.hid (HM2.out (by omega))
              have hl9 : w1.heap.size < wr.heap.size := HS9.out.lt
              have hst2 : (MS.down a0 T (k + 1) 2).state = 2 := rfl
              have hln2 : (MS.down a0 T (k + 1) 2).queue.length = 0 := rfl
              go_wp2_with (first
                | (go_at_call 13; refine (master_state _ w1.heap.size w1.heap.size (MS.down a0 T (k + 1) 2) HS9.out).mono ?_; rintro e w7 ⟨rfl, rfl⟩)
                | (go_at_call 25; refine (master_len _ w1.heap.size w1.heap.size (MS.down a0 T (k + 1) 2) HS9.out).mono ?_; rintro e w7 ⟨rfl, rfl⟩))
              refine (masterK_send _ w1.heap.size w1.heap.size (MS.down a0 T (k + 1) 2) (MS.down a0 T (k + 1) 2) _ [120] 7 (HS9.out.below (by go_grown)) (reads_lit (t := 5) (fr := (1, 2)) (cs := #[.int .u8 120]) (blk_new _ _) [120] rfl (by decide)) (MS.down_send a0 T (k + 1) [120] (by decide) (by decide))).mono ?_
              rintro e w10 ⟨rfl, hk10, hs10⟩
              have HB10 : Hid (Below w.heap.size w w10) := stepK HBm.out (by have := HBm.out.size; omega) (by go_grown) hk10 hg
              have HS10 := Lib.hid hs10
              clear hk10 hs10
              go_wp2_with fail
              go_roundw
              case rel => exact ⟨k + 1, 2, by omega, by go_num, by decide, HB10.out, HS10.out⟩
              case measure => simp [intOf]; omega
    · go_wp2_with fail
      go_ret
      exact ⟨rfl, HBr.out⟩
end Go.Proofs.Ytdgbmiobfehpdaa
