/- The walk of lamplightlaw07.MasterCloses. -/
import Derived.Test.YtdgbmiobfehpdaaSh
import Derived.Test.YtdgbmiobfehpdaaWa
import Derived.Deep.DeepCutAuto
set_option linter.unusedVariables false
set_option linter.unusedSimpArgs false
namespace Go.Proofs.Ytdgbmiobfehpdaa
open Go.RowKit

/-- The master of a law behind its opening, with a queue. -/
def MS.up (a t : Int) (q : List (List UInt8)) : MS := ⟨0, 0, a, 1, t, 1, 1, 0, q⟩
theorem MS.up_send (a t : Int) (q : List (List UInt8)) (b : List UInt8) (hb : 0 < b.length) (hb' : b.length ≤ 24) (hq : q.length < 8) : (MS.up a t q).sendF b = (0, MS.up a t (q ++ [b])) := by
  unfold MS.sendF
  rw [if_neg (by omega), if_neg (by simp [MS.up]), if_neg (by simp [MS.up]; omega)]
  rfl
theorem MS.new_opened (a t : Int) (ht : 1 ≤ t) : (MS.new a t).heardF ⟨a, 4, 1, 0, 0, []⟩ = ([], true, MS.up a t []) := by
  unfold MS.heardF MS.new
  rw [if_neg (by simp), if_pos (by simp), if_neg (by simp)]
  rw [if_neg (by omega)]
  rfl

def MS.closed (a t : Int) : MS := ⟨0, 0, a, 2, t, 0, 1, 0, []⟩
theorem MS.up_reply0 (a t : Int) (q : List (List UInt8)) : (MS.up a t q).heardF ⟨a, 5, 1, 0, 0, []⟩ = ([], true, MS.up a t q) := by
  unfold MS.heardF
  rw [if_neg (by simp [MS.up]), if_neg (by simp [MS.up]), if_neg (by simp [MS.up]), if_neg (by simp)]
  have e : MS.acked { MS.up a t q with misses := 0 } ⟨a, 5, 1, 0, 0, []⟩ = MS.up a t q := by
    unfold MS.acked
    rw [if_neg (by simp [MS.up])]
    rfl
  unfold MS.replyF
  rw [if_pos (by simp), e]
theorem MS.up_other (a t s : Int) (hs : s ≠ 1) (q : List (List UInt8)) : (MS.up a t q).heardF ⟨a, 5, s, 0, 0, []⟩ = ([], true, MS.closed a t) := by
  unfold MS.heardF
  rw [if_neg (by simp [MS.up]), if_neg (by simp [MS.up]), if_pos (by simpa [MS.up] using hs)]
  rfl
theorem MS.closed_next (a t : Int) : (MS.closed a t).nextF = ⟨a, 1, 2, 0, 0, []⟩ := by
  unfold MS.nextF
  rw [if_pos (by simp [MS.closed])]
  rfl
theorem MS.closed_old (a t : Int) : (MS.closed a t).heardF ⟨a, 4, 1, 0, 0, []⟩ = ([], false, MS.closed a t) := by
  unfold MS.heardF
  rw [if_neg (by simp [MS.closed]), if_pos (by simp [MS.closed]), if_pos (by simp [MS.closed])]

set_option maxHeartbeats 4000000 in
set_option maxRecDepth 100000 in
theorem closes_walk (a0 a1 a2 : Int) (w : World) (w0 : (Lit.int .u8 a0).wf = true) (w1 : (Lit.int .i64 a1).wf = true) (w2 : (Lit.int .u8 a2).wf = true) :
    Calls Try.prog 9 #[.int .u8 a0, .int .i64 a1, .int .u8 a2] w fun e w' => e = .returned (.bool true) ∧ Below w.heap.size w w' := by
  obtain ⟨q, hq, hq7⟩ : ∃ q : Nat, bits BinOp.and IntKind.i64 a1 7 = (q : Int) ∧ q ≤ 7 := and_i64 a1 7 (by decide)
  clear w1
  obtain ⟨hs0, hs1⟩ := wf_u8 w2
  go_enter Try.func9, Try.ntmps9
  go_wp2_with fail
  refine (shown_any _).mono ?_
  rintro e w1 ⟨rfl, hb1⟩
  have HB1 := Lib.hid hb1
  have hg : w.heap.size ≤ w1.heap.size := hb1.size
  clear hb1
  go_wp2_with fail
  refine (master_new _ a0 5 (by decide)).mono ?_
  rintro e w2 ⟨rfl, hb2, hs2⟩
  have HB2 : Hid (Below w.heap.size w w2) := HB1.out.trans (hb2.mono HB1.out.size)
  have HS2 := Lib.hid hs2
  have hl2 : w1.heap.size < w2.heap.size := hs2.lt
  clear hb2 hs2
  go_wp2_with fail
  refine (masterK_heard _ w1.heap.size w1.heap.size (MS.new a0 5) (MS.up a0 5 []) ⟨a0, 4, 1, 0, 0, []⟩ none 0 0 [] true rfl HS2.out (ReadsB.nil _) (fun ad n c h => by cases h) (by simp [MS.new]) (by simp [MS.new]) (MS.new_opened a0 5 (by decide))).mono ?_
  rintro e w3 ⟨v1, rfl, ho, hk, hs⟩
  obtain ⟨A3, c3, rfl⟩ := own_slice ho
  have HB3 : Hid (Below w.heap.size w w3) := stepK HB2.out (by omega) (Below.refl _ _) hk hg
  have HS3 := Lib.hid hs
  have hl3 : w1.heap.size < w3.heap.size := hs.lt
  clear ho hk hs
  go_wp2_with fail
  go_loopw [9] (fun i wr => ∃ (k : Nat) (l : List (List UInt8)), k ≤ q ∧ i = .int .i64 k ∧ l.length = k ∧ Below w.heap.size w wr ∧ MasterAt wr w1.heap.size w1.heap.size (MS.up a0 5 l)) (fun i _ => q - (intOf i).toNat)
  case atStart => exact ⟨0, [], Nat.zero_le _, rfl, rfl, HB3.out, HS3.out⟩
  case round =>
    obtain ⟨k, l, hk, rfl, hlk, hbr, hsr⟩ := hrel
    have HBr := Lib.hid hbr
    have HSr := Lib.hid hsr
    have HLK := Lib.hid hlk
    have hlr : w1.heap.size < wr.heap.size := hsr.lt
    clear hbr hsr hlk HB3 HS3 HB2 HS2 HB1
    by_cases hlt : k < q
    · go_wp2_with fail
      refine (masterK_send _ w1.heap.size w1.heap.size (MS.up a0 5 l) (MS.up a0 5 (l ++ [[UInt8.ofNat k]])) _ [UInt8.ofNat k] 0 (HSr.out.below (by go_grown)) (reads_one (k := k) (by first | exact blk_new _ _ | exact blk_new' _ _ _ (by simp)) (by omega)) (MS.up_send a0 5 l _ (by simp) (by simp) (by have := HLK.out; omega))).mono ?_
      rintro e w4 ⟨rfl, hk4, hs4⟩
      have HB4 : Hid (Below w.heap.size w w4) := stepK HBr.out (by omega) (by go_grown) hk4 hg
      have HS4 := Lib.hid hs4
      clear hk4 hs4
      go_wp2_with fail
      go_roundw
      case rel => exact ⟨k + 1, l ++ [[UInt8.ofNat k]], by omega, by go_num, by simp [HLK.out], HB4.out, HS4.out⟩
      case measure => simp [intOf]; omega
    · have hkq : k = q := by omega
      subst hkq
      by_cases h2 : a2 = 1
      · subst h2
        go_wp2_with fail
        refine (masterK_heard _ w1.heap.size w1.heap.size (MS.up a0 5 l) (MS.up a0 5 l) ⟨a0, 5, 1, 0, 0, []⟩ none 0 0 [] true rfl HSr.out (ReadsB.nil _) (fun ad n c h => by cases h) (by simp [MS.up]) (by simp [MS.up]) (MS.up_reply0 a0 5 l)).mono ?_
        rintro e w4 ⟨v4, rfl, ho, hk4, hs4⟩
        obtain ⟨A4, c4, rfl⟩ := own_slice ho
        have HB4 : Hid (Below w.heap.size w w4) := stepK HBr.out (by omega) (by go_grown) hk4 hg
        have HS4 := Lib.hid hs4
        clear ho hk4 hs4
        go_wp2_with (first
          | (go_at_call 13; refine (master_state _ w1.heap.size w1.heap.size (MS.up a0 5 l) HS4.out).mono ?_; rintro e w5 ⟨rfl, rfl⟩)
          | (go_at_call 25; refine (master_len _ w1.heap.size w1.heap.size (MS.up a0 5 l) HS4.out).mono ?_; rintro e w5 ⟨rfl, rfl⟩))
        go_ret
        refine ⟨?_, HB4.out⟩
        have hfin : (((MS.up a0 5 l).queue.length : Int) == (k : Int)) = true := by simp [MS.up, HLK.out]
        show Ending.returned (.bool (((MS.up a0 5 l).queue.length : Int) == (k : Int))) = _
        rw [hfin]
      · go_wp2_with fail
        refine (masterK_heard _ w1.heap.size w1.heap.size (MS.up a0 5 l) (MS.closed a0 5) ⟨a0, 5, a2, 0, 0, []⟩ none 0 0 [] true rfl HSr.out (ReadsB.nil _) (fun ad n c h => by cases h) (by simp [MS.up]) (by simp [MS.up]) (MS.up_other a0 5 a2 h2 l)).mono ?_
        rintro e w4 ⟨v4, rfl, ho, hk4, hs4⟩
        obtain ⟨A4, c4, rfl⟩ := own_slice ho
        have HB4 : Hid (Below w.heap.size w w4) := stepK HBr.out (by omega) (by go_grown) hk4 hg
        have HS4 := Lib.hid hs4
        have hl4 : w1.heap.size < w4.heap.size := hs4.lt
        have h2' : (a2 == 1) = false := by simpa using h2
        clear ho hk4 hs4
        go_wp2_with fail
        refine (master_next _ w1.heap.size w1.heap.size (MS.closed a0 5) HS4.out).mono ?_
        rintro e w5 ⟨v5, rfl, ho, hb5⟩
        obtain ⟨A5, c5, rfl⟩ := own_slice ho
        have e1 := MS.closed_next a0 5
        rw [e1]
        clear e1
        have HB5 : Hid (Below w.heap.size w w5) := HB4.out.trans (hb5.mono HB4.out.size)
        have HS5 := Lib.hid (HS4.out.below hb5)
        have hl5 : w1.heap.size < w5.heap.size := HS5.out.lt
        clear ho hb5
        go_wp2_with fail
        refine (masterK_heard _ w1.heap.size w1.heap.size (MS.closed a0 5) (MS.closed a0 5) ⟨a0, 4, 1, 0, 0, []⟩ none 0 0 [] false rfl (HS5.out.below (by go_grown)) (ReadsB.nil _) (fun ad n c h => by cases h) (by simp [MS.closed]) (by simp [MS.closed]) (MS.closed_old a0 5)).mono ?_
        rintro e w6 ⟨v6, rfl, ho, hk6, hs6⟩
        obtain ⟨A6, c6, rfl⟩ := own_slice ho
        have HB6 : Hid (Below w.heap.size w w6) := stepK HB5.out (by omega) (by go_grown) hk6 hg
        have HS6 := Lib.hid hs6
        have hx6 := hk6.blk (blk_new w5 _) (by decide)
        obtain ⟨x0, x1, x2, x3, x4, x5⟩ := blk6 hx6
        clear ho hk6 hs6 hx6
        go_wp2_with (first
          | (go_at_call 13; refine (master_state _ w1.heap.size w1.heap.size (MS.closed a0 5) HS6.out).mono ?_; rintro e w7 ⟨rfl, rfl⟩)
          | (go_at_call 15; refine (master_epoch _ w1.heap.size w1.heap.size (MS.closed a0 5) HS6.out).mono ?_; rintro e w7 ⟨rfl, rfl⟩)
          | (go_at_call 25; refine (master_len _ w1.heap.size w1.heap.size (MS.closed a0 5) HS6.out).mono ?_; rintro e w7 ⟨rfl, rfl⟩))
        go_ret
        refine ⟨?_, HB6.out⟩
        rfl
end Go.Proofs.Ytdgbmiobfehpdaa
