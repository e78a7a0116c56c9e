/- The walk of lamplightlaw07.MasterSends. -/
import Derived.Test.YtdgbmiobfehpdaaDe
set_option linter.unusedVariables false
set_option linter.unusedSimpArgs false
namespace Go.Proofs.Ytdgbmiobfehpdaa
open Go.RowKit

/-- The commands from the i-th on, up to the n-th. -/
def cmds (z : List Int) (i n : Nat) : List (List UInt8) := (List.range' i (n - i)).map fun j => [UInt8.ofNat (z.getD j 0).toNat]
theorem cmds_cons (z : List Int) (i n : Nat) (h : i < n) : cmds z i n = [UInt8.ofNat (z.getD i 0).toNat] :: cmds z (i + 1) n := by
  unfold cmds
  rw [show n - i = (n - (i + 1)) + 1 by omega, List.range'_succ]
  rfl
theorem cmds_snoc (z : List Int) (n : Nat) : cmds z 0 (n + 1) = cmds z 0 n ++ [[UInt8.ofNat (z.getD n 0).toNat]] := by
  unfold cmds
  rw [Nat.sub_zero, Nat.sub_zero, List.range'_1_concat, List.map_append]
  simp
theorem cmds_len (z : List Int) (i n : Nat) : (cmds z i n).length = n - i := by simp [cmds]
/-- The master behind so many acknowledgements. -/
def MS.line (a t : Int) (q : List (List UInt8)) : MS := ⟨t, 0, a, 1, 5, 1, 1, 0, q⟩
theorem MS.line_send (a t : Int) (q : List (List UInt8)) (b : List UInt8) (hb : 0 < b.length) (hb' : b.length ≤ 24) (hq : q.length < 8) : (MS.line a t q).sendF b = (0, MS.line a t (q ++ [b])) := by
  unfold MS.sendF
  rw [if_neg (by omega), if_neg (by simp [MS.line]), if_neg (by simp [MS.line]; omega)]
  rfl
theorem MS.line_same (a t : Int) (q : List (List UInt8)) : (MS.line a t q).heardF ⟨a, 5, 1, 0, t, []⟩ = ([], true, MS.line a t q) := by
  unfold MS.heardF
  rw [if_neg (by simp [MS.line]), if_neg (by simp [MS.line]), if_neg (by simp [MS.line]), if_neg (by simp)]
  have e : MS.acked { MS.line a t q with misses := 0 } ⟨a, 5, 1, 0, t, []⟩ = MS.line a t q := by
    unfold MS.acked
    rw [if_neg (by simp [MS.line])]
    rfl
  unfold MS.replyF
  rw [if_pos (by simp), e]
theorem MS.line_ack (a t : Int) (b : List UInt8) (q : List (List UInt8)) (ht : t = 0 ∨ t = 1) : (MS.line a t (b :: q)).heardF ⟨a, 5, 1, 0, 1 - t, []⟩ = ([], true, MS.line a (1 - t) q) := by
  unfold MS.heardF
  rw [if_neg (by simp [MS.line]), if_neg (by simp [MS.line]), if_neg (by simp [MS.line]), if_neg (by simp)]
  have e : MS.acked { MS.line a t (b :: q) with misses := 0 } ⟨a, 5, 1, 0, 1 - t, []⟩ = MS.line a (1 - t) q := by
    unfold MS.acked
    rw [if_pos (by simp [MS.line]; omega)]
    rfl
  unfold MS.replyF
  rw [if_pos (by simp), e]
theorem MS.line_data (a t : Int) (b : List UInt8) (q : List (List UInt8)) : (MS.line a t (b :: q)).nextF = ⟨a, 2, 1, t, 0, b⟩ := by
  unfold MS.nextF
  rw [if_neg (by simp [MS.line])]
  rfl
theorem MS.line_poll (a t : Int) : (MS.line a t []).nextF = ⟨a, 3, 1, t, 0, []⟩ := by
  unfold MS.nextF
  rw [if_neg (by simp [MS.line])]
  rfl
theorem own_one_cell {w : World} {B t : Nat} {v u : Value} (h : w.ownsRow B t 1 v 1 [u]) : ∃ g c, v = .slice (some ⟨g, 0, none⟩) 1 c ∧ w.cell? ⟨g, 0, none⟩ = some u ∧ 1 ≤ c ∧ c ≤ 9223372036854775807 := by
  have h' := h
  rcases h.2 with ⟨_, h0⟩ | ⟨g, cap, cur, rfl, _, hh, hle, hcap, _⟩
  · omega
  · unfold maxLen at hcap
    refine ⟨g, cap, rfl, ?_, hle, by omega⟩
    have := h'.cells (g := g) rfl 0 u rfl
    rwa [show (⟨g, 0, none⟩ : Addr).add 0 = ⟨g, 0, none⟩ from rfl] at this

set_option maxHeartbeats 1500000 in
set_option maxRecDepth 100000 in
theorem sends_walk (a0 : Int) (a1 : Option Addr) (len1 cap1 : Nat) (z1 : List Int) (w : World) (w0 : (Lit.int .u8 a0).wf = true) (r1 : IsRow8 w a1 len1 cap1 z1) :
    Calls Try.prog 8 #[.int .u8 a0, .slice a1 len1 cap1] w fun e w' => e = .returned (.bool true) ∧ Below w.heap.size w w' := by
  obtain ⟨n, hn1, hn8, hmin⟩ : ∃ n : Nat, n ≤ len1 ∧ n ≤ 8 ∧ (if (8 : Int) < (len1 : Int) then (8 : Int) else (len1 : Int)) = (n : Int) := by
    obtain ⟨n, h1, h2, -, h3⟩ := min_nat len1 8
    exact ⟨n, h1, h2, h3⟩
  -- the k-th byte, where it lies
  have hby : ∃ x1, (0 < n → a1 = some x1) ∧ ∀ k, k < n → w.cell? (x1.add k) = some (.int .u8 (z1.getD k 0)) ∧ 0 ≤ z1.getD k 0 ∧ z1.getD k 0 ≤ 255 := by
    rcases r1 with ⟨_, h, _⟩ | ⟨x, h1, h2, h3, h4, hc, hw⟩
    · exact ⟨⟨0, 0, none⟩, fun h => by omega, fun k hk => by omega⟩
    · refine ⟨x, fun _ => h1, fun k hk => ⟨hc k (by omega), ?_⟩⟩
      exact wf_u8 (hw (z1.getD k 0) (by rw [List.getD_eq_getElem?_getD, List.getElem?_eq_getElem (by omega)]; exact List.getElem_mem _))
  have hlc := r1.cap
  clear r1
  obtain ⟨x1, hx1, hby⟩ := hby
  have HBY := Lib.hid hby
  have HX1 := Lib.hid hx1
  clear hby hx1
  go_enter Try.func8, Try.ntmps8
  go_wp2_with fail
  refine (shown_any _).mono ?_
  rintro e w1 ⟨rfl, hb1⟩
  have HB1 := Lib.hid hb1
  have hg : w.heap.size ≤ w1.heap.size := hb1.size
  clear hb1
  go_wp2_with fail
  refine (master_new _ a0 5 (by decide)).mono ?_
  rintro e w2 ⟨rfl, hb2, hs2⟩
  have HB2 : Hid (Below w.heap.size w w2) := HB1.out.trans (hb2.mono HB1.out.size)
  have HS2 := Lib.hid hs2
  have hl2 : w1.heap.size < w2.heap.size := hs2.lt
  clear hb2 hs2
  go_wp2_with fail
  refine (masterK_heard _ w1.heap.size w1.heap.size (MS.new a0 5) (MS.line a0 0 []) ⟨a0, 4, 1, 0, 0, []⟩ none 0 0 [] true rfl HS2.out (ReadsB.nil _) (fun ad n c h => by cases h) (by simp [MS.new]) (by simp [MS.new]) (MS.new_opened a0 5 (by decide))).mono ?_
  rintro e w3 ⟨v1, rfl, ho, hk, hs⟩
  obtain ⟨A3, c3, rfl⟩ := own_slice ho
  have HB3 : Hid (Below w.heap.size w w3) := stepK HB2.out (by omega) (Below.refl _ _) hk hg
  have HS3 : Hid (MasterAt w3 w1.heap.size w1.heap.size (MS.line a0 0 (cmds z1 0 0))) := hs
  clear ho hk hs
  go_wp2_with fail
  go_loopw [10] (fun i wr => ∃ (k : Nat), k ≤ n ∧ i = .int .i64 k ∧ Below w.heap.size w wr ∧ MasterAt wr w1.heap.size w1.heap.size (MS.line a0 0 (cmds z1 0 k))) (fun i _ => n - (intOf i).toNat)
  case atStart => exact ⟨0, Nat.zero_le _, rfl, HB3.out, HS3.out⟩
  case round =>
    obtain ⟨k, hk, rfl, hbr, hsr⟩ := hrel
    have HBr := Lib.hid hbr
    have HSr := Lib.hid hsr
    have hlr : w1.heap.size < wr.heap.size := hsr.lt
    clear hbr hsr HB3 HS3 HB2 HS2 HB1
    by_cases hlt : k < n
    · obtain ⟨hc, hz0, hz1⟩ := HBY.out k hlt
      obtain rfl := HX1.out (by omega)
      obtain ⟨z, hz⟩ : ∃ z, z1.getD k 0 = z := ⟨_, rfl⟩
      have HZ := Lib.hid hz
      rw [hz] at hc hz0 hz1
      have hcr : wr.cell? (x1.add k) = some (.int .u8 z) := (HBr.out.cell (World.block_lt_of_cell? w _ hc)).trans hc
      clear hc hz
      have hzn : ((z.toNat : Nat) : Int) = z := by omega
      go_wp2_with fail
      refine (masterK_send _ w1.heap.size w1.heap.size (MS.line a0 0 (cmds z1 0 k)) (MS.line a0 0 (cmds z1 0 (k + 1))) _ [UInt8.ofNat z.toNat] 0 (HSr.out.below (by go_grown)) (reads_one (k := z.toNat) (by rw [hzn]; exact blk_new _ _) (by omega)) (by rw [cmds_snoc, HZ.out]; exact MS.line_send a0 0 _ _ (by simp) (by simp) (by rw [cmds_len]; omega))).mono ?_
      rintro e w4 ⟨rfl, hk4, hs4⟩
      have HB4 : Hid (Below w.heap.size w w4) := stepK HBr.out (by omega) (by go_grown) hk4 hg
      have HS4 := Lib.hid hs4
      clear hk4 hs4
      go_wp2_with fail
      go_roundw
      case rel => exact ⟨k + 1, by omega, by go_num, HB4.out, HS4.out⟩
      case measure => simp [intOf]; omega
    · have hkn : k = n := by omega
      subst hkn
      obtain ⟨wi, rfl⟩ : ∃ wi : World, wi = wr := ⟨_, rfl⟩
      go_wp2_with fail
      go_loopw [11] (fun i wr => ∃ (j : Nat), j ≤ k ∧ i = .int .i64 j ∧ Below w.heap.size w wr ∧ MasterAt wr w1.heap.size w1.heap.size (MS.line a0 ((j : Int) % 2) (cmds z1 j k))) (fun i _ => k - (intOf i).toNat)
      case atStart => exact ⟨0, Nat.zero_le _, rfl, HBr.out, HSr.out⟩
      case round =>
        obtain ⟨j, hj, rfl, hbr, hsr⟩ := hrel
        obtain ⟨wo, rfl⟩ : ∃ wo : World, wo = wr := ⟨_, rfl⟩
        have HBo := Lib.hid hbr
        have hlo : w1.heap.size < wo.heap.size := hsr.lt
        obtain ⟨t, ht, ht01⟩ : ∃ t : Int, (j : Int) % 2 = t ∧ (t = 0 ∨ t = 1) := ⟨_, rfl, by omega⟩
        have HT := Lib.hid ht
        have ht0 : 0 ≤ t := by omega
        have ht1 : t ≤ 1 := by omega
        have HT01 := Lib.hid ht01
        rw [ht] at hsr
        have HSo := Lib.hid hsr
        clear hbr hsr HBr HSr ht01
        have hwt : IntKind.u8.wrap t = t := IntWalk.u8_in _ (by omega)
        have hwt1 : IntKind.u8.wrap (1 - t) = 1 - t := IntWalk.u8_in _ (by omega)
        by_cases hjk : j < k
        · obtain ⟨hc, hz0, hz1⟩ := HBY.out j hjk
          obtain rfl := HX1.out (by omega)
          obtain ⟨z, hz⟩ : ∃ z, z1.getD j 0 = z := ⟨_, rfl⟩
          have HZ := Lib.hid hz
          rw [hz] at hc hz0 hz1
          obtain ⟨q, hq, hq3⟩ := and3 z hz0 hz1
          have HC := Lib.hid hc
          clear hc hz
          have hcm := cmds_cons z1 j k hjk
          rw [HZ.out] at hcm
          have HCM := Lib.hid hcm
          clear hcm
          go_wp2_with fail
          go_loopw [13] (fun i wr => ∃ (m : Nat), m ≤ q ∧ i = .int .i64 m ∧ Below w.heap.size w wr ∧ MasterAt wr w1.heap.size w1.heap.size (MS.line a0 t (cmds z1 j k))) (fun i _ => q - (intOf i).toNat)
          case atStart => exact ⟨0, Nat.zero_le _, rfl, HBo.out, HSo.out⟩
          case round =>
            obtain ⟨m, hm, rfl, hbr, hsr⟩ := hrel
            have HBm := Lib.hid hbr
            have HSm := Lib.hid hsr
            have hlm : w1.heap.size < wr.heap.size := hsr.lt
            have hcr : wr.cell? (x1.add j) = some (.int .u8 z) := (HBm.out.cell (World.block_lt_of_cell? w _ HC.out)).trans HC.out
            clear hbr hsr
            by_cases hmq : m < q
            · go_wp2_with fail
              refine (masterK_heard _ w1.heap.size w1.heap.size (MS.line a0 t (cmds z1 j k)) (MS.line a0 t (cmds z1 j k)) ⟨a0, 5, 1, 0, t, []⟩ none 0 0 [] true rfl HSm.out (ReadsB.nil _) (fun ad n c h => by cases h) (by simp [MS.line]) (by simp [MS.line]) (MS.line_same a0 t _)).mono ?_
              rintro e w5 ⟨v5, rfl, ho, hk5, hs5⟩
              obtain ⟨A5, c5, rfl⟩ := own_slice ho
              have HB5 : Hid (Below w.heap.size w w5) := stepK HBm.out (by have := HBm.out.size; omega) (Below.refl _ _) hk5 hg
              have HS5 := Lib.hid hs5
              clear ho hk5 hs5
              go_wp2_with fail
              go_roundw
              case rel => exact ⟨m + 1, by omega, by go_num, HB5.out, HS5.out⟩
              case measure => simp [intOf]; omega
            · go_wp2_with fail
              have HSm2 : Hid (MasterAt wr w1.heap.size w1.heap.size (MS.line a0 t ([UInt8.ofNat z.toNat] :: cmds z1 (j + 1) k))) := by rw [← HCM.out]; exact HSm.out
              refine (master_next _ w1.heap.size w1.heap.size _ HSm2.out).mono ?_
              rintro e w6 ⟨v6, rfl, ho, hb6⟩
              have e1 := MS.line_data a0 t [UInt8.ofNat z.toNat] (cmds z1 (j + 1) k)
              rw [e1] at ho ⊢
              clear e1
              have hone := one_byte z.toNat (by omega)
              rw [show ((z.toNat : Nat) : Int) = z by omega] at hone
              simp only [List.length_cons, List.length_nil, Nat.zero_add] at ho
              rw [hone] at ho
              obtain ⟨g6, c6, rfl, hg6, hc6, hc6'⟩ := own_one_cell ho
              have hg6' : ∀ o, (w6.alloc o).cell? ⟨g6, 0, none⟩ = some (.int .u8 z) := fun o => by
                rw [World.cell?_alloc_lt _ _ _ (World.block_lt_of_cell? w6 _ hg6)]
                exact hg6
              have HB6 : Hid (Below w.heap.size w w6) := HBm.out.trans (hb6.mono HBm.out.size)
              have HS6 := Lib.hid (HSm2.out.below hb6)
              have hl6 : w1.heap.size < w6.heap.size := HS6.out.lt
              have hcr6 : ∀ o, (w6.alloc o).cell? (x1.add j) = some (.int .u8 z) := fun o => by
                have h6 : w6.cell? (x1.add j) = some (.int .u8 z) := (hb6.cell (World.block_lt_of_cell? wr _ hcr)).trans hcr
                rw [World.cell?_alloc_lt _ _ _ (World.block_lt_of_cell? w6 _ h6)]
                exact h6
              clear ho hb6 hone hcr hg6
              have hlen : (MS.line a0 t ([UInt8.ofNat z.toNat] :: cmds z1 (j + 1) k)).queue.length = k - j := by simp [MS.line, cmds_len]; omega
              have hsub : ((k - j : Nat) : Int) = (k : Int) - (j : Int) := by omega
              go_wp2_with fail
              have hwk : IntKind.i64.wrap ((k : Int) - (j : Int)) = (k : Int) - (j : Int) := IntWalk.i64_in _ (by omega)
              have hji : (j : Int) < (len1 : Int) := by omega
              have hji0 : (0 : Int) ≤ (j : Int) := by omega
              go_region_held3 (fun w' => MasterAt w' w1.heap.size w1.heap.size (MS.line a0 t ([UInt8.ofNat z.toNat] :: cmds z1 (j + 1) k)) ∧ w'.cell? ⟨w6.heap.size, 1, none⟩ = some (.int .u8 2) ∧ w'.cell? ⟨w6.heap.size, 3, none⟩ = some (.int .u8 t) ∧ w'.cell? ⟨w6.heap.size, 5, none⟩ = some (.slice (some ⟨g6, 0, none⟩) 1 c6) ∧ w'.cell? ⟨g6, 0, none⟩ = some (.int .u8 z) ∧ w'.cell? (x1.add j) = some (.int .u8 z))
                ((first
                  | exact ⟨HS6.out.below (by go_grown), blk_cell (blk_drew (blk_new _ _)) 1, blk_cell (blk_drew (blk_new _ _)) 3, blk_cell (blk_drew (blk_new _ _)) 5, hg6' _, hcr6 _⟩
                  | assumption))
                ((first
                  | (go_at_call 25; refine (master_len _ w1.heap.size w1.heap.size (MS.line a0 t ([UInt8.ofNat z.toNat] :: cmds z1 (j + 1) k)) ?_).mono ?_; (exact (‹MasterAt _ w1.heap.size w1.heap.size (MS.line a0 t ([UInt8.ofNat z.toNat] :: cmds z1 (j + 1) k)) ∧ _›).1); rintro e w7 ⟨rfl, rfl⟩)))
              go_wp2_with fail
              refine (masterK_heard _ w1.heap.size w1.heap.size (MS.line a0 t ([UInt8.ofNat z.toNat] :: cmds z1 (j + 1) k)) (MS.line a0 (1 - t) (cmds z1 (j + 1) k)) ⟨a0, 5, 1, 0, 1 - t, []⟩ none 0 0 [] true rfl (HS6.out.below (by go_grown)) (ReadsB.nil _) (fun ad n c h => by cases h) (by simp [MS.line]) (by simp [MS.line]) (MS.line_ack a0 t _ _ HT01.out)).mono ?_
              rintro e w8 ⟨v8, rfl, ho, hk8, hs8⟩
              obtain ⟨A8, c8, rfl⟩ := own_slice ho
              have HB8 : Hid (Below w.heap.size w w8) := stepK HB6.out (by have := HB6.out.size; omega) (by go_grown) hk8 hg
              have HS8 := Lib.hid hs8
              clear ho hk8 hs8
              go_wp2_with fail
              go_roundw
              case rel =>
                refine ⟨j + 1, by omega, by go_num, HB8.out, ?_⟩
                have h1 := HS8.out
                have h2 := HT.out
                have h3 : ((j + 1 : Nat) : Int) % 2 = 1 - t := by have := HT01.out; omega
                rw [h3]
                exact h1
              case measure => simp [intOf]; omega
        · have hjk' : j = k := by omega
          subst hjk'
          have hnil : cmds z1 j j = [] := by simp [cmds]
          rw [hnil] at HSo
          go_wp2_with fail
          refine (master_next _ w1.heap.size w1.heap.size _ HSo.out).mono ?_
          rintro e w6 ⟨v6, rfl, ho, hb6⟩
          obtain ⟨A6, c6, rfl⟩ := own_slice ho
          have e1 := MS.line_poll a0 t
          rw [e1]
          clear e1 hnil
          have HB6 : Hid (Below w.heap.size w w6) := HBo.out.trans (hb6.mono HBo.out.size)
          have HS6 := Lib.hid (HSo.out.below hb6)
          have hl6 : w1.heap.size < w6.heap.size := HS6.out.lt
          clear ho hb6
          go_wp2_with (go_at_call 25; refine (master_len _ w1.heap.size w1.heap.size (MS.line a0 t []) (HS6.out.below (by go_grown))).mono ?_; rintro e w7 ⟨rfl, rfl⟩)
          go_ret
          exact ⟨rfl, HB6.out.trans (Below.mono (by go_grown) HB6.out.size)⟩
end Go.Proofs.Ytdgbmiobfehpdaa
