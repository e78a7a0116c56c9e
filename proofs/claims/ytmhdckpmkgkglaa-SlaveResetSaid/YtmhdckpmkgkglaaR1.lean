/- The walk of lamplightlaw08.SlaveRepeats. -/
import Derived.Test.YtmhdckpmkgkglaaK1
import Derived.Deep.RegionHeld3
import Derived.Outline
import Derived.Deep.RegionWith
import Derived.IntWalk
set_option linter.unusedVariables false
set_option linter.unusedSimpArgs false
namespace Go.Proofs.Ytmhdckpmkgkglaa
open Go.RowKit

theorem and3 (z : Int) (h0 : 0 ≤ z) (h1 : z ≤ 255) : ∃ q : Nat, bits BinOp.and IntKind.u8 z 3 = (q : Int) ∧ q ≤ 3 := by
  obtain ⟨n, rfl⟩ := Int.eq_ofNat_of_zero_le h0
  have : ∀ n : Fin 256, ∃ q : Fin 4, bits BinOp.and IntKind.u8 ((n : Nat) : Int) 3 = ((q : Nat) : Int) := by decide +kernel
  obtain ⟨q, hq⟩ := this ⟨n, by omega⟩
  exact ⟨q, hq, by omega⟩

theorem two_bytes (k : Nat) (z : Int) (hk : k < 256) (h0 : 0 ≤ z) (h1 : z ≤ 255) : bytesV [UInt8.ofNat k, UInt8.ofNat z.toNat] = [.int .u8 (k : Int), .int .u8 z] := by
  simp only [bytesV, List.map_cons, List.map_nil, UInt8.toNat_ofNat']
  congr 2
  · omega
  · congr 1
    omega
theorem reads_two {w : World} {b t : Nat} {c0 c1 : Value} {fr : Nat × Nat} {l : List UInt8} (h : w.heap[b]? = some (.cells #[c0, c1] t fr)) (hc : bytesV l = [c0, c1]) (hl : l.length = 2) : ReadsB w (.slice (some ⟨b, 0, none⟩) 2 2) l := by
  have := reads_lit h l (by rw [hc]) (by omega)
  rwa [hl] at this

def InnerR (w wr : World) (a0 t : Int) (g j : Nat) : Prop :=
  Below w.heap.size w wr ∧ ∃ x, SlaveAt wr g g ⟨a0, 7, 0, x, []⟩ ∧ (j = 0 → x = t) ∧ (0 < j → x = 1 - t)

set_option maxHeartbeats 4000000 in
set_option maxRecDepth 100000 in
theorem repeats_walk (a0 : Int) (a2 : Option Addr) (len2 cap2 : Nat) (z2 : List Int) (w : World) (w0 : (Lit.int .u8 a0).wf = true) (r2 : IsRow8 w a2 len2 cap2 z2) :
    Calls Try.prog 4 #[.int .u8 a0, .slice a2 len2 cap2] w fun e w' => e = .returned (.bool true) ∧ Below w.heap.size w w' := by
  obtain ⟨ha0, ha1⟩ := wf_u8 w0
  go_enter Try.func4, Try.ntmps4
  go_wp2_with fail
  refine (shown_any _).mono ?_
  rintro e w1 ⟨rfl, hb1⟩
  have HB1 := Lib.hid hb1
  clear hb1
  go_wp2_with fail
  refine (slave_new _ a0).mono ?_
  rintro e w2 ⟨rfl, hb2, hs2⟩
  have HB2 : Hid (Below w.heap.size w w2) := HB1.out.trans (hb2.mono HB1.out.size)
  have HS2 : Hid (SlaveAt w2 w1.heap.size w1.heap.size ⟨a0, 0, 0, 0, []⟩) := hs2
  have hg : w.heap.size ≤ w1.heap.size := HB1.out.size
  have hz : w1.heap.size < w2.heap.size := hs2.lt
  clear hb2 hs2
  go_wp2_with fail
  refine (slave_take _ w1.heap.size w1.heap.size ⟨a0, 0, 0, 0, []⟩ ⟨a0, 7, 0, 0, []⟩ ⟨a0, 1, 7, 0, 0, []⟩ ⟨a0, 4, 7, 0, 0, []⟩ [] true none 0 0 ?hS ?hR ?hN ?hF).mono ?_
  case hS => exact HS2.out
  case hR => exact ReadsB.nil _
  case hN => intro ad n c h; cases h
  case hF => simp [takeF]
  rintro e w5 ⟨v1, v2, rfl, ho1, ho2, hgr, hs5⟩
  have HB5 : Hid (Below w.heap.size w w5) := HB2.out.trans (below_grown hgr HB2.out.size (by rintro k ⟨⟩; exact hg))
  have HS5 := Lib.hid hs5
  clear hgr hs5 ho1 ho2
  go_wp2_with fail
  have hmax : len2 ≤ 9223372036854775807 := by
    rcases r2 with ⟨_, h1, _, _⟩ | ⟨_, _, h1, h2, _⟩
    · omega
    · unfold maxLen at h2; omega
  go_loopw [7] (fun i wr => ∃ (k : Nat), k ≤ len2 ∧ i = .int .i64 k ∧ Below w.heap.size w wr ∧ SlaveAt wr w1.heap.size w1.heap.size ⟨a0, 7, 0, ((k : Int) % 2), []⟩) (fun i _ => len2 - (intOf i).toNat)
  case atStart => exact ⟨0, Nat.zero_le _, rfl, HB5.out, HS5.out⟩
  case round =>
    obtain ⟨k, hk, rfl, hbr, hsr⟩ := hrel
    have HBr := Lib.hid hbr
    have HSr := Lib.hid hsr
    clear hbr hsr
    obtain ⟨wo, rfl⟩ : ∃ wo : World, wo = wr := ⟨_, rfl⟩
    by_cases hlt : k < len2
    · by_cases h30 : k < 30
      · have hd : (decide ((k : Int) < 30)) = true := by simp; omega
        obtain ⟨x2, rfl, hlc2, _, hz2', hc2, hw2⟩ := r2.resolve_left (by rintro ⟨_, h, _⟩; omega)
        obtain ⟨z, hz, hz0', hz1'⟩ : ∃ z, z2.getD k 0 = z ∧ 0 ≤ z ∧ z ≤ 255 := by
          have := wf_u8 (hw2 (z2.getD k 0) (by rw [List.getD_eq_getElem?_getD, List.getElem?_eq_getElem (by omega)]; exact List.getElem_mem _))
          exact ⟨_, rfl, this⟩
        have hcell : w.cell? (x2.add k) = some (.int .u8 z) := by
          have h1 := hc2 k (by omega)
          rw [hz] at h1
          exact h1
        have HC := Lib.hid hcell
        clear hz hc2 hw2 r2 hcell
        obtain ⟨q, hq, hq3⟩ := and3 z hz0' hz1'
        obtain ⟨t, ht, ht01⟩ : ∃ t : Int, t = (k : Int) % 2 ∧ (t = 0 ∨ t = 1) := ⟨_, rfl, by omega⟩
        have HT := Lib.hid ht
        have HSo : Hid (SlaveAt wo w1.heap.size w1.heap.size ⟨a0, 7, 0, t, []⟩) := by rw [ht]; exact HSr.out
        clear HSr
        go_wp2_with fail
        rw [← ht]
        clear ht
        go_loopw [9] (fun i wr => ∃ (j : Nat), j ≤ q + 1 ∧ i = .int .i64 j ∧ InnerR w wr a0 t w1.heap.size j) (fun i _ => q + 1 - (intOf i).toNat)
        case atStart => exact ⟨0, Nat.zero_le _, rfl, HBr.out, t, HSo.out, fun _ => rfl, fun h => by omega⟩
        case round =>
          obtain ⟨j, hj, rfl, hbr, x, hsr, hx1, hx2⟩ := hrel
          have HBi := Lib.hid hbr
          have HSi := Lib.hid hsr
          have HX1 := Lib.hid hx1
          have HX2 := Lib.hid hx2
          have hcell : wr.cell? (x2.add k) = some (.int .u8 z) := (HBi.out.cell (World.block_lt_of_cell? w _ HC.out)).trans HC.out
          clear hbr hsr hx1 hx2
          obtain ⟨bl, hbl, hbl2⟩ : ∃ bl : List UInt8, bytesV bl = [.int .u8 (k : Int), .int .u8 z] ∧ bl.length = 2 := ⟨[UInt8.ofNat k, UInt8.ofNat z.toNat], two_bytes k z (by omega) hz0' hz1', rfl⟩
          have HBL := Lib.hid hbl
          have HBL2 := Lib.hid hbl2
          clear hbl hbl2
          go_wp2_with fail
          · have hjq : j ≤ q := by assumption
            rcases Nat.eq_zero_or_pos j with hj0 | hj0
            · obtain rfl : x = t := HX1.out hj0
              subst hj0
              refine (slave_take _ w1.heap.size w1.heap.size ⟨a0, 7, 0, x, []⟩ ⟨a0, 7, 0, 1 - x, []⟩ ⟨a0, 2, 7, x, 0, bl⟩ ⟨a0, 5, 7, 0, 1 - x, []⟩ bl true (some ⟨wr.heap.size, 0, none⟩) 2 2 ?hS ?hR ?hN ?hF).mono ?_
              case hS => exact HSi.out.below ((Below.refl _ _).alloc (Nat.le_refl _) _)
              case hR => exact reads_two (blk_new _ _) HBL.out HBL2.out
              case hN => intro ad n c h _; cases h; have := HSi.out.lt; simp; omega
              case hF => simp [takeF, SS.heard, SS.took, SS.command]
              rintro e w6 ⟨v3, v4, rfl, ho1, ho2, hgr, hs6⟩
              obtain ⟨A6, c6, rfl⟩ := own_slice ho1
              obtain ⟨D6, d6, rfl⟩ := own_slice ho2
              rw [HBL2.out] at ho2 ⊢
              have HB6 : Hid (Below w.heap.size w w6) := law_step HBi.out HBi.out.size ((Below.refl _ _).alloc (Nat.le_refl _) _) hgr hg
              have HS6 := Lib.hid hs6
              have HC6 : w6.cell? (x2.add k) = some (.int .u8 z) := (HB6.out.cell (World.block_lt_of_cell? w _ HC.out)).trans HC.out
              have HO6 := Lib.hid ho2
              clear hgr hs6 ho1 ho2 hcell
              go_wp2_with fail
              have kd1 : ∀ o, (convert 22 9 (.slice D6 2 d6)).run Try.prog (w6.alloc o).drew = .ok (.string ⟨bl.toArray⟩) (w6.alloc o).drew := fun o => by
                have h := conv_bytes (w6.alloc o).drew (.slice D6 2 d6) bl (own_reads (n := 2) (own_below HO6.out (((Below.refl _ _).alloc (Nat.le_refl _) _).drew)) (by rw [HBL2.out]; decide))
                exact h
              have kd2 : ∀ o o', (convert 22 9 (.slice D6 2 d6)).run Try.prog ((w6.alloc o).alloc o').drew = .ok (.string ⟨bl.toArray⟩) ((w6.alloc o).alloc o').drew := fun o o' => by
                have h := conv_bytes ((w6.alloc o).alloc o').drew (.slice D6 2 d6) bl (own_reads (n := 2) (own_below HO6.out ((((Below.refl _ _).alloc (Nat.le_refl _) _).alloc (by simp) _).drew)) (by rw [HBL2.out]; decide))
                exact h
              have kl : ∀ o, (convert 22 9 (.slice (some ⟨w6.heap.size + 1, 0, none⟩) 2 2)).run Try.prog ((w6.alloc o).alloc (.cells #[.int .u8 (k : Int), .int .u8 z] 5)).drew = .ok (.string ⟨bl.toArray⟩) ((w6.alloc o).alloc (.cells #[.int .u8 (k : Int), .int .u8 z] 5)).drew := fun o =>
                conv_bytes _ _ bl (reads_two (t := 5) (fr := (0, 0)) (blk_drewN' (blk_new' _ _ _ (by simp))) HBL.out HBL2.out)
              have hk6 : ((x2.add k).block) < w6.heap.size := World.block_lt_of_cell? w6 _ HC6
              have kn : w6.heap.size ≠ (x2.add k).block := Nat.ne_of_gt hk6
              have hwx : IntKind.u8.wrap (1 - x) = 1 - x := by rcases ht01 with rfl | rfl <;> rfl
              have hwk : IntKind.u8.wrap (k : Int) = (k : Int) := IntWalk.u8_in _ (by omega)
              have hlt6 := HS6.out.lt
              go_region_held (fun w' => w'.cell? ⟨w6.heap.size, 4, none⟩ = some (.int .u8 (1 - x)) ∧ w'.cell? (x2.add k) = some (.int .u8 z) ∧ (convert 22 9 (.slice D6 2 d6)).run Try.prog w' = .ok (.string ⟨bl.toArray⟩) w') (go_keep) (fail)
              all_goals go_wp2_with fail
              go_roundw
              case rel =>
                have hAl : Below w6.heap.size w6 (((w6.alloc (.cells #[.int .u8 a0, .int .u8 5, .int .u8 7, .int .u8 0, .int .u8 (1 - x), .slice A6 0 c6] 29)).alloc (.cells #[.int .u8 (k : Int), .int .u8 z] 5)).drew) := (((Below.refl _ _).alloc (Nat.le_refl _) _).alloc (by simp) _).drew
                exact ⟨1, by omega, rfl, HB6.out.trans (hAl.mono HB6.out.size), 1 - x, HS6.out.below hAl, fun h => by omega, fun _ => rfl⟩
              case measure => simp [intOf]
            · obtain rfl : x = 1 - t := HX2.out hj0
              refine (slave_take _ w1.heap.size w1.heap.size ⟨a0, 7, 0, 1 - t, []⟩ ⟨a0, 7, 0, 1 - t, []⟩ ⟨a0, 2, 7, t, 0, bl⟩ ⟨a0, 5, 7, 0, 1 - t, []⟩ [] true (some ⟨wr.heap.size, 0, none⟩) 2 2 ?hS ?hR ?hN ?hF).mono ?_
              case hS => exact HSi.out.below ((Below.refl _ _).alloc (Nat.le_refl _) _)
              case hR => exact reads_two (blk_new _ _) HBL.out HBL2.out
              case hN => intro ad n c h _; cases h; have := HSi.out.lt; simp; omega
              case hF =>
                have : ¬ t = 1 - t := by omega
                simp [takeF, SS.heard, SS.took, SS.command, this]
              rintro e w6 ⟨v3, v4, rfl, ho1, ho2, hgr, hs6⟩
              obtain ⟨A6, c6, rfl⟩ := own_slice ho1
              obtain ⟨D6, d6, rfl⟩ := own_slice ho2
              have HB6 : Hid (Below w.heap.size w w6) := law_step HBi.out HBi.out.size ((Below.refl _ _).alloc (Nat.le_refl _) _) hgr hg
              have HS6 := Lib.hid hs6
              have hwx : IntKind.u8.wrap (1 - t) = 1 - t := by rcases ht01 with rfl | rfl <;> rfl
              have hj1 : ((j : Int) == 0) = false := by simp; omega
              clear hgr hs6 ho1 ho2 hcell
              go_wp2_with fail
              go_quiet (fail)
              go_wp2_with fail
              go_roundw
              case rel =>
                have hAl : Below w6.heap.size w6 ((w6.alloc (.cells #[.int .u8 a0, .int .u8 5, .int .u8 7, .int .u8 0, .int .u8 (1 - t), .slice A6 0 c6] 29)).drewN nq) := below_drewN ((Below.refl _ _).alloc (Nat.le_refl _) _) _
                exact ⟨j + 1, by omega, by go_num, HB6.out.trans (hAl.mono HB6.out.size), 1 - t, HS6.out.below hAl, fun h => by omega, fun _ => rfl⟩
              case measure => simp [intOf]; omega
          · have hjq : ¬ j ≤ q := by assumption
            obtain rfl : x = 1 - t := HX2.out (by omega)
            go_roundw
            case rel => exact ⟨k + 1, by omega, by go_num, HBi.out, by have h1 := HSi.out; have h2 := HT.out; have h3 : ((k + 1 : Nat) : Int) % 2 = 1 - t := by omega
                                                                       rw [h3]; exact h1⟩
            case measure => simp [intOf]; omega
      · have hd : (decide ((k : Int) < 30)) = false := by simp; omega
        go_wp2
        go_ret
        exact ⟨rfl, HBr.out⟩
    · go_wp2
      go_ret
      exact ⟨rfl, HBr.out⟩
end Go.Proofs.Ytmhdckpmkgkglaa
