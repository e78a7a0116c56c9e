/- The walk of lamplightlaw08.SlaveKeeps. -/
import Derived.Test.YtmhdckpmkgkglaaSh
import Derived.Outline
set_option linter.unusedVariables false
set_option linter.unusedSimpArgs false
namespace Go.Proofs.Ytmhdckpmkgkglaa
open Go.RowKit

/-- A slice of whole numbers that came in (the row's own words). -/
def IsRow8 (w : World) (a : Option Addr) (len cap : Nat) (zs : List Int) : Prop :=
  (a = none ∧ len = 0 ∧ cap = 0 ∧ zs = []) ∨
  ∃ x, a = some x ∧ len ≤ cap ∧ cap ≤ maxLen ∧ zs.length = cap ∧ (∀ i, i < zs.length → w.cell? (x.add i) = some (.int .u8 (zs.getD i 0))) ∧ ∀ n ∈ zs, (Lit.int .u8 n).wf = true

theorem wf_u8 {n : Int} (h : (Lit.int .u8 n).wf = true) : 0 ≤ n ∧ n ≤ 255 := by
  have := bounds_u8 h
  omega

/-- Its elements as bytes. -/
def toB (zs : List Int) : List UInt8 := zs.map fun n => UInt8.ofNat n.toNat
theorem toB_get {zs : List Int} (h : ∀ n ∈ zs, (Lit.int .u8 n).wf = true) : bytesV (toB zs) = zs.map (Value.int .u8) := by
  simp only [bytesV, toB, List.map_map]
  refine List.map_congr_left fun n hn => ?_
  have := wf_u8 (h n hn)
  simp only [Function.comp]
  congr 1
  simp only [UInt8.toNat_ofNat']
  omega
theorem row_reads {w : World} {a : Option Addr} {len cap : Nat} {zs : List Int} (h : IsRow8 w a len cap zs) (hl : len ≤ 140737488355328) : ReadsB w (.slice a len cap) (toB (zs.take len)) := by
  rcases h with ⟨rfl, rfl, rfl, rfl⟩ | ⟨x, rfl, hlc, hm, hz, hc, hw⟩
  · exact ReadsB.nil w
  · have hlen : (toB (zs.take len)).length = len := by simp [toB]; omega
    refine ⟨some x, cap, by rw [hlen], by omega, by omega, (fun e => by cases e), fun ad he j u hu => ?_⟩
    cases he
    rw [toB_get (fun n hn => hw n (List.mem_of_mem_take hn))] at hu
    have hj : j < len := by
      have := (List.getElem?_eq_some_iff.1 hu).1
      simp at this; omega
    rw [hc j (by omega)]
    simp [List.getElem?_take, hj, show j < zs.length by omega] at hu
    rw [← hu]
    simp [List.getD, show j < zs.length by omega]

set_option maxHeartbeats 4000000 in
set_option maxRecDepth 100000 in
theorem keeps_walk (a0 : Int) (a1 : Option Addr) (len1 cap1 : Nat) (z1 : List Int) (a2 : Option Addr) (len2 cap2 : Nat) (z2 : List Int) (w : World) (w0 : (Lit.int .u8 a0).wf = true) (r1 : IsRow8 w a1 len1 cap1 z1) (r2 : IsRow8 w a2 len2 cap2 z2) :
    Calls Try.prog 3 #[.int .u8 a0, .slice a1 len1 cap1, .slice a2 len2 cap2] w fun e w' => e = .returned (.bool true) ∧ Below w.heap.size w w' := by
  obtain ⟨ha0, ha1⟩ := wf_u8 w0
  obtain ⟨i0, hi, hz0, hz1, hz2⟩ := info_parts Try.info5
  obtain ⟨m, hm1, hm2, hmin⟩ : ∃ m : Nat, m ≤ len1 ∧ m ≤ 23 ∧ (if (23 : Int) < (len1 : Int) then (23 : Int) else (len1 : Int)) = (m : Int) := by
    by_cases h : 23 < len1
    · exact ⟨23, by omega, by omega, by rw [if_pos (by omega)]; rfl⟩
    · exact ⟨len1, by omega, by omega, by rw [if_neg (by omega)]⟩
  have hlc1 : len1 ≤ cap1 := by rcases r1 with ⟨_, h1, h2, _⟩ | ⟨_, _, h1, _⟩ <;> omega
  have hr1 : IsRow8 w a1 m cap1 z1 := by
    rcases r1 with ⟨h1, h2, h3, h4⟩ | ⟨x, h1, h2, h3⟩
    · exact .inl ⟨h1, by omega, h3, h4⟩
    · exact .inr ⟨x, h1, by omega, h3⟩
  have hrb := Lib.hid (row_reads hr1 (by omega))
  clear hr1
  have kc := conv_const
  go_enter Try.func3, Try.ntmps3
  go_wp2_with fail
  refine (shown_any _).mono ?_
  rintro e w1 ⟨rfl, hb1⟩
  have HB1 := Lib.hid hb1
  clear hb1
  go_wp2_with fail
  refine (slave_new _ a0).mono ?_
  rintro e w2 ⟨rfl, hb2, hs2⟩
  have HB2 : Hid (Below w.heap.size w w2) := HB1.out.trans (hb2.mono HB1.out.size)
  have HS2 := Lib.hid hs2
  have hg : w.heap.size ≤ w1.heap.size := HB1.out.size
  have hz : w1.heap.size < w2.heap.size := hs2.lt
  clear hb2 hs2
  go_wp2_with (at_builtin; refine wpList_append_reads rfl (.tmp 20) (.tmp 25) 22 rfl w2.heap.size 5 i0 Try.underlying22 hi hz0 hz1 hz2 _ _ [1] (toB (z1.take m)) rfl ?own rfl ?rd ?b1 ?b2 ?_)
  case own => exact World.ownsRow_lit w2 #[.int .u8 1] 1 (Nat.le_refl _) (by unfold maxLen; omega) rfl
  case rd => exact hrb.out.below (HB2.out.alloc HB2.out.size _)
  case b1 => simp [toB]; omega
  case b2 => simp
  intro v3 w3 ho3 hg3
  obtain ⟨bs, hbs, hb1, hb24⟩ : ∃ bs : List UInt8, bs = 1 :: toB (List.take m z1) ∧ 0 < bs.length ∧ bs.length ≤ 24 := ⟨_, rfl, by simp, by simp [toB]; omega⟩
  have ho4 : w3.ownsRow w2.heap.size 5 1 v3 bs.length (bytesV bs) := by rw [hbs]; simpa using ho3
  have HB3 : Hid (Below w.heap.size w w3) := (HB2.out.alloc HB2.out.size _).grown hg3 (by simp; omega) (by intro k hk; simp [Value.ownBlock] at hk; omega)
  have HS3 : Hid (SlaveAt w3 w1.heap.size w1.heap.size ⟨a0, 0, 0, 0, []⟩) := HS2.out.below (((Below.refl _ _).alloc (Nat.le_refl _) _).grown hg3 (by simp) (by intro k hk; simp [Value.ownBlock] at hk; omega))
  have HO3 := Lib.hid ho4
  obtain ⟨A3, c3, rfl⟩ := own_slice ho4
  clear hbs ho3 ho4 hg3 hrb hmin
  go_wp2_with fail
  refine (slave_offer _ w1.heap.size w1.heap.size ⟨a0, 0, 0, 0, []⟩ ⟨a0, 0, 0, 0, bs⟩ (.slice A3 bs.length c3) bs 0 ?hS ?hR ?hF).mono ?_
  case hS => exact HS3.out
  case hR => exact own_reads HO3.out (by omega)
  case hF => unfold offerF; rw [if_neg (by omega), if_neg (by simp)]
  rintro e w4 ⟨rfl, hgr, hs4⟩
  have HB4 : Hid (Below w.heap.size w w4) := HB3.out.trans (below_grown hgr HB3.out.size (by rintro k ⟨⟩; exact hg))
  have HO4 : Hid (w4.ownsRow w2.heap.size 5 1 (.slice A3 bs.length c3) bs.length (bytesV bs)) := row_step HO3.out HS3.out (Below.refl _ _) hgr
  have HS4 := Lib.hid hs4
  clear hgr hs4
  go_wp2_with fail
  refine (slave_take _ w1.heap.size w1.heap.size ⟨a0, 0, 0, 0, bs⟩ ⟨a0, 1, 0, 0, bs⟩ ⟨a0, 1, 1, 0, 0, []⟩ ⟨a0, 4, 1, 0, 0, []⟩ [] true none 0 0 ?hS ?hR ?hN ?hF).mono ?_
  case hS => exact HS4.out
  case hR => exact ReadsB.nil _
  case hN => intro ad n c h; cases h
  case hF => simp [takeF]
  rintro e w5 ⟨v1, v2, rfl, ho1, ho2, hgr, hs5⟩
  have HB5 : Hid (Below w.heap.size w w5) := HB4.out.trans (below_grown hgr HB4.out.size (by rintro k ⟨⟩; exact hg))
  have HO5 : Hid (w5.ownsRow w2.heap.size 5 1 (.slice A3 bs.length c3) bs.length (bytesV bs)) := row_step HO4.out HS4.out (Below.refl _ _) hgr
  have HS5 := Lib.hid hs5
  clear hgr hs5 ho1 ho2
  go_wp2_with fail
  go_loopw [9, 10] (fun s i wr => ∃ (k : Nat) (n : Int), k ≤ len2 ∧ i = .int .i64 k ∧ 1 ≤ n ∧ n ≤ 255 ∧ s = .int .u8 n ∧ Below w.heap.size w wr ∧ SlaveAt wr w1.heap.size w1.heap.size ⟨a0, n, 0, 0, bs⟩ ∧
      wr.ownsRow w2.heap.size 5 1 (.slice A3 bs.length c3) bs.length (bytesV bs)) (fun _ i _ => len2 - (intOf i).toNat)
  case atStart => exact ⟨0, 1, Nat.zero_le _, rfl, by omega, by omega, rfl, HB5.out, HS5.out, HO5.out⟩
  case round =>
    obtain ⟨k, n, hk, rfl, hn1, hn2, rfl, hbr, hsr, hor⟩ := hrel
    have HBr := Lib.hid hbr
    have HSr := Lib.hid hsr
    have HOr := Lib.hid hor
    clear hbr hsr hor
    have hmax : len2 ≤ 9223372036854775807 := by
      rcases r2 with ⟨_, h1, _, _⟩ | ⟨_, _, h1, h2, _⟩
      · omega
      · unfold maxLen at h2; omega
    by_cases hlt : k < len2
    · by_cases h30 : k < 30
      · have hd : (decide ((k : Int) < 30)) = true := by simp; omega
        obtain ⟨x2, rfl, hlc2, _, hz2', hc2, hw2⟩ := r2.resolve_left (by rintro ⟨_, h, _⟩; omega)
        obtain ⟨z, hz, hz0', hz1'⟩ : ∃ z, z2.getD k 0 = z ∧ 0 ≤ z ∧ z ≤ 255 := by
          have := wf_u8 (hw2 (z2.getD k 0) (by rw [List.getD_eq_getElem?_getD, List.getElem?_eq_getElem (by omega)]; exact List.getElem_mem _))
          exact ⟨_, rfl, this⟩
        have hcell : wr.cell? (x2.add k) = some (.int .u8 z) := by
          have h1 := hc2 k (by omega)
          rw [hz] at h1
          exact (HBr.out.cell (World.block_lt_of_cell? w _ h1)).trans h1
        clear hz hc2 hw2 r1 r2
        by_cases h200 : 200 ≤ z
        · go_wp2_with fail
          refine (slave_take _ w1.heap.size w1.heap.size ⟨a0, n, 0, 0, bs⟩ ⟨a0, z, 0, 0, bs⟩ ⟨a0, 1, z, 0, 0, []⟩ ⟨a0, 4, z, 0, 0, []⟩ [] true none 0 0 ?hS ?hR ?hN ?hF).mono ?_
          case hS => exact HSr.out
          case hR => exact ReadsB.nil _
          case hN => intro ad n c h; cases h
          case hF => simp [takeF]
          rintro e w6 ⟨v3, v4, rfl, ho1, ho2, hgr, hs6⟩
          obtain ⟨A6, c6, rfl⟩ := own_slice ho1
          have HB6 : Hid (Below w.heap.size w w6) := HBr.out.trans (below_grown hgr HBr.out.size (by rintro k ⟨⟩; exact hg))
          have HO6 : Hid (w6.ownsRow w2.heap.size 5 1 (.slice A3 bs.length c3) bs.length (bytesV bs)) := row_step HOr.out HSr.out (Below.refl _ _) hgr
          have HS6 := Lib.hid hs6
          clear hgr hs6 ho1 ho2 hcell
          have e1 : (z != z) = false := by simp
          go_wp2_with fail
          go_roundw
          case rel => exact ⟨k + 1, z, by omega, by go_num, by omega, by omega, rfl, HB6.out.alloc HB6.out.size _, HS6.out.below ((Below.refl _ _).alloc (Nat.le_refl _) _), own_below HO6.out ((Below.refl _ _).alloc (Nat.le_refl _) _)⟩
          case measure => simp [intOf]; omega
        · go_wp2_with fail
          refine (slave_take _ w1.heap.size w1.heap.size ⟨a0, n, 0, 0, bs⟩ ⟨a0, n, 0, 0, bs⟩ ⟨a0, 3, n, 0, 0, []⟩ ⟨a0, 5, n, 0, 0, bs⟩ [] true none 0 0 ?hS ?hR ?hN ?hF).mono ?_
          case hS => exact HSr.out
          case hR => exact ReadsB.nil _
          case hN => intro ad n c h; cases h
          case hF => simp [takeF, SS.heard, SS.took, SS.command]; omega
          rintro e w6 ⟨v3, v4, rfl, ho1, ho2, hgr, hs6⟩
          obtain ⟨A6, c6, rfl⟩ := own_slice ho1
          have HB6 : Hid (Below w.heap.size w w6) := HBr.out.trans (below_grown hgr HBr.out.size (by rintro k ⟨⟩; exact hg))
          have HO6 : Hid (w6.ownsRow w2.heap.size 5 1 (.slice A3 bs.length c3) bs.length (bytesV bs)) := row_step HOr.out HSr.out (Below.refl _ _) hgr
          have HS6 := Lib.hid hs6
          have kb : ∀ o, (convert 22 9 (.slice A3 bs.length c3)).run Try.prog (w6.alloc o) = .ok (.string ⟨bs.toArray⟩) (w6.alloc o) := fun o => conv_bytes _ _ bs (own_reads (own_below HO6.out ((Below.refl _ _).alloc (Nat.le_refl _) _)) (by omega))
          have ka : ∀ o, (convert 22 9 (.slice A6 bs.length c6)).run Try.prog (w6.alloc o) = .ok (.string ⟨bs.toArray⟩) (w6.alloc o) := fun o => conv_bytes _ _ bs (own_reads (own_below ho1 ((Below.refl _ _).alloc (Nat.le_refl _) _)) (by omega))
          clear hgr hs6 ho1 ho2 hcell
          go_wp2_with fail
          have hAl : Below w6.heap.size w6 ((w6.alloc (.cells #[.int .u8 a0, .int .u8 5, .int .u8 n, .int .u8 0, .int .u8 0, .slice A6 bs.length c6] 29)).alloc (.cells #[.int .u8 121] 5 (1, 2))) := ((Below.refl _ _).alloc (Nat.le_refl _) _).alloc (by simp) _
          have HAl := Lib.hid hAl
          clear hAl
          refine (slave_offer _ w1.heap.size w1.heap.size ⟨a0, n, 0, 0, bs⟩ ⟨a0, n, 0, 0, bs⟩ (.slice (some ⟨w6.heap.size + 1, 0, none⟩) 1 1) [121] 5 ?hS ?hR ?hF).mono ?_
          case hS => exact HS6.out.below HAl.out
          case hR => exact reads_lit (t := 5) (fr := (1, 2)) (cs := #[.int .u8 121]) (blk_new' _ _ _ (by simp)) [121] rfl (by decide)
          case hF => unfold offerF; rw [if_neg (by simp), if_pos hb1]
          rintro e w7 ⟨rfl, hgr, hs7⟩
          have HB7 : Hid (Below w.heap.size w w7) := law_step HB6.out HB6.out.size HAl.out hgr hg
          have HO7 : Hid (w7.ownsRow w2.heap.size 5 1 (.slice A3 bs.length c3) bs.length (bytesV bs)) := row_step HO6.out HS6.out HAl.out hgr
          have HS7 := Lib.hid hs7
          clear hgr hs7 ka kb
          go_wp2_with fail
          go_roundw
          case rel => exact ⟨k + 1, n, by omega, by go_num, by omega, by omega, rfl, HB7.out, HS7.out, HO7.out⟩
          case measure => simp [intOf]; omega
      · have hd : (decide ((k : Int) < 30)) = false := by simp; omega
        go_wp2_with (go_at_call 14; refine (slave_pending _ w1.heap.size w1.heap.size ⟨a0, n, 0, 0, bs⟩ ?_).mono ?_; (exact HSr.out); rintro e w9 ⟨rfl, rfl⟩)
        go_ret
        exact ⟨by simp [hb1], HBr.out⟩
    · go_wp2_with (go_at_call 14; refine (slave_pending _ w1.heap.size w1.heap.size ⟨a0, n, 0, 0, bs⟩ ?_).mono ?_; (exact HSr.out); rintro e w9 ⟨rfl, rfl⟩)
      go_ret
      exact ⟨by simp [hb1], HBr.out⟩

end Go.Proofs.Ytmhdckpmkgkglaa
