/- The walk of lamplightlaw06.WireEdits. -/
import Derived.Test.YtcdanimdkkhamaaXe
set_option linter.unusedVariables false
set_option linter.unusedSimpArgs false
namespace Go.Proofs.Ytcdanimdkkhamaa
open Go.RowKit

theorem xor_num (a : UInt8) (x : Nat) (hx : x < 256) : bits .xor .u8 (a.toNat : Int) (x : Int) = ((a.toNat ^^^ x : Nat) : Int) := by
  have ha := a.toNat_lt
  show IntKind.u8.wrap ((BitVec.ofInt 8 (a.toNat : Int) ^^^ BitVec.ofInt 8 (x : Int)).toNat : Int) = _
  rw [BitVec.toNat_xor, BitVec.ofInt_natCast, BitVec.ofInt_natCast, BitVec.toNat_ofNat, BitVec.toNat_ofNat, Nat.mod_eq_of_lt (by omega), Nat.mod_eq_of_lt hx, IntKind.wrap_u8']
  have : a.toNat ^^^ x < 2 ^ 8 := Nat.xor_lt_two_pow (by omega) (by omega)
  omega

/-- What an edit makes of bytes. -/
def editE (b : List UInt8) (n : Int) (x : Nat) : List UInt8 := if b.length = 0 then b else editF b (n.toNat % b.length) (x : Int)
theorem editE_len (b : List UInt8) (n : Int) (x : Nat) : (editE b n x).length = b.length := by
  unfold editE; split <;> simp [editF]
theorem of_edit (b : List UInt8) (n : Int) (x : Nat) : FT.of ⟨4, n, x, []⟩ b = [editE b n x] := by
  simp [FT.of, editE, FT.pos]
theorem of_cut (b : List UInt8) (n : Int) : FT.of ⟨5, n, 0, []⟩ b = [b.take n.toNat] := by simp [FT.of, FT.pos]
theorem edit_byte (a : UInt8) (x : Nat) (hx : x < 256) : (UInt8.ofNat (bits .xor .u8 (a.toNat : Int) (x : Int)).toNat).toNat = a.toNat ^^^ x := by
  rw [xor_num a x hx]
  have ha := a.toNat_lt
  have : a.toNat ^^^ x < 2 ^ 8 := Nat.xor_lt_two_pow (by omega) (by omega)
  simp only [Int.toNat_natCast, UInt8.toNat_ofNat']
  omega
/-- Where the edit changes, and what. -/
theorem editE_at (b : List UInt8) (n : Int) (x : Nat) (hx : x < 256) (j : Nat) (hj : j < b.length) :
    ((editE b n x).getD j 0).toNat = if j = n.toNat % b.length then (b.getD j 0).toNat ^^^ x else (b.getD j 0).toNat := by
  unfold editE
  rw [if_neg (by omega)]
  unfold editF
  split
  · rename_i h
    rw [← h]
    have : (b.set j (UInt8.ofNat (bits .xor .u8 ((b.getD j 0).toNat : Int) (x : Int)).toNat)).getD j 0 = UInt8.ofNat (bits .xor .u8 ((b.getD j 0).toNat : Int) (x : Int)).toNat := by
      simp [List.getD, hj]
    rw [this, edit_byte _ _ hx]
  · rename_i h
    congr 1
    simp [List.getD, List.getElem?_set_ne (fun e => h e.symm)]
theorem editE_twice (b : List UInt8) (n : Int) (x : Nat) (hx : x < 256) : editE (editE b n x) n x = b := by
  apply List.ext_getElem
  · rw [editE_len, editE_len]
  · intro j h1 h2
    have h3 : j < (editE b n x).length := by rw [editE_len]; exact h2
    have e1 := editE_at (editE b n x) n x hx j h3
    have e2 := editE_at b n x hx j h2
    rw [editE_len, e2] at e1
    apply UInt8.toNat_inj.1
    have e3 : (editE (editE b n x) n x)[j] = (editE (editE b n x) n x).getD j 0 := by simp [List.getD, List.getElem?_eq_getElem h1]
    have e4 : b[j] = b.getD j 0 := by simp [List.getD, List.getElem?_eq_getElem h2]
    rw [e3, e4, e1]
    split
    · rw [Nat.xor_assoc, Nat.xor_self, Nat.xor_zero]
    · rfl
/-- How many bytes are changed among the first i. -/
def chg (b : List UInt8) (n : Int) (x i : Nat) : Nat := if x ≠ 0 ∧ n.toNat % b.length < i then 1 else 0
theorem chg_all (b : List UInt8) (n : Int) (x : Nat) (h : 0 < b.length) : chg b n x b.length = if x ≠ 0 then 1 else 0 := by
  have := Nat.mod_lt n.toNat h
  unfold chg
  simp [this]
theorem fault_any (w : World) (k n : Int) (x : Nat) (hn : n ≤ 9223372036854775807) (hx : x < 256) : FaultV w (.agg #[.int .i64 k, .int .i64 n, .int .u8 (x : Int), .slice none 0 0]) ⟨k, n, x, []⟩ :=
  ⟨none, 0, rfl, ⟨none, 0, rfl, Nat.le_refl _, by omega, fun _ => ⟨rfl, rfl⟩, fun ad h => by cases h⟩, hn, by show (0 : Int) ≤ x; omega, by show (x : Int) ≤ 255; omega⟩
theorem own_byte {w : World} {B g c : Nat} {l : List UInt8} (h : w.ownsRow B 5 1 (.slice (some ⟨g, 0, none⟩) l.length c) l.length (bytesV l)) {j : Nat} (hj : j < l.length) : w.cell? ⟨g, j, none⟩ = some (.int .u8 ((l.getD j 0).toNat : Int)) := by
  have h1 := h.cells (g := g) rfl j _ (bytesV_at l j hj)
  have h2 : (⟨g, 0, none⟩ : Addr).add j = ⟨g, j, none⟩ := by unfold Addr.add; split <;> simp_all
  rwa [h2] at h1

theorem rows_small'' {w : World} {B : Nat} {A : Option Addr} {c : Nat} {x : List UInt8} (h : w.ownsRow B 5 1 (.slice A x.length c) x.length (bytesV x)) (hx : x.length ≤ 200) : ∀ n, (convert 28 9 (.slice A x.length c)).run Try.prog (w.drewN n) = .ok (.string ⟨x.toArray⟩) (w.drewN n) :=
  fun n => conv_bytes _ _ _ ((own_reads h (by omega)).below (below_drewN (Below.refl _ _) n))
theorem trivialKeep {wi w w2 : World} {bx g : Nat} {c0 c1 c2 c3 c4 : Value} (h : Below wi.heap.size wi w ∧ w.cell? ⟨bx, 0, none⟩ = some c0 ∧ w.cell? ⟨bx, 1, none⟩ = some c1 ∧ w.cell? ⟨bx, 2, none⟩ = some c2 ∧ w.cell? ⟨bx, 3, none⟩ = some c3 ∧ w.cell? ⟨g, 0, none⟩ = some c4) (hb : Below w.heap.size w w2) :
    Below wi.heap.size wi w2 ∧ w2.cell? ⟨bx, 0, none⟩ = some c0 ∧ w2.cell? ⟨bx, 1, none⟩ = some c1 ∧ w2.cell? ⟨bx, 2, none⟩ = some c2 ∧ w2.cell? ⟨bx, 3, none⟩ = some c3 ∧ w2.cell? ⟨g, 0, none⟩ = some c4 :=
  have f : ∀ {q : Addr} {v : Value}, w.cell? q = some v → w2.cell? q = some v := fun hc => (hb.cell (World.block_lt_of_cell? w _ hc)).trans hc
  ⟨h.1.trans (hb.mono h.1.size), f h.2.1, f h.2.2.1, f h.2.2.2.1, f h.2.2.2.2.1, f h.2.2.2.2.2⟩

set_option maxHeartbeats 4000000 in
set_option maxRecDepth 100000 in
theorem wedits_walk (a0 : Option Addr) (len0 cap0 : Nat) (z0 : List Int) (a1 : Int) (a2 : Int) (w : World) (w0 : IsRow8 w a0 len0 cap0 z0) (w1 : (Lit.int .i64 a1).wf = true) (w2 : (Lit.int .u8 a2).wf = true) :
    Calls Try.prog 8 #[.slice a0 len0 cap0, .int .i64 a1, .int .u8 a2] w fun e w' => e = .returned (.bool true) ∧ Below w.heap.size w w' := by
  have hn2 := (wf_i64 w1).2
  obtain ⟨hx0, hx1⟩ := wf_u8 w2
  obtain ⟨x, rfl⟩ : ∃ x : Nat, a2 = (x : Int) := ⟨a2.toNat, by omega⟩
  have hx : x < 256 := by omega
  have hcc := w0.cap
  obtain ⟨m, hm1, hm2, hmin⟩ : ∃ m : Nat, m ≤ len0 ∧ m ≤ 200 ∧ (if (200 : Int) < (len0 : Int) then (200 : Int) else (len0 : Int)) = (m : Int) := by
    by_cases h : 200 < len0
    · exact ⟨200, by omega, by omega, by rw [if_pos (by omega)]; rfl⟩
    · exact ⟨len0, by omega, by omega, by rw [if_neg (by omega)]⟩
  obtain ⟨b, hb⟩ : ∃ b, b = toB (z0.take m) := ⟨_, rfl⟩
  have hrd : ReadsB w (.slice a0 m cap0) b := by rw [hb]; exact row_reads (w0.cut hm1) (by omega)
  have hbl : b.length = m := by
    obtain ⟨_, _, he, _⟩ := id hrd
    injection he with _ e2 _
    exact e2.symm
  have HMIN := Lib.hid hmin
  subst hbl
  have HRD := Lib.hid hrd
  have HVC : Hid (∀ A1 n1 c1, Value.slice a0 b.length cap0 = .slice A1 n1 c1 → c1 ≤ 9223372036854775807) := cap_lit hcc.2
  clear hrd hb hmin
  go_enter Try.func8, Try.ntmps8
  go_wp2_with fail
  refine (shown_any _).mono ?_
  rintro e v1 ⟨rfl, hb1⟩
  have HB1 := Lib.hid hb1
  clear hb1
  go_wp2_with fail
  refine (few_any _ a0 len0 cap0 b.length HMIN.out hm1 hcc.1).mono ?_
  rintro e v2 ⟨rfl, rfl⟩
  have hbx : Below v1.heap.size v1 (v1.alloc (.cells #[.int .i64 4, .int .i64 a1, .int .u8 (x : Int), .slice none 0 0] 30)) := (Below.refl _ _).alloc (Nat.le_refl _) _
  have HBX : Hid (Below w.heap.size w (v1.alloc (.cells #[.int .i64 4, .int .i64 a1, .int .u8 (x : Int), .slice none 0 0] 30))) := HB1.out.trans (hbx.mono HB1.out.size)
  clear hbx
  go_wp2_with fail
  refine (of_any _ _ (.slice a0 b.length cap0) ⟨4, a1, x, []⟩ b (fault_any _ 4 a1 x hn2 hx) (HRD.out.below HBX.out) hm2 HVC.out).mono ?_
  rintro e w5 ⟨v9, rfl, hr9, hb9⟩
  rw [of_edit] at hr9
  have hel := editE_len b a1 x
  obtain ⟨E, hE⟩ : ∃ E, E = editE b a1 x := ⟨_, rfl⟩
  rw [← hE] at hr9 hel
  have hr9' : RowsAt w5 0 v9 [E] := hr9.lower (Nat.zero_le _)
  obtain ⟨g, c9, u9, rfl, ho9, hu9⟩ := hr9'.one
  obtain ⟨AE, cE, rfl⟩ := own_slice hu9
  have hx9 := blk_below' (blk_new v1 (.cells #[.int .i64 4, .int .i64 a1, .int .u8 (x : Int), .slice none 0 0] 30)) hb9
  have HX9 := Lib.hid hx9
  have HB9 : Hid (Below w.heap.size w w5) := HBX.out.trans (hb9.mono HBX.out.size)
  have hg0 : w5.cell? ⟨g, 0, none⟩ = some (.slice AE E.length cE) := by
    have h1 := ho9.cells (g := g) rfl 0 _ rfl
    exact h1
  rw [hel] at hg0
  have HG0 := Lib.hid hg0
  have HU9 := Lib.hid hu9
  have HE := Lib.hid hE
  have HEL := Lib.hid hel
  have hcE : c9 ≤ 9223372036854775807 ∧ 1 ≤ c9 := by
    rcases ho9.2 with ⟨h0, _⟩ | ⟨g', cap, cur, he, _, hh, h1, h2, _⟩
    · cases h0
    · cases he; unfold maxLen at h2; exact ⟨h2, h1⟩
  have hcE2 : cE ≤ 9223372036854775807 := by
    rcases hu9.2 with ⟨h0, _⟩ | ⟨g', cap, cur, he, _, hh, h1, h2, _⟩
    · injection h0 with _ _ e3; omega
    · injection he with _ _ e3; unfold maxLen at h2; omega
  clear hr9 hr9' ho9 hu9 hE hel hb9 hx9 HBX HB1
  go_wp2_with fail
  go_loopw [10, 11] (fun ch i wr => ∃ j : Nat, j ≤ b.length ∧ i = .int .i64 j ∧ ch = .int .i64 ((chg b a1 x j : Nat) : Int) ∧ Below w5.heap.size w5 wr) (fun _ i _ => b.length - (intOf i).toNat)
  case atStart => exact ⟨0, Nat.zero_le _, rfl, by simp [chg], Below.refl _ _⟩
  case round =>
    obtain ⟨j, hj, rfl, rfl, hbr⟩ := hrel
    obtain ⟨wi, rfl⟩ : ∃ x, x = wr := ⟨wr, rfl⟩
    have HBR := Lib.hid hbr
    have hg0' : wi.cell? ⟨g, 0, none⟩ = some (.slice AE b.length cE) := (hbr.cell (World.block_lt_of_cell? w5 _ HG0.out)).trans HG0.out
    by_cases hlt : j < b.length
    · have hu := own_below HU9.out hbr
      have hlt' : j < E.length := by rw [HEL.out]; exact hlt
      obtain ⟨g3, c3, he, _, _⟩ := own_some hu (by omega)
      cases he
      have hev := own_byte hu hlt'
      have hr := HRD.out.below (HB9.out.trans (hbr.mono HB9.out.size))
      obtain ⟨A', c', he, h2, _, hnil, hcell⟩ := id hr
      cases he
      obtain ⟨ad, rfl⟩ : ∃ ad, a0 = some ad := by
        cases a0 with
        | none => have := (hnil rfl).1; subst this; simp at hlt
        | some ad => exact ⟨ad, rfl⟩
      have hbv := hcell ad rfl j _ (bytesV_at b j hlt)
      have hat := editE_at b a1 x hx j hlt
      rw [← HE.out] at hat
      have hxn := xor_num (E.getD j 0) (b.getD j 0).toNat (b.getD j 0).toNat_lt
      have hblt := (b.getD j 0).toNat_lt
      obtain ⟨ev, hev0⟩ : ∃ ev : Nat, ev = (E.getD j 0).toNat := ⟨_, rfl⟩
      obtain ⟨bv, hbv0⟩ : ∃ bv : Nat, bv = (b.getD j 0).toNat := ⟨_, rfl⟩
      rw [← hev0] at hev hat hxn
      rw [← hbv0] at hbv hat hxn hblt
      by_cases heq : ev = bv
      · have hch : chg b a1 x (j + 1) = chg b a1 x j := by
          unfold chg
          by_cases hx0' : x = 0
          · simp [hx0']
          · by_cases hp : j = a1.toNat % b.length
            · rw [if_pos hp] at hat
              exfalso
              have h1 : bv ^^^ x = bv := by omega
              have h2 : bv ^^^ (bv ^^^ x) = bv ^^^ bv := by rw [h1]
              rw [← Nat.xor_assoc, Nat.xor_self, Nat.zero_xor] at h2
              exact hx0' h2
            · have : (a1.toNat % b.length < j + 1) = (a1.toNat % b.length < j) := by
                apply propext
                omega
              simp only [this]
        rw [heq] at hev
        have HCH := Lib.hid hch
        clear hch hat hxn hev0 hbv0 hr hcell hnil hu hbr heq
        go_wp2_with fail
        go_quiet (fail)
        go_wp2_with fail
        go_roundw
        case rel => exact ⟨j + 1, by omega, by go_num, by rw [HCH.out], below_drewN HBR.out _⟩
        case measure => simp [intOf]; omega
      · have hp : j = a1.toNat % b.length := by
          apply Classical.byContradiction
          intro hp
          rw [if_neg hp] at hat
          exact heq hat
        rw [if_pos hp] at hat
        have hxx : bits .xor .u8 (ev : Int) (bv : Int) = (x : Int) := by
          rw [hxn, hat, Nat.xor_comm bv x, Nat.xor_assoc, Nat.xor_self, Nat.xor_zero]
        have hne : ((ev : Int) != (bv : Int)) = true := by simp; omega
        have hx0' : x ≠ 0 := by
          intro h
          rw [h, Nat.xor_zero] at hat
          exact heq hat
        have hc0 : chg b a1 x j = 0 := by unfold chg; rw [if_neg (by omega)]
        have hc1 : chg b a1 x (j + 1) = 1 := by unfold chg; rw [if_pos ⟨hx0', by omega⟩]
        rw [hc0]
        have HC1 := Lib.hid hc1
        clear hc0 hc1 hat hxn hev0 hbv0 hr hcell hnil hu hbr heq hp
        go_wp2_with fail
        go_quiet (fail)
        go_wp2_with fail
        go_quiet (fail)
        go_wp2_with fail
        go_roundw
        case rel => exact ⟨j + 1, by omega, by go_num, by rw [HC1.out]; rfl, by repeat' (first | (with_reducible exact HBR.out) | (with_reducible refine below_drewN ?_ _) | (with_reducible refine Below.drew ?_))⟩
        case measure => simp [intOf]; omega
    · obtain rfl : j = b.length := by omega
      have hbw := HB9.out.trans (hbr.mono HB9.out.size)
      have hxi := blk_below' HX9.out hbr
      have x0 := blk_cell hxi 0
      have x1 := blk_cell hxi 1
      have x2 := blk_cell hxi 2
      have x3 := blk_cell hxi 3
      simp at x0 x1 x2 x3
      have hue : ReadsB wi (.slice AE b.length cE) E := by
        have h1 := own_reads (own_below HU9.out hbr) (by rw [HEL.out]; omega)
        rwa [HEL.out] at h1
      have HUE := Lib.hid hue
      have HBW := Lib.hid hbw
      have hcut : b.take (b.take a1.toNat).length = b.take a1.toNat := by rw [List.length_take, ← List.take_eq_take_min]
      obtain ⟨Z, hZ⟩ : ∃ Z, Z = b.take a1.toNat := ⟨_, rfl⟩
      have hZl : Z.length ≤ b.length := by rw [hZ]; simp; omega
      have hE2 : editE E a1 x = b := by rw [HE.out]; exact editE_twice b a1 x hx
      have HZ := Lib.hid hZ
      have HE2 := Lib.hid hE2
      rw [← hZ] at hcut
      have HCUT := Lib.hid hcut
      clear hZ hE2 hcut hxi hbr hbw hue
      go_upto_region 15 with fail
      go_region_held3 (fun w' => Below wi.heap.size wi w' ∧ w'.cell? ⟨v1.heap.size, 0, none⟩ = some (.int .i64 4) ∧ w'.cell? ⟨v1.heap.size, 1, none⟩ = some (.int .i64 a1) ∧ w'.cell? ⟨v1.heap.size, 2, none⟩ = some (.int .u8 (x : Int)) ∧ w'.cell? ⟨v1.heap.size, 3, none⟩ = some (.slice none 0 0) ∧ w'.cell? ⟨g, 0, none⟩ = some (.slice AE b.length cE))
        ((first
          | exact ⟨(Below.refl _ _).drew, x0, x1, x2, x3, hg0'⟩
          | assumption
          | exact trivialKeep (by assumption) (by assumption)))
        ((first
          | (go_at_call 14; refine (of_any _ _ (.slice AE b.length cE) ⟨4, a1, x, []⟩ E (fault_any _ 4 a1 x hn2 hx) ?_ ?_ (cap_lit hcE2)).mono ?_; exact HUE.out.below (‹Below wi.heap.size wi _ ∧ _›).1; (rw [HEL.out]; exact hm2); rintro e w6 ⟨vY, rfl, hY, hbY⟩)))
      have hbi : Below wi.heap.size wi w6 := (‹Below wi.heap.size wi w6 ∧ _›).1
      rw [of_edit, HE2.out] at hY
      have hY' : RowsAt w6 0 vY [b] := hY.lower (Nat.zero_le _)
      obtain ⟨gY, cY, uY, rfl, hoY, huY⟩ := hY'.one
      obtain ⟨AY, dY, rfl⟩ := own_slice huY
      have HOY := Lib.hid hoY
      have HUY := Lib.hid huY
      have HB6 : Hid (Below w.heap.size w w6) := HBW.out.trans (hbi.mono HBW.out.size)
      have hcY : cY ≤ 9223372036854775807 ∧ 1 ≤ cY := by
        rcases hoY.2 with ⟨h0, _⟩ | ⟨g', cap, cur, he, _, hh, h1, h2, _⟩
        · cases h0
        · cases he; unfold maxLen at h2; exact ⟨h2, h1⟩
      clear hY hY' hoY huY hbi hbY
      go_wp2_with fail
      refine (of_any _ _ (.slice a0 b.length cap0) ⟨5, a1, 0, []⟩ b (fault_lit _ 5 a1 hn2) (HRD.out.below HB6.out) hm2 HVC.out).mono ?_
      rintro e w7 ⟨vZ, rfl, hrZ, hbZ⟩
      rw [of_cut, ← HZ.out] at hrZ
      have hrZ' : RowsAt w7 0 vZ [Z] := hrZ.lower (Nat.zero_le _)
      obtain ⟨gZ, cZ, uZ, rfl, hoZ, huZ⟩ := hrZ'.one
      obtain ⟨AZ, dZ, rfl⟩ := own_slice huZ
      have hcZ : cZ ≤ 9223372036854775807 ∧ 1 ≤ cZ := by
        rcases hoZ.2 with ⟨h0, _⟩ | ⟨g', cap, cur, he, _, hh, h1, h2, _⟩
        · cases h0
        · cases he; unfold maxLen at h2; exact ⟨h2, h1⟩
      have HB7 : Hid (Below w.heap.size w w7) := HB6.out.trans (hbZ.mono HB6.out.size)
      have hoY := own_below HOY.out hbZ
      have huY := own_below HUY.out hbZ
      have y0 : w7.cell? ⟨gY, 0, none⟩ = some (.slice AY b.length dY) := hoY.cells (g := gY) rfl 0 _ rfl
      have z1 : w7.cell? ⟨gZ, 0, none⟩ = some (.slice AZ Z.length dZ) := hoZ.cells (g := gZ) rfl 0 _ rfl
      have cv1 : ∀ k, (convert 28 9 (.slice AY b.length dY)).run Try.prog (w7.drewN k) = .ok (.string ⟨b.toArray⟩) (w7.drewN k) := rows_small'' huY hm2
      have cv2 : ∀ k, (convert 28 9 (.slice AZ Z.length dZ)).run Try.prog (w7.drewN k) = .ok (.string ⟨Z.toArray⟩) (w7.drewN k) := rows_small'' huZ (by omega)
      have cv3 : ∀ k, (convert 28 9 (.slice a0 b.length cap0)).run Try.prog (w7.drewN k) = .ok (.string ⟨b.toArray⟩) (w7.drewN k) := fun k => conv_bytes _ _ _ ((HRD.out.below HB7.out).below (below_drewN (Below.refl _ _) k))
      have cv4 : ∀ k, (convert 28 9 (.slice a0 Z.length cap0)).run Try.prog (w7.drewN k) = .ok (.string ⟨Z.toArray⟩) (w7.drewN k) := fun k => by
        have h1 := (HRD.out.below HB7.out).cut hZl
        rw [HCUT.out] at h1
        exact conv_bytes _ _ _ (h1.below (below_drewN (Below.refl _ _) k))
      have hd1 : decide (b.length < Z.length) = false := by simp; omega
      clear hrZ hrZ' hoZ huZ hoY huY hbZ
      go_wp2_with fail
      go_quiet (fail)
      by_cases hb0 : b.length = 0
      · have hch : chg b a1 x b.length = 0 := by
          unfold chg
          rw [hb0]
          simp
        have hbe : b = [] := List.eq_nil_of_length_eq_zero hb0
        have hd2 : decide (0 < b.length) = false := by simp [hbe]
        rw [hch]
        clear hch hb0 hbe
        by_cases hx00 : x = 0
        · subst hx00
          go_wp2_with fail
          go_ret
          exact ⟨rfl, below_drewN HB7.out _⟩
        · have hxd : ((x : Int) != 0) = true := by simp; omega
          go_wp2_with fail
          go_ret
          exact ⟨rfl, below_drewN HB7.out _⟩
      · have hch := chg_all b a1 x (by omega)
        have hbl0 : 0 < b.length := by omega
        have hd2 : decide (0 < b.length) = true := by simpa using hbl0
        by_cases hx00 : x = 0
        · subst hx00
          rw [hch, if_neg (by omega)]
          clear hch
          go_wp2_with fail
          go_ret
          exact ⟨rfl, below_drewN HB7.out _⟩
        · have hxd : ((x : Int) != 0) = true := by simp; omega
          rw [hch, if_pos hx00]
          clear hch
          go_wp2_with fail
          go_ret
          exact ⟨rfl, below_drewN HB7.out _⟩
end Go.Proofs.Ytcdanimdkkhamaa
