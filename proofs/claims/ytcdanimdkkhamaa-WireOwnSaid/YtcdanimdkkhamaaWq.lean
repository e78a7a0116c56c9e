/- The wire's small calls: New, Len, few, n, rows. -/
import Derived.Test.YtcdanimdkkhamaaWp
import Derived.OwnWalk
import Derived.LoopTactic
set_option linter.unusedVariables false
set_option linter.unusedSimpArgs false
namespace Go.Proofs.Ytcdanimdkkhamaa
open Go.RowKit

set_option maxHeartbeats 1000000 in
theorem wire_new (w : World) (n : Int) (room : Nat) (h : (if n < 1 then 1 else n) = (room : Int)) (hr : room ≤ 9223372036854775807) :
    Calls Try.prog 10 #[.int .i64 n] w fun e w' => e = .returned (.pointer (some ⟨w.heap.size, 0, none⟩)) ∧ Below w.heap.size w w' ∧ WireAt w' w.heap.size w.heap.size room [] := by
  go_enter Try.func10, Try.ntmps10
  go_wp2_with fail
  go_returns
  refine ⟨rfl, (Below.refl _ _).alloc (Nat.le_refl _) _, ⟨Nat.le_refl _, hr, by simp, .slice none 0 0, [], rfl, blk_new _ _, OffRow.nil _ _ _ _, fun i u p hu => by simp at hu⟩⟩

set_option maxHeartbeats 1000000 in
theorem ref_new (w : World) (n : Int) (room : Nat) (h : (if n < 1 then 1 else n) = (room : Int)) (hr : room ≤ 9223372036854775807) :
    Calls Try.prog 11 #[.int .i64 n] w fun e w' => e = .returned (.pointer (some ⟨w.heap.size, 0, none⟩)) ∧ Below w.heap.size w w' ∧ RefAt w' w.heap.size w.heap.size room [] := by
  go_enter Try.func11, Try.ntmps11
  go_wp2_with fail
  go_returns
  refine ⟨rfl, (Below.refl _ _).alloc (Nat.le_refl _) _, ⟨Nat.le_refl _, hr, by simp, .slice none 0 0, blk_new _ _, OffRow.nil _ _ _ _⟩⟩

set_option maxHeartbeats 1000000 in
theorem wire_len (w : World) (B g room : Nat) (l : List (List UInt8 × Nat)) (h : WireAt w B g room l) :
    Calls Try.prog 21 #[.pointer (some ⟨g, 0, none⟩)] w fun e w' => e = .returned (.int .i64 (l.length : Int)) ∧ w = w' := by
  obtain ⟨v, us, hl, hg, ho, hr⟩ := h.ex
  obtain ⟨A, c, rfl⟩ := ho.slice
  have h1 := blk_cell hg 1
  simp at h1
  clear hg ho hr hl h
  go_enter Try.func21, Try.ntmps21
  go_wp2
  go_returns
  exact ⟨rfl, rfl⟩

set_option maxHeartbeats 1000000 in
theorem few_any (w : World) (A : Option Addr) (n c m : Nat) (h : (if (200 : Int) < (n : Int) then (200 : Int) else (n : Int)) = (m : Int)) (hm : m ≤ n) (hc : n ≤ c) :
    Calls Try.prog 12 #[.slice A n c] w fun e w' => e = .returned (.slice A m c) ∧ w = w' := by
  go_enter Try.func12, Try.ntmps12
  go_wp2
  go_returns
  exact ⟨rfl, rfl⟩

set_option maxHeartbeats 1000000 in
theorem n_any (w : World) (k n x : Int) (v : Value) (p : Nat) (h : max n 0 = (p : Int)) :
    Calls Try.prog 23 #[.agg #[.int .i64 k, .int .i64 n, .int .u8 x, v]] w fun e w' => e = .returned (.int .i64 (p : Int)) ∧ Below w.heap.size w w' := by
  by_cases hn : n < 0
  · obtain rfl : p = 0 := by omega
    clear h
    go_enter Try.func23, Try.ntmps23
    go_wp2
    go_returns
    exact ⟨rfl, (Below.refl _ _).alloc (Nat.le_refl _) _⟩
  · obtain rfl : n = (p : Int) := by omega
    clear h
    go_enter Try.func23, Try.ntmps23
    go_wp2
    go_returns
    exact ⟨rfl, (Below.refl _ _).alloc (Nat.le_refl _) _⟩

theorem Try.info28 : (Try.prog.info? 28).map (fun i => (i.zero, i.size, i.bytes)) = some (some (.slice none 0 0), 1, 24) := by kernel_rfl

theorem below_of_none {w w1 : World} (h : w.grownBy w1 none) : Below w.heap.size w w1 := below_grown h (Nat.le_refl _) (fun k e => by cases e)

def RowsI (w wr : World) (r : Nat) (ls : List (List UInt8)) (k : Nat) : Prop :=
  Below w.heap.size w wr ∧ ∃ vs : List Value, wr.ownsRow w.heap.size 28 1 (.slice (some ⟨r, 0, none⟩) ls.length ls.length) ls.length vs ∧ ∀ (i : Nat) (u : Value) (b : List UInt8), i < k → vs[i]? = some u → ls[i]? = some b → wr.ownsRow w.heap.size 5 1 u b.length (bytesV b)

set_option maxHeartbeats 2000000 in
theorem rows_any (w : World) (ad : Addr) (c : Nat) (us : List Value) (ls : List (List UInt8)) (hn : us.length = ls.length) (hc : ls.length ≤ c) (hs : ls.length ≤ 1000) (hcell : ∀ (j : Nat) (u : Value), us[j]? = some u → w.cell? (ad.add j) = some u)
    (hr : ∀ (j : Nat) (u : Value) (b : List UInt8), us[j]? = some u → ls[j]? = some b → ReadsB w u b) :
    Calls Try.prog 22 #[.slice (some ad) ls.length c] w fun e w' => ∃ v, e = .returned v ∧ RowsAt w' w.heap.size v ls ∧ Below w.heap.size w w' := by
  obtain ⟨i0, hi, hz0, hz1, hz2⟩ := info_parts Try.info28
  have HC := Lib.hid hcell
  have HR := Lib.hid hr
  have HN := Lib.hid hn
  clear hcell hr hn
  go_enter Try.func22, Try.ntmps22
  go_wp2_with (refine wpList_make_full _ rfl (.tmp 7) (.tmp 7) 35 rfl w.heap.size 28 i0 (.slice none 0 0) 1 Try.underlying35 hi hz0 hz1 .i64 .i64 _ _ ls.length rfl rfl rfl rfl ?qb2 ?qb3 (Nat.le_refl _) ?_)
  case qb2 => rw [hz2]; omega
  case qb3 => unfold maxLen; omega
  intro w1 ho1 hg1
  have HO1 := Lib.hid ho1
  have HG1 := Lib.hid hg1
  clear ho1 hg1
  go_wp2_with fail
  go_loopw [11] (fun i wr => ∃ k : Nat, k ≤ ls.length ∧ i = .int .i64 k ∧ RowsI w wr w.heap.size ls k) (fun i _ => ls.length - (intOf i).toNat)
  case atStart => exact ⟨0, Nat.zero_le _, rfl, below_of_none HG1.out, _, HO1.out, fun i u b h => by omega⟩
  case round =>
    obtain ⟨k, hk, rfl, hbr, vs, hor, hrr⟩ := hrel
    have HBr := Lib.hid hbr
    have HOr := Lib.hid hor
    have HRr := Lib.hid hrr
    clear hbr hor hrr HO1 HG1
    by_cases hlt : k < ls.length
    · obtain ⟨u, hu⟩ : ∃ u, us[k]? = some u := ⟨_, List.getElem?_eq_getElem (by rw [HN.out]; exact hlt)⟩
      obtain ⟨b, hb⟩ : ∃ b, ls[k]? = some b := ⟨_, List.getElem?_eq_getElem hlt⟩
      have hc0 := HC.out k u hu
      have hrd : Hid (ReadsB wr u b) := (HR.out k u b hu hb).below HBr.out
      have hcu : wr.cell? (ad.add k) = some u := (HBr.out.cell (World.block_lt_of_cell? w _ hc0)).trans hc0
      have HU := Lib.hid hu
      have HB := Lib.hid hb
      clear hu hb hc0
      go_wp2_with fail
      refine (clone_any _ u b hrd.out).mono ?_
      rintro e w2 ⟨v2, rfl, ho2, hb2⟩
      obtain ⟨A2, c2, rfl⟩ := own_slice ho2
      have ho3 := own_below HOr.out hb2
      have hvl : vs.length = ls.length := by have := HOr.out.1; omega
      have f3 := ho3.frozenAt k
      have c3 : ∃ z, w2.cell? ⟨w.heap.size, k, none⟩ = some z := ⟨_, (ho3.cellAt k (by omega)).trans (List.getElem?_eq_getElem (by omega))⟩
      obtain ⟨z, c3⟩ := c3
      have HO2 := Lib.hid ho2
      have HO3 := Lib.hid ho3
      have HB2 := Lib.hid hb2
      have HVL := Lib.hid hvl
      clear ho2 ho3 hb2 hvl
      go_wp2_with fail
      go_roundw
      case rel =>
        obtain ⟨s1, s2⟩ := HO3.out.stored k (.slice A2 b.length c2)
        refine ⟨k + 1, by omega, by go_num, ?_, vs.set k (.slice A2 b.length c2), s1, fun i u' b' hi hu' hb' => ?_⟩
        · have := HBr.out.size
          exact (HBr.out.trans (HB2.out.mono this)).setCell (Nat.le_refl _) _
        · have hne : ∀ {t : TypeId} {w3 : World} {B size n : Nat} {v : Value} {xs : List Value}, w3.ownsRow B 5 size v n xs → w3 = w2 → (w3.setCell ⟨w.heap.size, k, none⟩ (.slice A2 b.length c2)).ownsRow B 5 size v n xs := by
            intro t w3 B size n v xs h0 e
            subst e
            obtain ⟨cs, fr, hty⟩ := own_ty HO3.out w.heap.size rfl
            exact own_keep h0 fun k' hk' => Below.heap_setCell _ _ _ _ (own_ne h0 hty (by decide) k' hk')
          by_cases hik : i = k
          · subst hik
            rw [List.getElem?_set_self (by rw [HVL.out]; exact hlt)] at hu'
            cases hu'
            obtain rfl : b = b' := by have := HB.out; rw [this] at hb'; exact Option.some.inj hb'
            exact hne (t := 5) (own_lower HO2.out HBr.out.size) rfl
          · rw [List.getElem?_set_ne (fun e => hik e.symm)] at hu'
            exact hne (t := 5) (own_below (HRr.out i u' b' (by omega) hu' hb') HB2.out) rfl
      case measure => simp [intOf]; omega
    · have : k = ls.length := by omega
      subst this
      go_wp2_with fail
      go_ret
      exact ⟨_, rfl, ⟨vs, by have := HOr.out.1; omega, HOr.out, fun i u b hu hb => HRr.out i u b (List.getElem?_eq_some_iff.1 hb).1 hu hb⟩, HBr.out⟩
end Go.Proofs.Ytcdanimdkkhamaa
