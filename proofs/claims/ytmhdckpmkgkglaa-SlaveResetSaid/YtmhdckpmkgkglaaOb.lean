/- Ops that came in. The line: its session is opened. -/
import Derived.Test.YtmhdckpmkgkglaaNb
import Derived.Test.YtmhdckpmkgkglaaNo
import Derived.BigQuiet
set_option linter.unusedVariables false
set_option linter.unusedSimpArgs false
namespace Go.Proofs.Ytmhdckpmkgkglaa
open Go.RowKit

section
open Go.ChangeShapes Go.WideShapes
def OpsIn (w : World) (a : Option Addr) (len cap : Nat) : Prop :=
  (a = none ∧ len = 0 ∧ cap = 0) ∨ ∃ x, a = some x ∧ len ≤ cap ∧ cap ≤ maxLen ∧ ∀ i, i < len → ∃ k : Int, w.cell? (x.add i) = some (.int .i64 k)
section
variable {H : Type} {enc : TypeId × Value → H} {w : World} {held : Bool}
theorem ops_in {fuel : Nat} {a : Option Addr} {len cap : Nat} {d : DataW H × List MemPlace} (h : DataW.trod enc Try.prog w 0 (fun _ => true) held fuel 54 [.slice a len cap] = some d) : OpsIn w a len cap := by
  rcases Deep.open_slice1 Try.underlying54 (by kernel_rfl) h with ⟨hcs, _⟩ | ⟨x, l, c, m, n, V, D, Pl, hcs, _, hl, hm, hmm, _, hx⟩
  · simp only [List.cons.injEq, and_true, Value.slice.injEq] at hcs
    exact .inl hcs
  · simp only [List.cons.injEq, and_true, Value.slice.injEq] at hcs
    obtain ⟨rfl, rfl, rfl⟩ := hcs
    refine .inr ⟨x, rfl, hl, hm, fun i hi => ?_⟩
    obtain ⟨h1, h2⟩ := hx i (by rw [hmm]; simp; omega)
    have h3 : Try.prog.cellsOf 3 = 1 := by kernel_rfl
    obtain ⟨y0, k, _, hl1, f0⟩ := trod_struct1 Try.underlying59 h2
    simp [h3] at f0
    obtain ⟨n0, e0, _⟩ := DataW.trod_int Try.underlying3 f0
    simp only [List.cons.injEq, and_true] at e0
    exact ⟨n0, e0 ▸ h1⟩
end
theorem OpsIn.below {w w1 : World} {a : Option Addr} {len cap : Nat} (h : OpsIn w a len cap) (hb : Below w.heap.size w w1) : OpsIn w1 a len cap := by
  rcases h with h | ⟨x, h1, h2, h3, h4⟩
  · exact .inl h
  · refine .inr ⟨x, h1, h2, h3, fun i hi => ?_⟩
    obtain ⟨b, h5⟩ := h4 i hi
    exact ⟨b, (hb.cell (World.block_lt_of_cell? w _ h5)).trans h5⟩
theorem OpsIn.len {w : World} {a : Option Addr} {len cap : Nat} (h : OpsIn w a len cap) : len ≤ 9223372036854775807 := by
  rcases h with ⟨_, h, _⟩ | ⟨_, _, h1, h2, _⟩
  · omega
  · unfold maxLen at h2; omega
end
theorem open_next : (MS.new 3 100000).nextF = ⟨3, 1, 1, 0, 0, []⟩ := by
  unfold MS.nextF MS.new
  rw [if_pos (by decide)]
theorem open_take : takeF (SS.new 3) ⟨3, 1, 1, 0, 0, []⟩ = (⟨3, 4, 1, 0, 0, []⟩, [], true, ⟨3, 1, 0, 0, []⟩) := by
  unfold takeF SS.new
  rw [if_neg (by decide), if_pos (by decide)]
theorem open_heard : (MS.new 3 100000).heardF ⟨3, 4, 1, 0, 0, []⟩ = ([], true, ⟨0, 0, 3, 1, 100000, 1, 1, 0, []⟩) := by
  unfold MS.heardF MS.new
  rw [if_neg (by decide), if_pos (by decide), if_neg (by decide), if_neg (by decide)]
  rfl
theorem SlaveAt.lower {w : World} {B B' g : Nat} {S : SS} (h : SlaveAt w B g S) (hb : B' ≤ B) : SlaveAt w B' g S := by
  obtain ⟨v, hg, ho⟩ := h.ex
  exact ⟨Nat.le_trans hb h.ge, h.t01, h.x01, h.len, v, hg, own_lower ho hb⟩
theorem wire_nil (w : World) (B : Nat) : WireIn w B (.slice none 0 0) [] := ⟨⟨rfl, .inl ⟨rfl, rfl⟩⟩, fun p hp => by cases hp⟩

set_option maxHeartbeats 4000000 in
set_option maxRecDepth 100000 in
theorem line_opened (w : World) (S0 : LS) (hS0 : S0 = { M := ⟨0, 0, 3, 1, 100000, 1, 1, 0, []⟩, S := ⟨3, 1, 0, 0, []⟩, down := [], up := [], sent := 0, came := 0, offered := 0, heard := 0 }) :
    Calls Try.prog 21 #[.int .i64 100000] w fun e w' => ∃ x gm gs, e = .returned (.pointer (some ⟨x, 0, none⟩)) ∧ Below w.heap.size w w' ∧ LineAt w' w.heap.size x gm gs S0 := by
  go_enter Try.func21, Try.ntmps21
  go_wp2_with fail
  refine (master_new _ 3 100000 (by omega)).mono ?_
  rintro e w1 ⟨rfl, hb1, hm1⟩
  have HB1 := Lib.hid hb1
  have HM1 := Lib.hid hm1
  clear hb1 hm1
  go_wp2_with fail
  refine (slave_new _ 3).mono ?_
  rintro e w2 ⟨rfl, hb2, hs2⟩
  have HB2 := Lib.hid (HB1.out.trans (hb2.mono HB1.out.size))
  have HM2 := Lib.hid (HM1.out.below hb2)
  have HS2 := Lib.hid hs2
  clear hb2 hs2
  go_wp2_with fail
  refine (master_next _ w.heap.size w.heap.size (MS.new 3 100000) HM2.out).mono ?_
  rw [open_next]
  rintro e w3 ⟨v1, rfl, ho3, hb3⟩
  obtain ⟨A3, c3, rfl⟩ := own_slice ho3
  have HB3 := Lib.hid (HB2.out.trans (hb3.mono HB2.out.size))
  have HM3 := Lib.hid (HM2.out.below hb3)
  have HS3 := Lib.hid (HS2.out.below hb3)
  have HR3 : Hid (ReadsB w3 (.slice A3 0 c3) []) := own_reads ho3 (by simp)
  have HN3 : Hid (NotIn w1.heap.size (.slice A3 0 c3) []) := fun ad n c e hne => absurd rfl hne
  have h31 : w.heap.size ≤ w1.heap.size := HB1.out.size
  clear hb3 ho3 HB2 HM2 HS2 HB1 HM1
  simp only [List.length_nil]
  go_wp2_with fail
  refine (slave_take _ w1.heap.size w1.heap.size (SS.new 3) ⟨3, 1, 0, 0, []⟩ ⟨3, 1, 1, 0, 0, []⟩ ⟨3, 4, 1, 0, 0, []⟩ [] true A3 0 c3 HS3.out HR3.out HN3.out open_take).mono ?_
  rintro e w4 ⟨v1, v2, rfl, ho1, ho2, hg4, hs4⟩
  obtain ⟨A4, c4, rfl⟩ := own_slice ho1
  obtain ⟨A5, c5, rfl⟩ := own_slice ho2
  have k4 : Kept w.heap.size [43] w3 w4 := by obtain ⟨vv, hv, _⟩ := HS3.out.ex; exact Kept.of_grown hg4 hv (by simp) h31
  have hb4 : Below w.heap.size w w4 := stepK HB3.out HB3.out.size (Below.refl _ _) k4 (Nat.le_refl _)
  have hm4 := HM3.out.kept k4 (by decide) (by decide) (by decide)
  have HB4 := Lib.hid hb4
  have HM4 := Lib.hid hm4
  have HS4 := Lib.hid hs4
  have HO4 := Lib.hid ho1
  have h34 : w3.heap.size ≤ w4.heap.size := hg4.size
  have h40 : w.heap.size ≤ w4.heap.size := hb4.size
  clear hg4 hb4 hm4 hs4 ho1 ho2 k4 HB3 HM3 HS3 HR3 HN3
  simp only [List.length_nil]
  go_wp2_with fail
  have hal : Below w4.heap.size w4 (w4.alloc (.cells #[.int .u8 3, .int .u8 4, .int .u8 1, .int .u8 0, .int .u8 0, .slice A4 0 c4] 29)) := (Below.refl _ _).alloc (Nat.le_refl _) _
  refine (masterK_heard _ w.heap.size w.heap.size (MS.new 3 100000) ⟨0, 0, 3, 1, 100000, 1, 1, 0, []⟩ ⟨3, 4, 1, 0, 0, []⟩ A4 0 c4 [] true rfl (HM4.out.below hal) (own_reads (own_below HO4.out hal) (by simp)) (fun ad n c e hne => absurd rfl hne) (by decide) (by decide) open_heard).mono ?_
  rintro e w5 ⟨r5, rfl, ho5, hk5, hm5⟩
  have HB5 : Hid (Below w.heap.size w w5) := stepK HB4.out h40 hal hk5 (Nat.le_refl _)
  have HS5 : Hid (SlaveAt w5 w1.heap.size w1.heap.size ⟨3, 1, 0, 0, []⟩) := (HS4.out.below hal).kept hk5 (by decide) (by decide)
  have HM5 := Lib.hid hm5
  clear ho5 hk5 hm5 hal HB4 HM4 HS4 HO4
  go_wp2_with fail
  refine (master_state _ w.heap.size w.heap.size ⟨0, 0, 3, 1, 100000, 1, 1, 0, []⟩ HM5.out).mono ?_
  rintro e w6 ⟨rfl, rfl⟩
  go_wp2_with fail
  go_ret
  have hal : Below w5.heap.size w5 (w5.alloc (.cells #[.pointer (some ⟨w.heap.size, 0, none⟩), .pointer (some ⟨w1.heap.size, 0, none⟩), .slice none 0 0, .slice none 0 0, .int .i64 0, .int .i64 0, .int .i64 0, .int .i64 0] 63)) := (Below.refl _ _).alloc (Nat.le_refl _) _
  have h55 := HB5.out.size
  refine ⟨w5.heap.size, w.heap.size, w1.heap.size, rfl, HB5.out.trans (hal.mono h55), .slice none 0 0, .slice none 0 0, [], [], ?_⟩
  subst hS0
  exact ⟨h55, blk_new _ _, HM5.out.below hal, (HS5.out.below hal).lower h31, wire_nil _ _, wire_nil _ _, rfl, rfl, fun k hk => by cases hk⟩
end Go.Proofs.Ytmhdckpmkgkglaa
