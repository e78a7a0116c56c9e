/- slices.Clone at bytes. -/
import Derived.Test.YtmhdckpmkgkglaaSa
set_option linter.unusedVariables false
set_option linter.unusedSimpArgs false
namespace Go.Proofs.Ytmhdckpmkgkglaa
open Go.RowKit

theorem Try.info5 : (Try.prog.info? 5).map (fun i => (i.zero, i.size, i.bytes)) = some (some (.int .u8 0), 1, 1) := by kernel_rfl

set_option maxHeartbeats 400000 in
theorem clone_any (w : World) (v : Value) (l : List UInt8) (h : ReadsB w v l) :
    Calls Try.prog 28 #[v] w fun e w' => ∃ v', e = .returned v' ∧ w'.ownsRow w.heap.size 5 1 v' l.length (bytesV l) ∧ Below w.heap.size w w' := by
  obtain ⟨A, c, rfl, hlc, hl, hnil, hcell⟩ := h
  obtain ⟨i0, hi, hz0, hz1, hz2⟩ := info_parts Try.info5
  have q22 : ∀ (w : World) (a : Option Addr) (n c n' c' : Nat), (binOp .eql 22 (.slice a n c) (.slice none n' c')).run Try.prog w = .ok (.bool a.isNone) w := fun w a n c n' c' => Lib.run_eql_slice_nil w _ _ a n c n' c' Try.underlying22
  cases A with
  | none =>
    obtain ⟨rfl, rfl⟩ := hnil rfl
    go_enter Try.func28, Try.ntmps28
    go_wp2
    go_ret
    exact ⟨_, rfl, World.ownsRow_nil _ _ _ _, Below.refl _ _⟩
  | some ad =>
    have HC := Lib.hid (hcell ad rfl)
    clear hcell hnil
    go_enter Try.func28, Try.ntmps28
    go_wp2_with (at_builtin; refine wpList_append_own _ rfl _ _ 22 rfl w.heap.size 5 i0 (.int .u8 0) 1 1 Try.underlying22 hi hz0 hz1 hz2 rfl (by decide) _ _ _ rfl (World.ownsRow_made w #[] 0 (Nat.le_refl _) (Nat.zero_le _) rfl) ad l.length c (bytesV l) rfl ?qc1 ?qc2 ?qc3 ?qc4 ?qc5 ?qc6 ?_)
    case qc1 => simp [bytesV]
    case qc2 =>
      intro j u hj
      have := HC.out j u hj
      rw [World.cell?_alloc_lt _ _ _ (World.block_lt_of_cell? w _ this)]
      exact this
    case qc3 => exact bytesV_one l
    case qc4 => unfold maxLen; omega
    case qc5 => omega
    case qc6 => simp
    intro v' w1 hown hgrow hnil
    go_wp2
    go_ret
    refine ⟨v', rfl, by simpa using hown, ?_⟩
    exact ((Below.refl _ w).alloc (Nat.le_refl _) _).grown hgrow (by simp) (by intro k hk; simp [Value.ownBlock] at hk; omega)

theorem res13 (tmps : Array Value) (W : World) (b : Nat) (c0 c1 c2 c3 c4 c5 v1 v2 : Value) (h4 : tmps.getD 4 undef = .pointer (some ⟨b, 0, none⟩)) (h5 : tmps.getD 5 undef = v1) (h6 : tmps.getD 6 undef = v2)
    (hb : W.heap[b]? = some (.cells #[c0, c1, c2, c3, c4, c5] 29 (0, 0))) :
    (results Try.f13 tmps).run Try.prog W = .ok (.tuple #[.agg #[c0, c1, c2, c3, c4, c5], v1, v2]) W := by
  obtain ⟨a0, a1, a2, a3, a4, a5⟩ := blk6 hb
  simp only [Array.getD_eq_getD_getElem?] at h4 h5 h6
  simp [results, Try.results13, go_sem, h4, h5, h6, a0, a1, a2, a3, a4, a5]

def TakeEnd (w : World) (g : Nat) (a n t x : Int) (l cmd : List UInt8) (v' : Value) (e : Ending) (w' : World) : Prop :=
  ∃ v1 v2, e = .returned (.tuple #[.agg #[.int .u8 a, .int .u8 5, .int .u8 n, .int .u8 t, .int .u8 x, v1], v2, .bool true]) ∧
    w'.ownsRow w.heap.size 5 1 v1 l.length (bytesV l) ∧ w'.ownsRow w.heap.size 5 1 v2 cmd.length (bytesV cmd) ∧ w.grownBy w' (some g) ∧
    w'.heap[g]? = some (.cells #[.int .u8 n, .int .u8 t, .int .u8 x, .int .u8 a, v'] 43 (0, 0))
end Go.Proofs.Ytmhdckpmkgkglaa
