/- The master's small calls. -/
import Derived.Test.YtmhdckpmkgkglaaMa
import Derived.Test.YtmhdckpmkgkglaaMc
set_option linter.unusedVariables false
set_option linter.unusedSimpArgs false
namespace Go.Proofs.Ytmhdckpmkgkglaa
open Go.RowKit

set_option maxHeartbeats 1000000 in
theorem master_new (w : World) (a t : Int) (ht : t ≤ 9223372036854775807) :
    Calls Try.prog 32 #[.int .u8 a, .int .i64 t] w fun e w' => e = .returned (.pointer (some ⟨w.heap.size, 0, none⟩)) ∧ Below w.heap.size w w' ∧ MasterAt w' w.heap.size w.heap.size (MS.new a t) := by
  have hok := Lib.hid (MS.Ok.new a t ht)
  by_cases h1 : t < 1
  · have hmax : (if t < 1 then 1 else t) = 1 := if_pos h1
    go_enter Try.func32, Try.ntmps32
    go_wp2_with fail
    go_returns
    refine ⟨rfl, (Below.refl _ _).alloc (Nat.le_refl _) _, ⟨Nat.le_refl _, hok.out, _, ?_, QueueAt.nil _ _⟩⟩
    show _ = some (Obj.cells #[.int .u8 0, .int .u8 0, .int .u8 a, .int .u8 1, .int .i64 (if t < 1 then 1 else t), .int .i64 0, .int .i64 0, .slice none 0 0, .int .i64 0] _ _)
    rw [hmax]
    exact blk_new _ _
  · have hmax : (if t < 1 then 1 else t) = t := if_neg h1
    go_enter Try.func32, Try.ntmps32
    go_wp2_with fail
    go_returns
    refine ⟨rfl, (Below.refl _ _).alloc (Nat.le_refl _) _, ⟨Nat.le_refl _, hok.out, _, ?_, QueueAt.nil _ _⟩⟩
    show _ = some (Obj.cells #[.int .u8 0, .int .u8 0, .int .u8 a, .int .u8 1, .int .i64 (if t < 1 then 1 else t), .int .i64 0, .int .i64 0, .slice none 0 0, .int .i64 0] _ _)
    rw [hmax]
    exact blk_new _ _
set_option maxHeartbeats 1000000 in
theorem master_state (w : World) (B g : Nat) (M : MS) (h : MasterAt w B g M) :
    Calls Try.prog 23 #[.pointer (some ⟨g, 0, none⟩)] w fun e w' => e = .returned (.int .i64 M.state) ∧ w = w' := by
  obtain ⟨v, hg, hq⟩ := h.ex
  have h5 := blk_cell hg 5
  simp at h5
  clear hg hq h
  go_enter Try.func23, Try.ntmps23
  go_wp2
  go_returns
  exact ⟨rfl, rfl⟩
set_option maxHeartbeats 1000000 in
theorem master_epoch (w : World) (B g : Nat) (M : MS) (h : MasterAt w B g M) :
    Calls Try.prog 24 #[.pointer (some ⟨g, 0, none⟩)] w fun e w' => e = .returned (.int .i64 M.epoch) ∧ w = w' := by
  obtain ⟨v, hg, hq⟩ := h.ex
  have h5 := blk_cell hg 6
  simp at h5
  clear hg hq h
  go_enter Try.func24, Try.ntmps24
  go_wp2
  go_returns
  exact ⟨rfl, rfl⟩
set_option maxHeartbeats 1000000 in
theorem master_len (w : World) (B g : Nat) (M : MS) (h : MasterAt w B g M) :
    Calls Try.prog 25 #[.pointer (some ⟨g, 0, none⟩)] w fun e w' => e = .returned (.int .i64 M.queue.length) ∧ w = w' := by
  obtain ⟨v, hg, vs, _, hq, _⟩ := h.ex
  obtain ⟨A, c, rfl⟩ : ∃ A c, v = .slice A M.queue.length c := by
    rcases hq.2 with ⟨rfl, h0⟩ | ⟨_, _, cap, _, rfl, _⟩
    · exact ⟨none, 0, by rw [h0]⟩
    · exact ⟨_, cap, rfl⟩
  have h5 := blk_cell hg 7
  simp at h5
  clear hg hq h
  go_enter Try.func25, Try.ntmps25
  go_wp2
  go_returns
  exact ⟨rfl, rfl⟩
end Go.Proofs.Ytmhdckpmkgkglaa
