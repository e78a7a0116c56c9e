/- What is known of a master and a frame that was told, in a drawn region. -/
import Derived.Test.YtdgbmiobfehpdaaFm
import Derived.Test.YtdgbmiobfehpdaaKp
set_option linter.unusedVariables false
set_option linter.unusedSimpArgs false
namespace Go.Proofs.Ytdgbmiobfehpdaa
open Go.RowKit

def StrH (w : World) (g : Nat) (nf : FR) (M : MS) (ay : Nat) (w' : World) : Prop := MasterAt w' g g M ∧ w'.heap[ay]? = some (.cells #[.int .u8 nf.addr, .int .u8 nf.kind, .int .u8 nf.sess, .int .u8 nf.seq, .int .u8 nf.ack, .string ⟨nf.b.toArray⟩] 46 (0, 0)) ∧ Below w.heap.size w w'
theorem str_all {w : World} {g : Nat} {nf : FR} {M : MS} {ay : Nat} {w' : World} (h : StrH w g nf M ay w') : StrH w g nf M ay w' ∧ w'.cell? ⟨ay, 0, none⟩ = some (.int .u8 nf.addr) ∧ w'.cell? ⟨ay, 1, none⟩ = some (.int .u8 nf.kind) ∧ w'.cell? ⟨ay, 2, none⟩ = some (.int .u8 nf.sess) ∧ w'.cell? ⟨ay, 3, none⟩ = some (.int .u8 nf.seq) ∧ w'.cell? ⟨ay, 4, none⟩ = some (.int .u8 nf.ack) ∧ w'.cell? ⟨ay, 5, none⟩ = some (.string ⟨nf.b.toArray⟩) :=
  ⟨h, blk_cell h.2.1 0, blk_cell h.2.1 1, blk_cell h.2.1 2, blk_cell h.2.1 3, blk_cell h.2.1 4, blk_cell h.2.1 5⟩
theorem str_below {w : World} {g : Nat} {nf : FR} {M : MS} {ay : Nat} {w' w2 : World} (h : StrH w g nf M ay w') (hk : Below w'.heap.size w' w2) : StrH w g nf M ay w2 := ⟨h.1.below hk, blk_below' h.2.1 hk, h.2.2.trans (hk.mono h.2.2.size)⟩
theorem str_step {w : World} {g : Nat} {nf : FR} {M : MS} {ay : Nat} {w' w2 : World} {X : Prop} (h : StrH w g nf M ay w' ∧ X) (hk : Below w'.heap.size w' w2) :
    StrH w g nf M ay w2 ∧ w2.cell? ⟨ay, 0, none⟩ = some (.int .u8 nf.addr) ∧ w2.cell? ⟨ay, 1, none⟩ = some (.int .u8 nf.kind) ∧ w2.cell? ⟨ay, 2, none⟩ = some (.int .u8 nf.sess) ∧ w2.cell? ⟨ay, 3, none⟩ = some (.int .u8 nf.seq) ∧ w2.cell? ⟨ay, 4, none⟩ = some (.int .u8 nf.ack) ∧ w2.cell? ⟨ay, 5, none⟩ = some (.string ⟨nf.b.toArray⟩) := str_all (str_below h.1 hk)

set_option maxRecDepth 100000 in
theorem neq46 (a k s q c : Int) (b : ByteArray) (w : World) :
    (binOp .neq 46 (.agg #[.int .u8 a, .int .u8 k, .int .u8 s, .int .u8 q, .int .u8 c, .string b]) (.agg #[.int .u8 a, .int .u8 k, .int .u8 s, .int .u8 q, .int .u8 c, .string b])).run Try.prog w = .ok (.bool false) w := by
  have h := eq46 a k s q c b w
  rw [run_eql_struct] at h
  rw [run_neq_struct]
  revert h
  generalize (Op.equalIn 10000 46 _ _).run Try.prog w = r
  intro h
  cases r with
  | ok x w' =>
    simp only [Result.andThen_ok] at h ⊢
    injection h with h1 h2
    injection h1 with h1
    subst h1 h2
    rfl
  | halt x w' => exact absurd h (by simp [Result.andThen])
theorem nguard46 (x y : Operand) (xs ys : Array Value) (w : World) : (eqGuard .neq 46 x y (.agg xs) (.agg ys)).run Try.prog w = .ok () w :=
  run_eqGuard_agg w .neq 46 x y xs ys (by kernel_rfl)
theorem nextF_addr (M : MS) : M.nextF.addr = M.addr := by
  unfold MS.nextF
  split
  · rfl
  · split <;> rfl
theorem nextF_kinds (M : MS) : ((M.nextF.kind == 1) = true ∧ (M.nextF.kind == 2) = false ∧ (M.state != 1) = true ∧ (M.state == 1) = false ∧ decide (0 < M.queue.length) = decide (0 < M.queue.length)) ∨
    ((M.nextF.kind == 1) = false ∧ (M.nextF.kind == 2) = true ∧ (M.state != 1) = false ∧ (M.state == 1) = true ∧ decide (0 < M.queue.length) = true) ∨
    ((M.nextF.kind == 1) = false ∧ (M.nextF.kind == 2) = false ∧ (M.state != 1) = false ∧ (M.state == 1) = true ∧ decide (0 < M.queue.length) = false) := by
  by_cases h : M.state = 1
  · right
    rcases hq : M.queue with _ | ⟨b, q⟩
    · right
      have : M.nextF.kind = 3 := by unfold MS.nextF; rw [if_neg (by omega), hq]
      rw [this, h]
      decide
    · left
      have : M.nextF.kind = 2 := by unfold MS.nextF; rw [if_neg (by omega), hq]
      rw [this, h]
      simp
  · left
    have : M.nextF.kind = 1 := by unfold MS.nextF; rw [if_pos h]
    rw [this]
    refine ⟨by decide, by decide, by simpa using h, by simpa using h, rfl⟩
end Go.Proofs.Ytdgbmiobfehpdaa
