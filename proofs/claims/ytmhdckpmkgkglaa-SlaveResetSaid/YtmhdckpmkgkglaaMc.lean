/- The master's inner calls: sent, heard, opens, close. -/
import Derived.Test.YtmhdckpmkgkglaaMa
set_option linter.unusedVariables false
set_option linter.unusedSimpArgs false
namespace Go.Proofs.Ytmhdckpmkgkglaa
open Go.RowKit

theorem QueueAt.keep {w w1 : World} {B : Nat} {v : Value} {q : List (List UInt8)} (h : QueueAt w B v q)
    (hk : ∀ k cs t fr, B ≤ k → w.heap[k]? = some (.cells cs t fr) → t = 22 ∨ t = 5 → w1.heap[k]? = w.heap[k]?) : QueueAt w1 B v q := by
  obtain ⟨vs, hl, ho, hr⟩ := h
  refine ⟨vs, hl, ?_, fun i u b hu hb => ?_⟩
  · refine ho.keep fun k hk' => ?_
    rcases ho.2 with ⟨rfl, _⟩ | ⟨g, o, cap, cur, rfl, hb, hg, _⟩
    · simp [Value.ownBlock] at hk'
    · simp [Value.ownBlock] at hk'
      subst hk'
      exact hk _ _ _ _ hb hg (.inl rfl)
  · refine own_keep (hr i u b hu hb) fun k hk' => ?_
    rcases (hr i u b hu hb).2 with ⟨rfl, _⟩ | ⟨g, cap, cur, rfl, hb', hg, _⟩
    · simp [Value.ownBlock] at hk'
    · simp [Value.ownBlock] at hk'
      subst hk'
      exact hk _ _ _ _ hb' hg (.inr rfl)
theorem QueueAt.kept {w w1 : World} {B : Nat} {v : Value} {q : List (List UInt8)} {ts : List TypeId} (h : QueueAt w B v q) (hk : Kept B ts w w1) (h22 : 22 ∉ ts) (h5 : 5 ∉ ts) : QueueAt w1 B v q :=
  h.keep fun k cs t fr hb hg ht => hk.block k (blk_lt hg) (.inr ⟨cs, t, fr, hg, by rcases ht with rfl | rfl <;> assumption⟩)
theorem QueueAt.below {w w1 : World} {B : Nat} {v : Value} {q : List (List UInt8)} (h : QueueAt w B v q) (hk : Below w.heap.size w w1) : QueueAt w1 B v q :=
  h.keep fun k cs t fr hb hg ht => hk.block k (blk_lt hg)
theorem MasterAt.kept {w w1 : World} {B g : Nat} {M : MS} {ts : List TypeId} (h : MasterAt w B g M) (hk : Kept B ts w w1) (h77 : 77 ∉ ts) (h22 : 22 ∉ ts) (h5 : 5 ∉ ts) : MasterAt w1 B g M := by
  obtain ⟨v, hg, hq⟩ := h.ex
  exact ⟨h.ge, h.ok, v, hk.blk hg h77, hq.kept hk h22 h5⟩
theorem MasterAt.below {w w1 : World} {B g : Nat} {M : MS} (h : MasterAt w B g M) (hk : Below w.heap.size w w1) : MasterAt w1 B g M := by
  obtain ⟨v, hg, hq⟩ := h.ex
  exact ⟨h.ge, h.ok, v, blk_below' hg hk, hq.below hk⟩
theorem MasterAt.lt {w : World} {B g : Nat} {M : MS} (h : MasterAt w B g M) : g < w.heap.size := by
  obtain ⟨v, hg, _⟩ := h.ex
  exact blk_lt hg
/-- Where only the master's own block is written, its queue stays. -/
theorem MasterAt.wrote {w w1 : World} {B g : Nat} {M M' : MS} {v : Value} {cs : Array Value} (hB : B ≤ g) (hok : M'.Ok) (hg : w.heap[g]? = some (.cells cs 77 (0, 0))) (hq : QueueAt w B v M.queue) (hgr : w.grownBy w1 (some g))
    (hn : w1.heap[g]? = some (.cells #[.int .u8 M'.sends, .int .u8 M'.hears, .int .u8 M'.addr, .int .u8 M'.num, .int .i64 M'.tries, .int .i64 M'.state, .int .i64 M'.epoch, v, .int .i64 M'.misses] 77)) (he : M'.queue = M.queue) : MasterAt w1 B g M' :=
  ⟨hB, hok, v, hn, by rw [he]; exact hq.kept (Kept.of_grown (ts := [77]) hgr hg (by simp) hB) (by decide) (by decide)⟩

theorem xor_one (x : Int) (h : x = 0 ∨ x = 1) : bits BinOp.xor IntKind.u8 x 1 = 1 - x := by
  rcases h with rfl | rfl <;> decide +kernel
end Go.Proofs.Ytmhdckpmkgkglaa
