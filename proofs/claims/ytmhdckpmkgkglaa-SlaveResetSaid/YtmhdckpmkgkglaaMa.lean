/- The master: its state in plain Lean, and in memory. -/
import Derived.Test.YtmhdckpmkgkglaaOw
import Derived.Test.YtmhdckpmkgkglaaFr
set_option linter.unusedVariables false
set_option linter.unusedSimpArgs false
namespace Go.Proofs.Ytmhdckpmkgkglaa
open Go.RowKit

/-- What a call leaves as it was: all that lies ahead of B, and all blocks of other types than ts. -/
structure Kept (B : Nat) (ts : List TypeId) (w w' : World) : Prop where
  os : w'.os = w.os
  tape : w'.tape = w.tape
  output : w'.output = w.output
  size : w.heap.size ≤ w'.heap.size
  block : ∀ k, k < w.heap.size → (k < B ∨ ∃ cs t fr, w.heap[k]? = some (.cells cs t fr) ∧ t ∉ ts) → w'.heap[k]? = w.heap[k]?

theorem Kept.refl (B : Nat) (ts : List TypeId) (w : World) : Kept B ts w w := ⟨rfl, rfl, rfl, Nat.le_refl _, fun _ _ _ => rfl⟩
theorem Kept.trans {B : Nat} {ts : List TypeId} {w w1 w2 : World} (h : Kept B ts w w1) (k : Kept B ts w1 w2) : Kept B ts w w2 :=
  ⟨k.os.trans h.os, k.tape.trans h.tape, k.output.trans h.output, Nat.le_trans h.size k.size, fun i hi hc => by
    have h1 := h.block i hi hc
    refine (k.block i (Nat.lt_of_lt_of_le hi h.size) ?_).trans h1
    rcases hc with hc | ⟨cs, t, fr, hc, ht⟩
    · exact .inl hc
    · exact .inr ⟨cs, t, fr, h1.trans hc, ht⟩⟩
theorem Kept.of_below {B : Nat} {ts : List TypeId} {w w1 : World} (h : Below w.heap.size w w1) : Kept B ts w w1 :=
  ⟨h.os, h.tape, h.output, h.size, fun i hi _ => h.block i hi⟩
theorem Kept.of_grown {B g : Nat} {ts : List TypeId} {w w1 : World} {cs : Array Value} {t : TypeId} {fr : Nat × Nat} (h : w.grownBy w1 (some g)) (hg : w.heap[g]? = some (.cells cs t fr)) (ht : t ∈ ts) (hB : B ≤ g) : Kept B ts w w1 :=
  ⟨h.os, h.tape, h.output, h.size, fun i hi hc => h.block i hi (fun e => by
    cases e
    rcases hc with hc | ⟨cs', t', fr', hc, ht'⟩
    · omega
    · rw [hg] at hc
      cases hc
      exact ht' ht)⟩
theorem Kept.mono {B : Nat} {ts ts' : List TypeId} {w w1 : World} (h : Kept B ts w w1) (hs : ∀ t ∈ ts, t ∈ ts') : Kept B ts' w w1 :=
  ⟨h.os, h.tape, h.output, h.size, fun i hi hc => h.block i hi (by
    rcases hc with hc | ⟨cs, t, fr, hc, ht⟩
    · exact .inl hc
    · exact .inr ⟨cs, t, fr, hc, fun hx => ht (hs t hx)⟩)⟩
theorem Kept.below {B : Nat} {ts : List TypeId} {w w1 : World} (h : Kept B ts w w1) (hB : B ≤ w.heap.size) : Below B w w1 :=
  ⟨h.os, h.tape, h.output, h.size, fun i hi => h.block i (Nat.lt_of_lt_of_le hi hB) (.inl hi)⟩
theorem Kept.blk {B k : Nat} {ts : List TypeId} {w w1 : World} {cs : Array Value} {t : TypeId} {fr : Nat × Nat} (h : Kept B ts w w1) (hg : w.heap[k]? = some (.cells cs t fr)) (ht : t ∉ ts) : w1.heap[k]? = some (.cells cs t fr) :=
  (h.block k (blk_lt hg) (.inr ⟨cs, t, fr, hg, ht⟩)).trans hg

/-- A master's state. -/
structure MS where
  sends : Int
  hears : Int
  addr : Int
  num : Int
  tries : Int
  state : Int
  epoch : Int
  misses : Int
  queue : List (List UInt8)

def MS.new (a tries : Int) : MS := ⟨0, 0, a, 1, if tries < 1 then 1 else tries, 0, 0, 0, []⟩
def MS.close (M : MS) (st : Int) : MS := { M with state := st, queue := [], misses := 0, num := M.num % 255 + 1 }
def MS.opens (M : MS) : MS := { M with state := 1, sends := 0, hears := 0, epoch := M.epoch + 1 }
/-- Send: what it answers, the state behind it. -/
def MS.sendF (M : MS) (b : List UInt8) : Int × MS :=
  if b.length = 0 ∨ 24 < b.length then (1, M)
  else if M.state ≠ 1 then (7, M)
  else if 8 ≤ M.queue.length then (5, M)
  else (0, { M with queue := M.queue ++ [b] })
/-- Next: the frame. -/
def MS.nextF (M : MS) : FR :=
  if M.state ≠ 1 then ⟨M.addr, 1, M.num, 0, 0, []⟩
  else match M.queue with
    | [] => ⟨M.addr, 3, M.num, M.sends, M.hears, []⟩
    | b :: _ => ⟨M.addr, 2, M.num, M.sends, M.hears, b⟩
def MS.acked (M : MS) (f : FR) : MS := if 0 < M.queue.length ∧ f.ack ≠ M.sends then { M with queue := M.queue.tail, sends := 1 - M.sends } else M
/-- A reply of its session: what it brings, the state behind it. -/
def MS.replyF (M : MS) (f : FR) : List UInt8 × MS :=
  if f.b.length = 0 ∨ f.seq ≠ (M.acked f).hears then ([], M.acked f) else (f.b, { M.acked f with hears := 1 - (M.acked f).hears })
/-- Heard: what it brings, whether it is for it, the state behind it. -/
def MS.heardF (M : MS) (f : FR) : List UInt8 × Bool × MS :=
  if f.addr ≠ M.addr ∨ f.kind ≠ 4 ∧ f.kind ≠ 5 then ([], false, M)
  else if M.state ≠ 1 then
    if f.kind ≠ 4 ∨ f.sess ≠ M.num then ([], false, M) else ([], true, { M with misses := 0 }.opens)
  else if f.sess ≠ M.num then ([], true, { M with misses := 0 }.close 0)
  else if f.kind = 4 then ([], true, { M with misses := 0 })
  else ((MS.replyF { M with misses := 0 } f).1, true, (MS.replyF { M with misses := 0 } f).2)
/-- Missed: is it dead now, the state behind it. -/
def MS.missedF (M : MS) : Bool × MS :=
  if M.misses + 1 < M.tries then (false, { M with misses := M.misses + 1 }) else (decide (M.state ≠ 2), M.close 2)

/-- What holds of every state. -/
structure MS.Ok (M : MS) : Prop where
  s01 : M.sends = 0 ∨ M.sends = 1
  h01 : M.hears = 0 ∨ M.hears = 1
  n0 : 1 ≤ M.num
  n1 : M.num ≤ 255
  m0 : 0 ≤ M.misses
  m1 : M.misses < M.tries
  t1 : M.tries ≤ 9223372036854775807
  qlen : M.queue.length ≤ 8
  rows : ∀ b ∈ M.queue, 0 < b.length ∧ b.length ≤ 24

theorem MS.Ok.new (a t : Int) (ht : t ≤ 9223372036854775807) : (MS.new a t).Ok := by
  unfold MS.new
  constructor <;> simp
  all_goals (split <;> omega)
theorem MS.Ok.close {M : MS} (h : M.Ok) (st : Int) : (M.close st).Ok := by
  have := h.m0
  have := h.m1
  have := h.n0
  have := h.n1
  exact ⟨h.s01, h.h01, by show 1 ≤ M.num % 255 + 1; omega, by show M.num % 255 + 1 ≤ 255; omega, Int.le_refl _, by show 0 < M.tries; omega, h.t1, by simp [MS.close], by simp [MS.close]⟩
theorem MS.Ok.misses0 {M : MS} (h : M.Ok) : ({ M with misses := 0 } : MS).Ok := by
  have := h.m0
  have := h.m1
  exact ⟨h.s01, h.h01, h.n0, h.n1, Int.le_refl _, by show 0 < M.tries; omega, h.t1, h.qlen, h.rows⟩
theorem MS.Ok.opens {M : MS} (h : M.Ok) : M.opens.Ok := ⟨.inl rfl, .inl rfl, h.n0, h.n1, h.m0, h.m1, h.t1, h.qlen, h.rows⟩
theorem MS.Ok.send {M M' : MS} {b : List UInt8} {n : Int} (h : M.Ok) (hF : M.sendF b = (n, M')) : M'.Ok := by
  unfold MS.sendF at hF
  split at hF
  · cases hF; exact h
  · split at hF
    · cases hF; exact h
    · split at hF
      · cases hF; exact h
      · cases hF
        refine ⟨h.s01, h.h01, h.n0, h.n1, h.m0, h.m1, h.t1, by simp; omega, fun x hx => ?_⟩
        rcases List.mem_append.1 hx with hx | hx
        · exact h.rows x hx
        · simp at hx
          subst hx
          omega
theorem MS.Ok.acked {M : MS} (h : M.Ok) (f : FR) : (M.acked f).Ok := by
  unfold MS.acked
  split
  · refine ⟨?_, h.h01, h.n0, h.n1, h.m0, h.m1, h.t1, ?_, fun x hx => h.rows x (List.mem_of_mem_tail hx)⟩
    · show 1 - M.sends = 0 ∨ 1 - M.sends = 1
      have := h.s01
      omega
    · show M.queue.tail.length ≤ 8
      have := h.qlen
      simp
      omega
  · exact h
theorem MS.Ok.reply {M : MS} (h : M.Ok) (f : FR) : (M.replyF f).2.Ok := by
  have k := h.acked f
  unfold MS.replyF
  split
  · exact k
  · refine ⟨k.s01, ?_, k.n0, k.n1, k.m0, k.m1, k.t1, k.qlen, k.rows⟩
    show 1 - (M.acked f).hears = 0 ∨ 1 - (M.acked f).hears = 1
    have := k.h01
    omega
theorem MS.Ok.heard {M M' : MS} {f : FR} {b : List UInt8} {ok : Bool} (h : M.Ok) (hF : M.heardF f = (b, ok, M')) : M'.Ok := by
  unfold MS.heardF at hF
  split at hF
  · cases hF; exact h
  · split at hF
    · split at hF
      · cases hF; exact h
      · cases hF; exact h.misses0.opens
    · split at hF
      · cases hF; exact h.misses0.close 0
      · split at hF
        · cases hF; exact h.misses0
        · cases hF; exact h.misses0.reply f
theorem MS.Ok.missed {M M' : MS} {d : Bool} (h : M.Ok) (hF : M.missedF = (d, M')) : M'.Ok := by
  unfold MS.missedF at hF
  split at hF
  · cases hF
    have := h.m0
    exact ⟨h.s01, h.h01, h.n0, h.n1, by show 0 ≤ M.misses + 1; omega, by show M.misses + 1 < M.tries; omega, h.t1, h.qlen, h.rows⟩
  · cases hF; exact h.close 2

/-- A queue of rows in memory. -/
def QueueAt (w : World) (B : Nat) (v : Value) (q : List (List UInt8)) : Prop :=
  ∃ vs : List Value, vs.length = q.length ∧ OffRow w B 22 1 v q.length vs ∧ ∀ (i : Nat) (u : Value) (b : List UInt8), vs[i]? = some u → q[i]? = some b → w.ownsRow B 5 1 u b.length (bytesV b)

/-- The cells of a master. -/
def mCells (M : MS) (v : Value) : Array Value := #[.int .u8 M.sends, .int .u8 M.hears, .int .u8 M.addr, .int .u8 M.num, .int .i64 M.tries, .int .i64 M.state, .int .i64 M.epoch, v, .int .i64 M.misses]
structure MasterAt (w : World) (B g : Nat) (M : MS) : Prop where
  ge : B ≤ g
  ok : M.Ok
  ex : ∃ v, w.heap[g]? = some (.cells #[.int .u8 M.sends, .int .u8 M.hears, .int .u8 M.addr, .int .u8 M.num, .int .i64 M.tries, .int .i64 M.state, .int .i64 M.epoch, v, .int .i64 M.misses] 77 (0, 0)) ∧ QueueAt w B v M.queue

theorem QueueAt.nil (w : World) (B : Nat) : QueueAt w B (.slice none 0 0) [] := ⟨[], rfl, OffRow.nil _ _ _ _, fun i u b h => by simp at h⟩
end Go.Proofs.Ytmhdckpmkgkglaa
