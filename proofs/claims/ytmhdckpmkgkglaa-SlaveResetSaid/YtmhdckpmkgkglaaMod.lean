/- What a slave computes, in plain Lean: no program, no memory. -/
namespace Go.Proofs.Ytmhdckpmkgkglaa

/-- A slave's state: its address, its session, its two bits, what is pending. -/
structure SS where
  addr : Int
  num : Int
  tells : Int
  next : Int
  pend : List UInt8
/-- A frame. -/
structure FR where
  addr : Int
  kind : Int
  sess : Int
  seq : Int
  ack : Int
  b : List UInt8

def SS.new (a : Int) : SS := ⟨a, 0, 0, 0, []⟩
def FR.zero : FR := ⟨0, 0, 0, 0, 0, []⟩

def SS.heard (S : SS) (f : FR) : SS := if 0 < S.pend.length ∧ f.ack ≠ S.tells then { S with tells := 1 - S.tells, pend := [] } else S
def SS.command (S : SS) (f : FR) : List UInt8 := if f.kind = 2 ∧ f.seq = S.next then f.b else []
def SS.took (S : SS) (f : FR) : SS := if f.kind = 2 ∧ f.seq = S.next then { S with next := 1 - S.next } else S

/-- Take: the answer, the command, whether there is an answer, the state behind it. -/
def takeF (S : SS) (f : FR) : FR × List UInt8 × Bool × SS :=
  if f.addr ≠ S.addr ∨ f.kind < 1 ∨ 3 < f.kind then (FR.zero, [], false, S)
  else if f.kind = 1 then (⟨S.addr, 4, f.sess, 0, 0, []⟩, [], true, { S with num := f.sess, tells := 0, next := 0 })
  else if S.num = 0 ∨ f.sess ≠ S.num then (⟨S.addr, 5, S.num, 0, 0, []⟩, [], true, S)
  else
    let S1 := S.heard f
    let S2 := S1.took f
    (⟨S.addr, 5, S.num, S2.tells, S2.next, S2.pend⟩, S1.command f, true, S2)

/-- Offer: what it answers, the state behind it. -/
def offerF (S : SS) (b : List UInt8) : Int × SS :=
  if b.length = 0 ∨ 24 < b.length then (1, S)
  else if 0 < S.pend.length then (5, S)
  else (0, { S with pend := b })
end Go.Proofs.Ytmhdckpmkgkglaa
