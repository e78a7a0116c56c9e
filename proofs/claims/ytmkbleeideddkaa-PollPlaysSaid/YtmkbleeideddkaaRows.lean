/-
  No cell of these rows narrows 'for every input' (looked for: loops, veiled, ifaces, maps, wideKeys, modest, calm, conditions, laid).
  DERIVED. THE GIVEN ROWS OF THIS SEAT. 7 by the template 'for every input the law returns true; each argument reads behind the call as it read before'; 0 by the template 'total and deterministic' (their statements: YtmkbleeideddkaaTotals.lean).
  GIVEN WITH THE SEED: the statements are not yours to turn. If you find one false, say at which input.
  Laid BY PROGRAM, IN A SANDBOX (cutbox-rows.mjs): the forced cells as the released guide's own fill.sh prints them over the translation 25363a4167e96a9e… (all of the seat's roots in one cut). By AI agents, Wed Nov 11 2026. No macro, syntax, notation, axiom, sorry.
-/
import Derived.Test.YtmkbleeideddkaaChecked
import GoSem.Claim
import GoSem.ClaimJoined
import GoSem.ClaimMapViews
import Derived.JoinedTies
import Derived.KernelRfl
namespace Go.Proofs.Ytmkbleeideddkaa
/- THE CELL 'sum', in the pinned program and in every row, IS THE sha256 OF THE DUMP (.gsa) THAT YtmkbleeideddkaaProg.lean LOADS. Nothing in Lean hashes anything: it is a label: what it is worth is what the hold of that sum in a sandbox is worth. -/
noncomputable def Try.pinned : Pinned := { name := "ytmkbleeideddkaa", sum := "25363a4167e96a9e5549f6f742f66cce2a95459a8957571308704228908015f4", checked := Try.checked }
namespace Rows
def none {H : Type} : Left H := { results := [], args := [] }

/-- 'lamplightlaw09.PollPlays': WHATEVER THE INPUT: true; the input reads as it did. -/
def pollPlaysSpec : ChangeSpec := { name := "pollPlays", fn := fun _ => fun
  | [d1, d2] => { results := [.lit (.bool true)], args := [d1, d2] }
  | _ => none }
def pollPlaysRow : OpenClaim := { program := "ytmkbleeideddkaa", sum := "25363a4167e96a9e5549f6f742f66cce2a95459a8957571308704228908015f4", func := "lamplight/lamplightlaw09.PollPlays", spec := "pollPlays", unfollowed := true, recurses := true, apart := false }
def PollPlaysSaid : Prop := pollPlaysRow.holds Try.pinned (OpenSpec.ofChange pollPlaysSpec)

/-- ITS FALSE NEIGHBOUR: 'it returns false'. Refute it at one input. -/
def pollPlaysWrong : ChangeSpec := { name := "pollPlays", fn := fun _ => fun
  | [d1, d2] => { results := [.lit (.bool false)], args := [d1, d2] }
  | _ => none }
def PollPlaysWrongFalsely : Prop := pollPlaysRow.holds Try.pinned (OpenSpec.ofChange pollPlaysWrong)

/-- 'lamplightlaw09.PollTurns': WHATEVER THE INPUT: true; the input reads as it did. -/
def pollTurnsSpec : ChangeSpec := { name := "pollTurns", fn := fun _ => fun
  | [d1, d2, d3] => { results := [.lit (.bool true)], args := [d1, d2, d3] }
  | _ => none }
def pollTurnsRow : OpenClaim := { program := "ytmkbleeideddkaa", sum := "25363a4167e96a9e5549f6f742f66cce2a95459a8957571308704228908015f4", func := "lamplight/lamplightlaw09.PollTurns", spec := "pollTurns", unfollowed := true, recurses := true, apart := false }
def PollTurnsSaid : Prop := pollTurnsRow.holds Try.pinned (OpenSpec.ofChange pollTurnsSpec)

/-- ITS FALSE NEIGHBOUR: 'it returns false'. Refute it at one input. -/
def pollTurnsWrong : ChangeSpec := { name := "pollTurns", fn := fun _ => fun
  | [d1, d2, d3] => { results := [.lit (.bool false)], args := [d1, d2, d3] }
  | _ => none }
def PollTurnsWrongFalsely : Prop := pollTurnsRow.holds Try.pinned (OpenSpec.ofChange pollTurnsWrong)

/-- 'lamplightlaw09.PollAgain': WHATEVER THE INPUT: true; the input reads as it did. -/
def pollAgainSpec : ChangeSpec := { name := "pollAgain", fn := fun _ => fun
  | [d1, d2, d3] => { results := [.lit (.bool true)], args := [d1, d2, d3] }
  | _ => none }
def pollAgainRow : OpenClaim := { program := "ytmkbleeideddkaa", sum := "25363a4167e96a9e5549f6f742f66cce2a95459a8957571308704228908015f4", func := "lamplight/lamplightlaw09.PollAgain", spec := "pollAgain", unfollowed := true, recurses := true, apart := false }
def PollAgainSaid : Prop := pollAgainRow.holds Try.pinned (OpenSpec.ofChange pollAgainSpec)

/-- ITS FALSE NEIGHBOUR: 'it returns false'. Refute it at one input. -/
def pollAgainWrong : ChangeSpec := { name := "pollAgain", fn := fun _ => fun
  | [d1, d2, d3] => { results := [.lit (.bool false)], args := [d1, d2, d3] }
  | _ => none }
def PollAgainWrongFalsely : Prop := pollAgainRow.holds Try.pinned (OpenSpec.ofChange pollAgainWrong)

/-- 'lamplightlaw09.PollNobody': WHATEVER THE INPUT: true; the input reads as it did. -/
def pollNobodySpec : ChangeSpec := { name := "pollNobody", fn := fun _ => fun
  | [d1, d2, d3] => { results := [.lit (.bool true)], args := [d1, d2, d3] }
  | _ => none }
def pollNobodyRow : OpenClaim := { program := "ytmkbleeideddkaa", sum := "25363a4167e96a9e5549f6f742f66cce2a95459a8957571308704228908015f4", func := "lamplight/lamplightlaw09.PollNobody", spec := "pollNobody", unfollowed := true, recurses := true, apart := false }
def PollNobodySaid : Prop := pollNobodyRow.holds Try.pinned (OpenSpec.ofChange pollNobodySpec)

/-- ITS FALSE NEIGHBOUR: 'it returns false'. Refute it at one input. -/
def pollNobodyWrong : ChangeSpec := { name := "pollNobody", fn := fun _ => fun
  | [d1, d2, d3] => { results := [.lit (.bool false)], args := [d1, d2, d3] }
  | _ => none }
def PollNobodyWrongFalsely : Prop := pollNobodyRow.holds Try.pinned (OpenSpec.ofChange pollNobodyWrong)

/-- 'lamplightlaw09.PollDead': WHATEVER THE INPUT: true; the input reads as it did. -/
def pollDeadSpec : ChangeSpec := { name := "pollDead", fn := fun _ => fun
  | [d1, d2] => { results := [.lit (.bool true)], args := [d1, d2] }
  | _ => none }
def pollDeadRow : OpenClaim := { program := "ytmkbleeideddkaa", sum := "25363a4167e96a9e5549f6f742f66cce2a95459a8957571308704228908015f4", func := "lamplight/lamplightlaw09.PollDead", spec := "pollDead", unfollowed := true, recurses := true, apart := false }
def PollDeadSaid : Prop := pollDeadRow.holds Try.pinned (OpenSpec.ofChange pollDeadSpec)

/-- ITS FALSE NEIGHBOUR: 'it returns false'. Refute it at one input. -/
def pollDeadWrong : ChangeSpec := { name := "pollDead", fn := fun _ => fun
  | [d1, d2] => { results := [.lit (.bool false)], args := [d1, d2] }
  | _ => none }
def PollDeadWrongFalsely : Prop := pollDeadRow.holds Try.pinned (OpenSpec.ofChange pollDeadWrong)

/-- 'lamplightlaw09.PollBack': WHATEVER THE INPUT: true; the input reads as it did. -/
def pollBackSpec : ChangeSpec := { name := "pollBack", fn := fun _ => fun
  | [d1, d2, d3] => { results := [.lit (.bool true)], args := [d1, d2, d3] }
  | _ => none }
def pollBackRow : OpenClaim := { program := "ytmkbleeideddkaa", sum := "25363a4167e96a9e5549f6f742f66cce2a95459a8957571308704228908015f4", func := "lamplight/lamplightlaw09.PollBack", spec := "pollBack", unfollowed := true, recurses := true, apart := false }
def PollBackSaid : Prop := pollBackRow.holds Try.pinned (OpenSpec.ofChange pollBackSpec)

/-- ITS FALSE NEIGHBOUR: 'it returns false'. Refute it at one input. -/
def pollBackWrong : ChangeSpec := { name := "pollBack", fn := fun _ => fun
  | [d1, d2, d3] => { results := [.lit (.bool false)], args := [d1, d2, d3] }
  | _ => none }
def PollBackWrongFalsely : Prop := pollBackRow.holds Try.pinned (OpenSpec.ofChange pollBackWrong)

/-- 'lamplightlaw09.PollSame': WHATEVER THE INPUT: true; the input reads as it did. -/
def pollSameSpec : ChangeSpec := { name := "pollSame", fn := fun _ => fun
  | [d1, d2] => { results := [.lit (.bool true)], args := [d1, d2] }
  | _ => none }
def pollSameRow : OpenClaim := { program := "ytmkbleeideddkaa", sum := "25363a4167e96a9e5549f6f742f66cce2a95459a8957571308704228908015f4", func := "lamplight/lamplightlaw09.PollSame", spec := "pollSame", unfollowed := true, recurses := true, apart := false }
def PollSameSaid : Prop := pollSameRow.holds Try.pinned (OpenSpec.ofChange pollSameSpec)

/-- ITS FALSE NEIGHBOUR: 'it returns false'. Refute it at one input. -/
def pollSameWrong : ChangeSpec := { name := "pollSame", fn := fun _ => fun
  | [d1, d2] => { results := [.lit (.bool false)], args := [d1, d2] }
  | _ => none }
def PollSameWrongFalsely : Prop := pollSameRow.holds Try.pinned (OpenSpec.ofChange pollSameWrong)

/- THE SECOND FORM. 'bulk': how many values and letters a reading holds, each counted each time it is reached (what is shared counts as often as it is met; a slice's spare places count too). A statement '..UptoSaid' is the law's where the arguments, and the package variables that the reading takes, are together of bulk at most 1048576: NARROWER than '..Said'. Prove '..Said' where nothing that the law and all that it calls make is longer than what came in: it says more and counts as full. Else prove '..UptoSaid'. A law counts once. -/
mutual
def uptoBulk {H : Type} : DataW H → Nat
  | .lit (.string bytes) => bytes.length + 1
  | .lit _ => 1
  | .nil => 1
  | .ptr d => uptoBulk d + 1
  | .slice elems spare => uptoBulkAll elems + uptoBulkAll spare + 1
  | .agg parts => uptoBulkAll parts + 1
  | .iface _ d => uptoBulk d + 1
  | .map entries => uptoBulkEntries entries + 1
  | .held _ => 1
def uptoBulkAll {H : Type} : List (DataW H) → Nat
  | [] => 0
  | d :: r => uptoBulk d + uptoBulkAll r
def uptoBulkEntries {H : Type} : List (Lit × DataW H) → Nat
  | [] => 0
  | x :: r => uptoBulkEntry x + uptoBulkEntries r
def uptoBulkEntry {H : Type} : Lit × DataW H → Nat
  | (.string bytes, d) => bytes.length + uptoBulk d + 1
  | (_, d) => uptoBulk d + 1
 end
def uptoSmall : (H : Type) → List (DataW H) → Bool := fun _ ds => decide (uptoBulkAll ds ≤ 1048576)
def OpenSpec.upto (s : _root_.Go.ChangeSpec) : _root_.Go.OpenSpec := { _root_.Go.OpenSpec.ofChange s with cond := some uptoSmall }

/-- 'lamplightlaw09.PollPlays', WHERE WHAT IT READS IS OF BULK AT MOST 1048576: true; the input reads as it did. -/
def pollPlaysUptoRow : OpenClaim := { program := "ytmkbleeideddkaa", sum := "25363a4167e96a9e5549f6f742f66cce2a95459a8957571308704228908015f4", func := "lamplight/lamplightlaw09.PollPlays", spec := "pollPlays", unfollowed := true, recurses := true, apart := false, narrowed := true }
def PollPlaysUptoSaid : Prop := pollPlaysUptoRow.holds Try.pinned (OpenSpec.upto pollPlaysSpec)

/-- 'lamplightlaw09.PollTurns', WHERE WHAT IT READS IS OF BULK AT MOST 1048576: true; the input reads as it did. -/
def pollTurnsUptoRow : OpenClaim := { program := "ytmkbleeideddkaa", sum := "25363a4167e96a9e5549f6f742f66cce2a95459a8957571308704228908015f4", func := "lamplight/lamplightlaw09.PollTurns", spec := "pollTurns", unfollowed := true, recurses := true, apart := false, narrowed := true }
def PollTurnsUptoSaid : Prop := pollTurnsUptoRow.holds Try.pinned (OpenSpec.upto pollTurnsSpec)

/-- 'lamplightlaw09.PollAgain', WHERE WHAT IT READS IS OF BULK AT MOST 1048576: true; the input reads as it did. -/
def pollAgainUptoRow : OpenClaim := { program := "ytmkbleeideddkaa", sum := "25363a4167e96a9e5549f6f742f66cce2a95459a8957571308704228908015f4", func := "lamplight/lamplightlaw09.PollAgain", spec := "pollAgain", unfollowed := true, recurses := true, apart := false, narrowed := true }
def PollAgainUptoSaid : Prop := pollAgainUptoRow.holds Try.pinned (OpenSpec.upto pollAgainSpec)

/-- 'lamplightlaw09.PollNobody', WHERE WHAT IT READS IS OF BULK AT MOST 1048576: true; the input reads as it did. -/
def pollNobodyUptoRow : OpenClaim := { program := "ytmkbleeideddkaa", sum := "25363a4167e96a9e5549f6f742f66cce2a95459a8957571308704228908015f4", func := "lamplight/lamplightlaw09.PollNobody", spec := "pollNobody", unfollowed := true, recurses := true, apart := false, narrowed := true }
def PollNobodyUptoSaid : Prop := pollNobodyUptoRow.holds Try.pinned (OpenSpec.upto pollNobodySpec)

/-- 'lamplightlaw09.PollDead', WHERE WHAT IT READS IS OF BULK AT MOST 1048576: true; the input reads as it did. -/
def pollDeadUptoRow : OpenClaim := { program := "ytmkbleeideddkaa", sum := "25363a4167e96a9e5549f6f742f66cce2a95459a8957571308704228908015f4", func := "lamplight/lamplightlaw09.PollDead", spec := "pollDead", unfollowed := true, recurses := true, apart := false, narrowed := true }
def PollDeadUptoSaid : Prop := pollDeadUptoRow.holds Try.pinned (OpenSpec.upto pollDeadSpec)

/-- 'lamplightlaw09.PollBack', WHERE WHAT IT READS IS OF BULK AT MOST 1048576: true; the input reads as it did. -/
def pollBackUptoRow : OpenClaim := { program := "ytmkbleeideddkaa", sum := "25363a4167e96a9e5549f6f742f66cce2a95459a8957571308704228908015f4", func := "lamplight/lamplightlaw09.PollBack", spec := "pollBack", unfollowed := true, recurses := true, apart := false, narrowed := true }
def PollBackUptoSaid : Prop := pollBackUptoRow.holds Try.pinned (OpenSpec.upto pollBackSpec)

/-- 'lamplightlaw09.PollSame', WHERE WHAT IT READS IS OF BULK AT MOST 1048576: true; the input reads as it did. -/
def pollSameUptoRow : OpenClaim := { program := "ytmkbleeideddkaa", sum := "25363a4167e96a9e5549f6f742f66cce2a95459a8957571308704228908015f4", func := "lamplight/lamplightlaw09.PollSame", spec := "pollSame", unfollowed := true, recurses := true, apart := false, narrowed := true }
def PollSameUptoSaid : Prop := pollSameUptoRow.holds Try.pinned (OpenSpec.upto pollSameSpec)

end Rows
end Go.Proofs.Ytmkbleeideddkaa
