/-
  No cell of these rows narrows 'for every input' (looked for: loops, veiled, ifaces, maps, wideKeys, modest, calm, conditions, laid).
  DERIVED. THE GIVEN ROWS OF THIS SEAT. 6 by the template 'for every input the law returns true; each argument reads behind the call as it read before'; 0 by the template 'total and deterministic' (their statements: YtcdanimdkkhamaaTotals.lean).
  GIVEN WITH THE SEED: the statements are not yours to turn. If you find one false, say at which input.
  Laid BY PROGRAM, IN A SANDBOX (cutbox-rows.mjs): the forced cells as the released guide's own fill.sh prints them over the translation b4632d14f7f00ec3… (all of the seat's roots in one cut). By AI agents, Wed Nov 11 2026. No macro, syntax, notation, axiom, sorry.
-/
import Derived.Test.YtcdanimdkkhamaaChecked
import GoSem.Claim
import GoSem.ClaimJoined
import GoSem.ClaimMapViews
import Derived.JoinedTies
import Derived.KernelRfl
namespace Go.Proofs.Ytcdanimdkkhamaa
/- THE CELL 'sum', in the pinned program and in every row, IS THE sha256 OF THE DUMP (.gsa) THAT YtcdanimdkkhamaaProg.lean LOADS. Nothing in Lean hashes anything: it is a label: what it is worth is what the hold of that sum in a sandbox is worth. -/
noncomputable def Try.pinned : Pinned := { name := "ytcdanimdkkhamaa", sum := "b4632d14f7f00ec384576bb3181d9964330964b31e46cab3028d99f98d7c0822", checked := Try.checked }
namespace Rows
def none {H : Type} : Left H := { results := [], args := [] }

/-- 'lamplightlaw06.WireTells': WHATEVER THE INPUT: true; the input reads as it did. -/
def wireTellsSpec : ChangeSpec := { name := "wireTells", fn := fun _ => fun
  | [d1, d2] => { results := [.lit (.bool true)], args := [d1, d2] }
  | _ => none }
def wireTellsRow : OpenClaim := { program := "ytcdanimdkkhamaa", sum := "b4632d14f7f00ec384576bb3181d9964330964b31e46cab3028d99f98d7c0822", func := "lamplight/lamplightlaw06.WireTells", spec := "wireTells", apart := false }
def WireTellsSaid : Prop := wireTellsRow.holds Try.pinned (OpenSpec.ofChange wireTellsSpec)

/-- ITS FALSE NEIGHBOUR: 'it returns false'. Refute it at one input. -/
def wireTellsWrong : ChangeSpec := { name := "wireTells", fn := fun _ => fun
  | [d1, d2] => { results := [.lit (.bool false)], args := [d1, d2] }
  | _ => none }
def WireTellsWrongFalsely : Prop := wireTellsRow.holds Try.pinned (OpenSpec.ofChange wireTellsWrong)

/-- 'lamplightlaw06.WireOrder': WHATEVER THE INPUT: true; the input reads as it did. -/
def wireOrderSpec : ChangeSpec := { name := "wireOrder", fn := fun _ => fun
  | [d1, d2] => { results := [.lit (.bool true)], args := [d1, d2] }
  | _ => none }
def wireOrderRow : OpenClaim := { program := "ytcdanimdkkhamaa", sum := "b4632d14f7f00ec384576bb3181d9964330964b31e46cab3028d99f98d7c0822", func := "lamplight/lamplightlaw06.WireOrder", spec := "wireOrder", apart := false }
def WireOrderSaid : Prop := wireOrderRow.holds Try.pinned (OpenSpec.ofChange wireOrderSpec)

/-- ITS FALSE NEIGHBOUR: 'it returns false'. Refute it at one input. -/
def wireOrderWrong : ChangeSpec := { name := "wireOrder", fn := fun _ => fun
  | [d1, d2] => { results := [.lit (.bool false)], args := [d1, d2] }
  | _ => none }
def WireOrderWrongFalsely : Prop := wireOrderRow.holds Try.pinned (OpenSpec.ofChange wireOrderWrong)

/-- 'lamplightlaw06.WireHeld': WHATEVER THE INPUT: true; the input reads as it did. -/
def wireHeldSpec : ChangeSpec := { name := "wireHeld", fn := fun _ => fun
  | [d1, d2] => { results := [.lit (.bool true)], args := [d1, d2] }
  | _ => none }
def wireHeldRow : OpenClaim := { program := "ytcdanimdkkhamaa", sum := "b4632d14f7f00ec384576bb3181d9964330964b31e46cab3028d99f98d7c0822", func := "lamplight/lamplightlaw06.WireHeld", spec := "wireHeld", apart := false }
def WireHeldSaid : Prop := wireHeldRow.holds Try.pinned (OpenSpec.ofChange wireHeldSpec)

/-- ITS FALSE NEIGHBOUR: 'it returns false'. Refute it at one input. -/
def wireHeldWrong : ChangeSpec := { name := "wireHeld", fn := fun _ => fun
  | [d1, d2] => { results := [.lit (.bool false)], args := [d1, d2] }
  | _ => none }
def WireHeldWrongFalsely : Prop := wireHeldRow.holds Try.pinned (OpenSpec.ofChange wireHeldWrong)

/-- 'lamplightlaw06.WireOwn': WHATEVER THE INPUT: true; the input reads as it did. -/
def wireOwnSpec : ChangeSpec := { name := "wireOwn", fn := fun _ => fun
  | [d1, d2] => { results := [.lit (.bool true)], args := [d1, d2] }
  | _ => none }
def wireOwnRow : OpenClaim := { program := "ytcdanimdkkhamaa", sum := "b4632d14f7f00ec384576bb3181d9964330964b31e46cab3028d99f98d7c0822", func := "lamplight/lamplightlaw06.WireOwn", spec := "wireOwn", apart := false }
def WireOwnSaid : Prop := wireOwnRow.holds Try.pinned (OpenSpec.ofChange wireOwnSpec)

/-- ITS FALSE NEIGHBOUR: 'it returns false'. Refute it at one input. -/
def wireOwnWrong : ChangeSpec := { name := "wireOwn", fn := fun _ => fun
  | [d1, d2] => { results := [.lit (.bool false)], args := [d1, d2] }
  | _ => none }
def WireOwnWrongFalsely : Prop := wireOwnRow.holds Try.pinned (OpenSpec.ofChange wireOwnWrong)

/-- 'lamplightlaw06.WireFull': WHATEVER THE INPUT: true; the input reads as it did. -/
def wireFullSpec : ChangeSpec := { name := "wireFull", fn := fun _ => fun
  | [d1, d2] => { results := [.lit (.bool true)], args := [d1, d2] }
  | _ => none }
def wireFullRow : OpenClaim := { program := "ytcdanimdkkhamaa", sum := "b4632d14f7f00ec384576bb3181d9964330964b31e46cab3028d99f98d7c0822", func := "lamplight/lamplightlaw06.WireFull", spec := "wireFull", apart := false }
def WireFullSaid : Prop := wireFullRow.holds Try.pinned (OpenSpec.ofChange wireFullSpec)

/-- ITS FALSE NEIGHBOUR: 'it returns false'. Refute it at one input. -/
def wireFullWrong : ChangeSpec := { name := "wireFull", fn := fun _ => fun
  | [d1, d2] => { results := [.lit (.bool false)], args := [d1, d2] }
  | _ => none }
def WireFullWrongFalsely : Prop := wireFullRow.holds Try.pinned (OpenSpec.ofChange wireFullWrong)

/-- 'lamplightlaw06.WireEdits': WHATEVER THE INPUT: true; the input reads as it did. -/
def wireEditsSpec : ChangeSpec := { name := "wireEdits", fn := fun _ => fun
  | [d1, d2, d3] => { results := [.lit (.bool true)], args := [d1, d2, d3] }
  | _ => none }
def wireEditsRow : OpenClaim := { program := "ytcdanimdkkhamaa", sum := "b4632d14f7f00ec384576bb3181d9964330964b31e46cab3028d99f98d7c0822", func := "lamplight/lamplightlaw06.WireEdits", spec := "wireEdits", apart := false }
def WireEditsSaid : Prop := wireEditsRow.holds Try.pinned (OpenSpec.ofChange wireEditsSpec)

/-- ITS FALSE NEIGHBOUR: 'it returns false'. Refute it at one input. -/
def wireEditsWrong : ChangeSpec := { name := "wireEdits", fn := fun _ => fun
  | [d1, d2, d3] => { results := [.lit (.bool false)], args := [d1, d2, d3] }
  | _ => none }
def WireEditsWrongFalsely : Prop := wireEditsRow.holds Try.pinned (OpenSpec.ofChange wireEditsWrong)

/- THE SECOND FORM. 'bulk': how many values and letters a reading holds, each counted each time it is reached (what is shared counts as often as it is met; a slice's spare places count too). A statement '..UptoSaid' is the law's where the arguments, and the package variables that the reading takes, are together of bulk at most 1048576: NARROWER than '..Said'. Prove '..Said' where nothing that the law and all that it calls make is longer than what came in: it says more and counts as full. Else prove '..UptoSaid'. A law counts once. -/
mutual
def uptoBulk {H : Type} : DataW H → Nat
  | .lit (.string bytes) => bytes.length + 1
  | .lit _ => 1
  | .nil => 1
  | .ptr d => uptoBulk d + 1
  | .slice elems spare => uptoBulkAll elems + uptoBulkAll spare + 1
  | .agg parts => uptoBulkAll parts + 1
  | .iface _ d => uptoBulk d + 1
  | .map entries => uptoBulkEntries entries + 1
  | .held _ => 1
def uptoBulkAll {H : Type} : List (DataW H) → Nat
  | [] => 0
  | d :: r => uptoBulk d + uptoBulkAll r
def uptoBulkEntries {H : Type} : List (Lit × DataW H) → Nat
  | [] => 0
  | x :: r => uptoBulkEntry x + uptoBulkEntries r
def uptoBulkEntry {H : Type} : Lit × DataW H → Nat
  | (.string bytes, d) => bytes.length + uptoBulk d + 1
  | (_, d) => uptoBulk d + 1
 end
def uptoSmall : (H : Type) → List (DataW H) → Bool := fun _ ds => decide (uptoBulkAll ds ≤ 1048576)
def OpenSpec.upto (s : _root_.Go.ChangeSpec) : _root_.Go.OpenSpec := { _root_.Go.OpenSpec.ofChange s with cond := some uptoSmall }

/-- 'lamplightlaw06.WireTells', WHERE WHAT IT READS IS OF BULK AT MOST 1048576: true; the input reads as it did. -/
def wireTellsUptoRow : OpenClaim := { program := "ytcdanimdkkhamaa", sum := "b4632d14f7f00ec384576bb3181d9964330964b31e46cab3028d99f98d7c0822", func := "lamplight/lamplightlaw06.WireTells", spec := "wireTells", apart := false, narrowed := true }
def WireTellsUptoSaid : Prop := wireTellsUptoRow.holds Try.pinned (OpenSpec.upto wireTellsSpec)

/-- 'lamplightlaw06.WireOrder', WHERE WHAT IT READS IS OF BULK AT MOST 1048576: true; the input reads as it did. -/
def wireOrderUptoRow : OpenClaim := { program := "ytcdanimdkkhamaa", sum := "b4632d14f7f00ec384576bb3181d9964330964b31e46cab3028d99f98d7c0822", func := "lamplight/lamplightlaw06.WireOrder", spec := "wireOrder", apart := false, narrowed := true }
def WireOrderUptoSaid : Prop := wireOrderUptoRow.holds Try.pinned (OpenSpec.upto wireOrderSpec)

/-- 'lamplightlaw06.WireHeld', WHERE WHAT IT READS IS OF BULK AT MOST 1048576: true; the input reads as it did. -/
def wireHeldUptoRow : OpenClaim := { program := "ytcdanimdkkhamaa", sum := "b4632d14f7f00ec384576bb3181d9964330964b31e46cab3028d99f98d7c0822", func := "lamplight/lamplightlaw06.WireHeld", spec := "wireHeld", apart := false, narrowed := true }
def WireHeldUptoSaid : Prop := wireHeldUptoRow.holds Try.pinned (OpenSpec.upto wireHeldSpec)

/-- 'lamplightlaw06.WireOwn', WHERE WHAT IT READS IS OF BULK AT MOST 1048576: true; the input reads as it did. -/
def wireOwnUptoRow : OpenClaim := { program := "ytcdanimdkkhamaa", sum := "b4632d14f7f00ec384576bb3181d9964330964b31e46cab3028d99f98d7c0822", func := "lamplight/lamplightlaw06.WireOwn", spec := "wireOwn", apart := false, narrowed := true }
def WireOwnUptoSaid : Prop := wireOwnUptoRow.holds Try.pinned (OpenSpec.upto wireOwnSpec)

/-- 'lamplightlaw06.WireFull', WHERE WHAT IT READS IS OF BULK AT MOST 1048576: true; the input reads as it did. -/
def wireFullUptoRow : OpenClaim := { program := "ytcdanimdkkhamaa", sum := "b4632d14f7f00ec384576bb3181d9964330964b31e46cab3028d99f98d7c0822", func := "lamplight/lamplightlaw06.WireFull", spec := "wireFull", apart := false, narrowed := true }
def WireFullUptoSaid : Prop := wireFullUptoRow.holds Try.pinned (OpenSpec.upto wireFullSpec)

/-- 'lamplightlaw06.WireEdits', WHERE WHAT IT READS IS OF BULK AT MOST 1048576: true; the input reads as it did. -/
def wireEditsUptoRow : OpenClaim := { program := "ytcdanimdkkhamaa", sum := "b4632d14f7f00ec384576bb3181d9964330964b31e46cab3028d99f98d7c0822", func := "lamplight/lamplightlaw06.WireEdits", spec := "wireEdits", apart := false, narrowed := true }
def WireEditsUptoSaid : Prop := wireEditsUptoRow.holds Try.pinned (OpenSpec.upto wireEditsSpec)

end Rows
end Go.Proofs.Ytcdanimdkkhamaa
