/-
  No cell of these rows narrows 'for every input' (looked for: loops, veiled, ifaces, maps, wideKeys, modest, calm, conditions, laid).
  DERIVED. THE GIVEN ROWS OF THIS SEAT. 7 by the template 'for every input the law returns true; each argument reads behind the call as it read before'; 0 by the template 'total and deterministic' (their statements: YtmhdckpmkgkglaaTotals.lean).
  GIVEN WITH THE SEED: the statements are not yours to turn. If you find one false, say at which input.
  Laid BY PROGRAM, IN A SANDBOX (cutbox-rows.mjs): the forced cells as the released guide's own fill.sh prints them over the translation 17065b1ba9ea1e60… (all of the seat's roots in one cut). By AI agents, Wed Nov 11 2026. No macro, syntax, notation, axiom, sorry.
-/
import Derived.Test.YtmhdckpmkgkglaaChecked
import GoSem.Claim
import GoSem.ClaimJoined
import GoSem.ClaimMapViews
import Derived.JoinedTies
import Derived.KernelRfl
namespace Go.Proofs.Ytmhdckpmkgkglaa
/- THE CELL 'sum', in the pinned program and in every row, IS THE sha256 OF THE DUMP (.gsa) THAT YtmhdckpmkgkglaaProg.lean LOADS. Nothing in Lean hashes anything: it is a label: what it is worth is what the hold of that sum in a sandbox is worth. -/
noncomputable def Try.pinned : Pinned := { name := "ytmhdckpmkgkglaa", sum := "17065b1ba9ea1e60c8f2a95b2902466953cb629e9703b11700c9399588bad04e", checked := Try.checked }
namespace Rows
def none {H : Type} : Left H := { results := [], args := [] }

/-- 'lamplightlaw08.SlaveKeeps': WHATEVER THE INPUT: true; the input reads as it did. -/
def slaveKeepsSpec : ChangeSpec := { name := "slaveKeeps", fn := fun _ => fun
  | [d1, d2, d3] => { results := [.lit (.bool true)], args := [d1, d2, d3] }
  | _ => none }
def slaveKeepsRow : OpenClaim := { program := "ytmhdckpmkgkglaa", sum := "17065b1ba9ea1e60c8f2a95b2902466953cb629e9703b11700c9399588bad04e", func := "lamplight/lamplightlaw08.SlaveKeeps", spec := "slaveKeeps", apart := false }
def SlaveKeepsSaid : Prop := slaveKeepsRow.holds Try.pinned (OpenSpec.ofChange slaveKeepsSpec)

/-- ITS FALSE NEIGHBOUR: 'it returns false'. Refute it at one input. -/
def slaveKeepsWrong : ChangeSpec := { name := "slaveKeeps", fn := fun _ => fun
  | [d1, d2, d3] => { results := [.lit (.bool false)], args := [d1, d2, d3] }
  | _ => none }
def SlaveKeepsWrongFalsely : Prop := slaveKeepsRow.holds Try.pinned (OpenSpec.ofChange slaveKeepsWrong)

/-- 'lamplightlaw08.SlaveRepeats': WHATEVER THE INPUT: true; the input reads as it did. -/
def slaveRepeatsSpec : ChangeSpec := { name := "slaveRepeats", fn := fun _ => fun
  | [d1, d2] => { results := [.lit (.bool true)], args := [d1, d2] }
  | _ => none }
def slaveRepeatsRow : OpenClaim := { program := "ytmhdckpmkgkglaa", sum := "17065b1ba9ea1e60c8f2a95b2902466953cb629e9703b11700c9399588bad04e", func := "lamplight/lamplightlaw08.SlaveRepeats", spec := "slaveRepeats", apart := false }
def SlaveRepeatsSaid : Prop := slaveRepeatsRow.holds Try.pinned (OpenSpec.ofChange slaveRepeatsSpec)

/-- ITS FALSE NEIGHBOUR: 'it returns false'. Refute it at one input. -/
def slaveRepeatsWrong : ChangeSpec := { name := "slaveRepeats", fn := fun _ => fun
  | [d1, d2] => { results := [.lit (.bool false)], args := [d1, d2] }
  | _ => none }
def SlaveRepeatsWrongFalsely : Prop := slaveRepeatsRow.holds Try.pinned (OpenSpec.ofChange slaveRepeatsWrong)

/-- 'lamplightlaw08.SlaveTells': WHATEVER THE INPUT: true; the input reads as it did. -/
def slaveTellsSpec : ChangeSpec := { name := "slaveTells", fn := fun _ => fun
  | [d1, d2] => { results := [.lit (.bool true)], args := [d1, d2] }
  | _ => none }
def slaveTellsRow : OpenClaim := { program := "ytmhdckpmkgkglaa", sum := "17065b1ba9ea1e60c8f2a95b2902466953cb629e9703b11700c9399588bad04e", func := "lamplight/lamplightlaw08.SlaveTells", spec := "slaveTells", apart := false }
def SlaveTellsSaid : Prop := slaveTellsRow.holds Try.pinned (OpenSpec.ofChange slaveTellsSpec)

/-- ITS FALSE NEIGHBOUR: 'it returns false'. Refute it at one input. -/
def slaveTellsWrong : ChangeSpec := { name := "slaveTells", fn := fun _ => fun
  | [d1, d2] => { results := [.lit (.bool false)], args := [d1, d2] }
  | _ => none }
def SlaveTellsWrongFalsely : Prop := slaveTellsRow.holds Try.pinned (OpenSpec.ofChange slaveTellsWrong)

/-- 'lamplightlaw08.SlaveQuiet': WHATEVER THE INPUT: true; the input reads as it did. -/
def slaveQuietSpec : ChangeSpec := { name := "slaveQuiet", fn := fun _ => fun
  | [d1, d2, d3] => { results := [.lit (.bool true)], args := [d1, d2, d3] }
  | _ => none }
def slaveQuietRow : OpenClaim := { program := "ytmhdckpmkgkglaa", sum := "17065b1ba9ea1e60c8f2a95b2902466953cb629e9703b11700c9399588bad04e", func := "lamplight/lamplightlaw08.SlaveQuiet", spec := "slaveQuiet", apart := false }
def SlaveQuietSaid : Prop := slaveQuietRow.holds Try.pinned (OpenSpec.ofChange slaveQuietSpec)

/-- ITS FALSE NEIGHBOUR: 'it returns false'. Refute it at one input. -/
def slaveQuietWrong : ChangeSpec := { name := "slaveQuiet", fn := fun _ => fun
  | [d1, d2, d3] => { results := [.lit (.bool false)], args := [d1, d2, d3] }
  | _ => none }
def SlaveQuietWrongFalsely : Prop := slaveQuietRow.holds Try.pinned (OpenSpec.ofChange slaveQuietWrong)

/-- 'lamplightlaw08.SlaveOrder': WHATEVER THE INPUT: true; the input reads as it did. -/
def slaveOrderSpec : ChangeSpec := { name := "slaveOrder", fn := fun _ => fun
  | [d] => { results := [.lit (.bool true)], args := [d] }
  | _ => none }
def slaveOrderRow : OpenClaim := { program := "ytmhdckpmkgkglaa", sum := "17065b1ba9ea1e60c8f2a95b2902466953cb629e9703b11700c9399588bad04e", func := "lamplight/lamplightlaw08.SlaveOrder", spec := "slaveOrder", apart := false }
def SlaveOrderSaid : Prop := slaveOrderRow.holds Try.pinned (OpenSpec.ofChange slaveOrderSpec)

/-- ITS FALSE NEIGHBOUR: 'it returns false'. Refute it at one input. -/
def slaveOrderWrong : ChangeSpec := { name := "slaveOrder", fn := fun _ => fun
  | [d] => { results := [.lit (.bool false)], args := [d] }
  | _ => none }
def SlaveOrderWrongFalsely : Prop := slaveOrderRow.holds Try.pinned (OpenSpec.ofChange slaveOrderWrong)

/-- 'lamplightlaw08.SlaveReset': WHATEVER THE INPUT: true; the input reads as it did. -/
def slaveResetSpec : ChangeSpec := { name := "slaveReset", fn := fun _ => fun
  | [d] => { results := [.lit (.bool true)], args := [d] }
  | _ => none }
def slaveResetRow : OpenClaim := { program := "ytmhdckpmkgkglaa", sum := "17065b1ba9ea1e60c8f2a95b2902466953cb629e9703b11700c9399588bad04e", func := "lamplight/lamplightlaw08.SlaveReset", spec := "slaveReset", apart := false }
def SlaveResetSaid : Prop := slaveResetRow.holds Try.pinned (OpenSpec.ofChange slaveResetSpec)

/-- ITS FALSE NEIGHBOUR: 'it returns false'. Refute it at one input. -/
def slaveResetWrong : ChangeSpec := { name := "slaveReset", fn := fun _ => fun
  | [d] => { results := [.lit (.bool false)], args := [d] }
  | _ => none }
def SlaveResetWrongFalsely : Prop := slaveResetRow.holds Try.pinned (OpenSpec.ofChange slaveResetWrong)

/-- 'lamplightlaw08.SlaveAll': WHATEVER THE INPUT: true; the input reads as it did. -/
def slaveAllSpec : ChangeSpec := { name := "slaveAll", fn := fun _ => fun
  | [d] => { results := [.lit (.bool true)], args := [d] }
  | _ => none }
def slaveAllRow : OpenClaim := { program := "ytmhdckpmkgkglaa", sum := "17065b1ba9ea1e60c8f2a95b2902466953cb629e9703b11700c9399588bad04e", func := "lamplight/lamplightlaw08.SlaveAll", spec := "slaveAll", apart := false }
def SlaveAllSaid : Prop := slaveAllRow.holds Try.pinned (OpenSpec.ofChange slaveAllSpec)

/-- ITS FALSE NEIGHBOUR: 'it returns false'. Refute it at one input. -/
def slaveAllWrong : ChangeSpec := { name := "slaveAll", fn := fun _ => fun
  | [d] => { results := [.lit (.bool false)], args := [d] }
  | _ => none }
def SlaveAllWrongFalsely : Prop := slaveAllRow.holds Try.pinned (OpenSpec.ofChange slaveAllWrong)

/- THE SECOND FORM. 'bulk': how many values and letters a reading holds, each counted each time it is reached (what is shared counts as often as it is met; a slice's spare places count too). A statement '..UptoSaid' is the law's where the arguments, and the package variables that the reading takes, are together of bulk at most 1048576: NARROWER than '..Said'. Prove '..Said' where nothing that the law and all that it calls make is longer than what came in: it says more and counts as full. Else prove '..UptoSaid'. A law counts once. -/
mutual
def uptoBulk {H : Type} : DataW H → Nat
  | .lit (.string bytes) => bytes.length + 1
  | .lit _ => 1
  | .nil => 1
  | .ptr d => uptoBulk d + 1
  | .slice elems spare => uptoBulkAll elems + uptoBulkAll spare + 1
  | .agg parts => uptoBulkAll parts + 1
  | .iface _ d => uptoBulk d + 1
  | .map entries => uptoBulkEntries entries + 1
  | .held _ => 1
def uptoBulkAll {H : Type} : List (DataW H) → Nat
  | [] => 0
  | d :: r => uptoBulk d + uptoBulkAll r
def uptoBulkEntries {H : Type} : List (Lit × DataW H) → Nat
  | [] => 0
  | x :: r => uptoBulkEntry x + uptoBulkEntries r
def uptoBulkEntry {H : Type} : Lit × DataW H → Nat
  | (.string bytes, d) => bytes.length + uptoBulk d + 1
  | (_, d) => uptoBulk d + 1
 end
def uptoSmall : (H : Type) → List (DataW H) → Bool := fun _ ds => decide (uptoBulkAll ds ≤ 1048576)
def OpenSpec.upto (s : _root_.Go.ChangeSpec) : _root_.Go.OpenSpec := { _root_.Go.OpenSpec.ofChange s with cond := some uptoSmall }

/-- 'lamplightlaw08.SlaveKeeps', WHERE WHAT IT READS IS OF BULK AT MOST 1048576: true; the input reads as it did. -/
def slaveKeepsUptoRow : OpenClaim := { program := "ytmhdckpmkgkglaa", sum := "17065b1ba9ea1e60c8f2a95b2902466953cb629e9703b11700c9399588bad04e", func := "lamplight/lamplightlaw08.SlaveKeeps", spec := "slaveKeeps", apart := false, narrowed := true }
def SlaveKeepsUptoSaid : Prop := slaveKeepsUptoRow.holds Try.pinned (OpenSpec.upto slaveKeepsSpec)

/-- 'lamplightlaw08.SlaveRepeats', WHERE WHAT IT READS IS OF BULK AT MOST 1048576: true; the input reads as it did. -/
def slaveRepeatsUptoRow : OpenClaim := { program := "ytmhdckpmkgkglaa", sum := "17065b1ba9ea1e60c8f2a95b2902466953cb629e9703b11700c9399588bad04e", func := "lamplight/lamplightlaw08.SlaveRepeats", spec := "slaveRepeats", apart := false, narrowed := true }
def SlaveRepeatsUptoSaid : Prop := slaveRepeatsUptoRow.holds Try.pinned (OpenSpec.upto slaveRepeatsSpec)

/-- 'lamplightlaw08.SlaveTells', WHERE WHAT IT READS IS OF BULK AT MOST 1048576: true; the input reads as it did. -/
def slaveTellsUptoRow : OpenClaim := { program := "ytmhdckpmkgkglaa", sum := "17065b1ba9ea1e60c8f2a95b2902466953cb629e9703b11700c9399588bad04e", func := "lamplight/lamplightlaw08.SlaveTells", spec := "slaveTells", apart := false, narrowed := true }
def SlaveTellsUptoSaid : Prop := slaveTellsUptoRow.holds Try.pinned (OpenSpec.upto slaveTellsSpec)

/-- 'lamplightlaw08.SlaveQuiet', WHERE WHAT IT READS IS OF BULK AT MOST 1048576: true; the input reads as it did. -/
def slaveQuietUptoRow : OpenClaim := { program := "ytmhdckpmkgkglaa", sum := "17065b1ba9ea1e60c8f2a95b2902466953cb629e9703b11700c9399588bad04e", func := "lamplight/lamplightlaw08.SlaveQuiet", spec := "slaveQuiet", apart := false, narrowed := true }
def SlaveQuietUptoSaid : Prop := slaveQuietUptoRow.holds Try.pinned (OpenSpec.upto slaveQuietSpec)

/-- 'lamplightlaw08.SlaveOrder', WHERE WHAT IT READS IS OF BULK AT MOST 1048576: true; the input reads as it did. -/
def slaveOrderUptoRow : OpenClaim := { program := "ytmhdckpmkgkglaa", sum := "17065b1ba9ea1e60c8f2a95b2902466953cb629e9703b11700c9399588bad04e", func := "lamplight/lamplightlaw08.SlaveOrder", spec := "slaveOrder", apart := false, narrowed := true }
def SlaveOrderUptoSaid : Prop := slaveOrderUptoRow.holds Try.pinned (OpenSpec.upto slaveOrderSpec)

/-- 'lamplightlaw08.SlaveReset', WHERE WHAT IT READS IS OF BULK AT MOST 1048576: true; the input reads as it did. -/
def slaveResetUptoRow : OpenClaim := { program := "ytmhdckpmkgkglaa", sum := "17065b1ba9ea1e60c8f2a95b2902466953cb629e9703b11700c9399588bad04e", func := "lamplight/lamplightlaw08.SlaveReset", spec := "slaveReset", apart := false, narrowed := true }
def SlaveResetUptoSaid : Prop := slaveResetUptoRow.holds Try.pinned (OpenSpec.upto slaveResetSpec)

/-- 'lamplightlaw08.SlaveAll', WHERE WHAT IT READS IS OF BULK AT MOST 1048576: true; the input reads as it did. -/
def slaveAllUptoRow : OpenClaim := { program := "ytmhdckpmkgkglaa", sum := "17065b1ba9ea1e60c8f2a95b2902466953cb629e9703b11700c9399588bad04e", func := "lamplight/lamplightlaw08.SlaveAll", spec := "slaveAll", apart := false, narrowed := true }
def SlaveAllUptoSaid : Prop := slaveAllUptoRow.holds Try.pinned (OpenSpec.upto slaveAllSpec)

end Rows
end Go.Proofs.Ytmhdckpmkgkglaa
