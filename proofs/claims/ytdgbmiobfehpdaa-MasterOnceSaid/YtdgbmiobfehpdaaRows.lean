/-
  No cell of these rows narrows 'for every input' (looked for: loops, veiled, ifaces, maps, wideKeys, modest, calm, conditions, laid).
  DERIVED. THE GIVEN ROWS OF THIS SEAT. 7 by the template 'for every input the law returns true; each argument reads behind the call as it read before'; 0 by the template 'total and deterministic' (their statements: YtdgbmiobfehpdaaTotals.lean).
  GIVEN WITH THE SEED: the statements are not yours to turn. If you find one false, say at which input.
  Laid BY PROGRAM, IN A SANDBOX (cutbox-rows.mjs): the forced cells as the released guide's own fill.sh prints them over the translation a701f3d97eb30ad5… (all of the seat's roots in one cut). By AI agents, Wed Nov 11 2026. No macro, syntax, notation, axiom, sorry.
-/
import Derived.Test.YtdgbmiobfehpdaaChecked
import GoSem.Claim
import GoSem.ClaimJoined
import GoSem.ClaimMapViews
import Derived.JoinedTies
import Derived.KernelRfl
namespace Go.Proofs.Ytdgbmiobfehpdaa
/- THE CELL 'sum', in the pinned program and in every row, IS THE sha256 OF THE DUMP (.gsa) THAT YtdgbmiobfehpdaaProg.lean LOADS. Nothing in Lean hashes anything: it is a label: what it is worth is what the hold of that sum in a sandbox is worth. -/
noncomputable def Try.pinned : Pinned := { name := "ytdgbmiobfehpdaa", sum := "a701f3d97eb30ad59b80c1ff70b3d256e5ba7372b9e3b51900d4df5c029c151b", checked := Try.checked }
namespace Rows
def none {H : Type} : Left H := { results := [], args := [] }

/-- 'lamplightlaw07.MasterOnce': WHATEVER THE INPUT: true; the input reads as it did. -/
def masterOnceSpec : ChangeSpec := { name := "masterOnce", fn := fun _ => fun
  | [d1, d2] => { results := [.lit (.bool true)], args := [d1, d2] }
  | _ => none }
def masterOnceRow : OpenClaim := { program := "ytdgbmiobfehpdaa", sum := "a701f3d97eb30ad59b80c1ff70b3d256e5ba7372b9e3b51900d4df5c029c151b", func := "lamplight/lamplightlaw07.MasterOnce", spec := "masterOnce", apart := false }
def MasterOnceSaid : Prop := masterOnceRow.holds Try.pinned (OpenSpec.ofChange masterOnceSpec)

/-- ITS FALSE NEIGHBOUR: 'it returns false'. Refute it at one input. -/
def masterOnceWrong : ChangeSpec := { name := "masterOnce", fn := fun _ => fun
  | [d1, d2] => { results := [.lit (.bool false)], args := [d1, d2] }
  | _ => none }
def MasterOnceWrongFalsely : Prop := masterOnceRow.holds Try.pinned (OpenSpec.ofChange masterOnceWrong)

/-- 'lamplightlaw07.MasterTells': WHATEVER THE INPUT: true; the input reads as it did. -/
def masterTellsSpec : ChangeSpec := { name := "masterTells", fn := fun _ => fun
  | [d1, d2, d3] => { results := [.lit (.bool true)], args := [d1, d2, d3] }
  | _ => none }
def masterTellsRow : OpenClaim := { program := "ytdgbmiobfehpdaa", sum := "a701f3d97eb30ad59b80c1ff70b3d256e5ba7372b9e3b51900d4df5c029c151b", func := "lamplight/lamplightlaw07.MasterTells", spec := "masterTells", apart := false }
def MasterTellsSaid : Prop := masterTellsRow.holds Try.pinned (OpenSpec.ofChange masterTellsSpec)

/-- ITS FALSE NEIGHBOUR: 'it returns false'. Refute it at one input. -/
def masterTellsWrong : ChangeSpec := { name := "masterTells", fn := fun _ => fun
  | [d1, d2, d3] => { results := [.lit (.bool false)], args := [d1, d2, d3] }
  | _ => none }
def MasterTellsWrongFalsely : Prop := masterTellsRow.holds Try.pinned (OpenSpec.ofChange masterTellsWrong)

/-- 'lamplightlaw07.MasterDead': WHATEVER THE INPUT: true; the input reads as it did. -/
def masterDeadSpec : ChangeSpec := { name := "masterDead", fn := fun _ => fun
  | [d1, d2, d3, d4] => { results := [.lit (.bool true)], args := [d1, d2, d3, d4] }
  | _ => none }
def masterDeadRow : OpenClaim := { program := "ytdgbmiobfehpdaa", sum := "a701f3d97eb30ad59b80c1ff70b3d256e5ba7372b9e3b51900d4df5c029c151b", func := "lamplight/lamplightlaw07.MasterDead", spec := "masterDead", apart := false }
def MasterDeadSaid : Prop := masterDeadRow.holds Try.pinned (OpenSpec.ofChange masterDeadSpec)

/-- ITS FALSE NEIGHBOUR: 'it returns false'. Refute it at one input. -/
def masterDeadWrong : ChangeSpec := { name := "masterDead", fn := fun _ => fun
  | [d1, d2, d3, d4] => { results := [.lit (.bool false)], args := [d1, d2, d3, d4] }
  | _ => none }
def MasterDeadWrongFalsely : Prop := masterDeadRow.holds Try.pinned (OpenSpec.ofChange masterDeadWrong)

/-- 'lamplightlaw07.MasterStrange': WHATEVER THE INPUT: true; the input reads as it did. -/
def masterStrangeSpec : ChangeSpec := { name := "masterStrange", fn := fun _ => fun
  | [d1, d2, d3] => { results := [.lit (.bool true)], args := [d1, d2, d3] }
  | _ => none }
def masterStrangeRow : OpenClaim := { program := "ytdgbmiobfehpdaa", sum := "a701f3d97eb30ad59b80c1ff70b3d256e5ba7372b9e3b51900d4df5c029c151b", func := "lamplight/lamplightlaw07.MasterStrange", spec := "masterStrange", apart := false }
def MasterStrangeSaid : Prop := masterStrangeRow.holds Try.pinned (OpenSpec.ofChange masterStrangeSpec)

/-- ITS FALSE NEIGHBOUR: 'it returns false'. Refute it at one input. -/
def masterStrangeWrong : ChangeSpec := { name := "masterStrange", fn := fun _ => fun
  | [d1, d2, d3] => { results := [.lit (.bool false)], args := [d1, d2, d3] }
  | _ => none }
def MasterStrangeWrongFalsely : Prop := masterStrangeRow.holds Try.pinned (OpenSpec.ofChange masterStrangeWrong)

/-- 'lamplightlaw07.MasterSame': WHATEVER THE INPUT: true; the input reads as it did. -/
def masterSameSpec : ChangeSpec := { name := "masterSame", fn := fun _ => fun
  | [d1, d2] => { results := [.lit (.bool true)], args := [d1, d2] }
  | _ => none }
def masterSameRow : OpenClaim := { program := "ytdgbmiobfehpdaa", sum := "a701f3d97eb30ad59b80c1ff70b3d256e5ba7372b9e3b51900d4df5c029c151b", func := "lamplight/lamplightlaw07.MasterSame", spec := "masterSame", apart := false }
def MasterSameSaid : Prop := masterSameRow.holds Try.pinned (OpenSpec.ofChange masterSameSpec)

/-- ITS FALSE NEIGHBOUR: 'it returns false'. Refute it at one input. -/
def masterSameWrong : ChangeSpec := { name := "masterSame", fn := fun _ => fun
  | [d1, d2] => { results := [.lit (.bool false)], args := [d1, d2] }
  | _ => none }
def MasterSameWrongFalsely : Prop := masterSameRow.holds Try.pinned (OpenSpec.ofChange masterSameWrong)

/-- 'lamplightlaw07.MasterSends': WHATEVER THE INPUT: true; the input reads as it did. -/
def masterSendsSpec : ChangeSpec := { name := "masterSends", fn := fun _ => fun
  | [d1, d2] => { results := [.lit (.bool true)], args := [d1, d2] }
  | _ => none }
def masterSendsRow : OpenClaim := { program := "ytdgbmiobfehpdaa", sum := "a701f3d97eb30ad59b80c1ff70b3d256e5ba7372b9e3b51900d4df5c029c151b", func := "lamplight/lamplightlaw07.MasterSends", spec := "masterSends", apart := false }
def MasterSendsSaid : Prop := masterSendsRow.holds Try.pinned (OpenSpec.ofChange masterSendsSpec)

/-- ITS FALSE NEIGHBOUR: 'it returns false'. Refute it at one input. -/
def masterSendsWrong : ChangeSpec := { name := "masterSends", fn := fun _ => fun
  | [d1, d2] => { results := [.lit (.bool false)], args := [d1, d2] }
  | _ => none }
def MasterSendsWrongFalsely : Prop := masterSendsRow.holds Try.pinned (OpenSpec.ofChange masterSendsWrong)

/-- 'lamplightlaw07.MasterCloses': WHATEVER THE INPUT: true; the input reads as it did. -/
def masterClosesSpec : ChangeSpec := { name := "masterCloses", fn := fun _ => fun
  | [d1, d2, d3] => { results := [.lit (.bool true)], args := [d1, d2, d3] }
  | _ => none }
def masterClosesRow : OpenClaim := { program := "ytdgbmiobfehpdaa", sum := "a701f3d97eb30ad59b80c1ff70b3d256e5ba7372b9e3b51900d4df5c029c151b", func := "lamplight/lamplightlaw07.MasterCloses", spec := "masterCloses", apart := false }
def MasterClosesSaid : Prop := masterClosesRow.holds Try.pinned (OpenSpec.ofChange masterClosesSpec)

/-- ITS FALSE NEIGHBOUR: 'it returns false'. Refute it at one input. -/
def masterClosesWrong : ChangeSpec := { name := "masterCloses", fn := fun _ => fun
  | [d1, d2, d3] => { results := [.lit (.bool false)], args := [d1, d2, d3] }
  | _ => none }
def MasterClosesWrongFalsely : Prop := masterClosesRow.holds Try.pinned (OpenSpec.ofChange masterClosesWrong)

/- THE SECOND FORM. 'bulk': how many values and letters a reading holds, each counted each time it is reached (what is shared counts as often as it is met; a slice's spare places count too). A statement '..UptoSaid' is the law's where the arguments, and the package variables that the reading takes, are together of bulk at most 1048576: NARROWER than '..Said'. Prove '..Said' where nothing that the law and all that it calls make is longer than what came in: it says more and counts as full. Else prove '..UptoSaid'. A law counts once. -/
mutual
def uptoBulk {H : Type} : DataW H → Nat
  | .lit (.string bytes) => bytes.length + 1
  | .lit _ => 1
  | .nil => 1
  | .ptr d => uptoBulk d + 1
  | .slice elems spare => uptoBulkAll elems + uptoBulkAll spare + 1
  | .agg parts => uptoBulkAll parts + 1
  | .iface _ d => uptoBulk d + 1
  | .map entries => uptoBulkEntries entries + 1
  | .held _ => 1
def uptoBulkAll {H : Type} : List (DataW H) → Nat
  | [] => 0
  | d :: r => uptoBulk d + uptoBulkAll r
def uptoBulkEntries {H : Type} : List (Lit × DataW H) → Nat
  | [] => 0
  | x :: r => uptoBulkEntry x + uptoBulkEntries r
def uptoBulkEntry {H : Type} : Lit × DataW H → Nat
  | (.string bytes, d) => bytes.length + uptoBulk d + 1
  | (_, d) => uptoBulk d + 1
 end
def uptoSmall : (H : Type) → List (DataW H) → Bool := fun _ ds => decide (uptoBulkAll ds ≤ 1048576)
def OpenSpec.upto (s : _root_.Go.ChangeSpec) : _root_.Go.OpenSpec := { _root_.Go.OpenSpec.ofChange s with cond := some uptoSmall }

/-- 'lamplightlaw07.MasterOnce', WHERE WHAT IT READS IS OF BULK AT MOST 1048576: true; the input reads as it did. -/
def masterOnceUptoRow : OpenClaim := { program := "ytdgbmiobfehpdaa", sum := "a701f3d97eb30ad59b80c1ff70b3d256e5ba7372b9e3b51900d4df5c029c151b", func := "lamplight/lamplightlaw07.MasterOnce", spec := "masterOnce", apart := false, narrowed := true }
def MasterOnceUptoSaid : Prop := masterOnceUptoRow.holds Try.pinned (OpenSpec.upto masterOnceSpec)

/-- 'lamplightlaw07.MasterTells', WHERE WHAT IT READS IS OF BULK AT MOST 1048576: true; the input reads as it did. -/
def masterTellsUptoRow : OpenClaim := { program := "ytdgbmiobfehpdaa", sum := "a701f3d97eb30ad59b80c1ff70b3d256e5ba7372b9e3b51900d4df5c029c151b", func := "lamplight/lamplightlaw07.MasterTells", spec := "masterTells", apart := false, narrowed := true }
def MasterTellsUptoSaid : Prop := masterTellsUptoRow.holds Try.pinned (OpenSpec.upto masterTellsSpec)

/-- 'lamplightlaw07.MasterDead', WHERE WHAT IT READS IS OF BULK AT MOST 1048576: true; the input reads as it did. -/
def masterDeadUptoRow : OpenClaim := { program := "ytdgbmiobfehpdaa", sum := "a701f3d97eb30ad59b80c1ff70b3d256e5ba7372b9e3b51900d4df5c029c151b", func := "lamplight/lamplightlaw07.MasterDead", spec := "masterDead", apart := false, narrowed := true }
def MasterDeadUptoSaid : Prop := masterDeadUptoRow.holds Try.pinned (OpenSpec.upto masterDeadSpec)

/-- 'lamplightlaw07.MasterStrange', WHERE WHAT IT READS IS OF BULK AT MOST 1048576: true; the input reads as it did. -/
def masterStrangeUptoRow : OpenClaim := { program := "ytdgbmiobfehpdaa", sum := "a701f3d97eb30ad59b80c1ff70b3d256e5ba7372b9e3b51900d4df5c029c151b", func := "lamplight/lamplightlaw07.MasterStrange", spec := "masterStrange", apart := false, narrowed := true }
def MasterStrangeUptoSaid : Prop := masterStrangeUptoRow.holds Try.pinned (OpenSpec.upto masterStrangeSpec)

/-- 'lamplightlaw07.MasterSame', WHERE WHAT IT READS IS OF BULK AT MOST 1048576: true; the input reads as it did. -/
def masterSameUptoRow : OpenClaim := { program := "ytdgbmiobfehpdaa", sum := "a701f3d97eb30ad59b80c1ff70b3d256e5ba7372b9e3b51900d4df5c029c151b", func := "lamplight/lamplightlaw07.MasterSame", spec := "masterSame", apart := false, narrowed := true }
def MasterSameUptoSaid : Prop := masterSameUptoRow.holds Try.pinned (OpenSpec.upto masterSameSpec)

/-- 'lamplightlaw07.MasterSends', WHERE WHAT IT READS IS OF BULK AT MOST 1048576: true; the input reads as it did. -/
def masterSendsUptoRow : OpenClaim := { program := "ytdgbmiobfehpdaa", sum := "a701f3d97eb30ad59b80c1ff70b3d256e5ba7372b9e3b51900d4df5c029c151b", func := "lamplight/lamplightlaw07.MasterSends", spec := "masterSends", apart := false, narrowed := true }
def MasterSendsUptoSaid : Prop := masterSendsUptoRow.holds Try.pinned (OpenSpec.upto masterSendsSpec)

/-- 'lamplightlaw07.MasterCloses', WHERE WHAT IT READS IS OF BULK AT MOST 1048576: true; the input reads as it did. -/
def masterClosesUptoRow : OpenClaim := { program := "ytdgbmiobfehpdaa", sum := "a701f3d97eb30ad59b80c1ff70b3d256e5ba7372b9e3b51900d4df5c029c151b", func := "lamplight/lamplightlaw07.MasterCloses", spec := "masterCloses", apart := false, narrowed := true }
def MasterClosesUptoSaid : Prop := masterClosesUptoRow.holds Try.pinned (OpenSpec.upto masterClosesSpec)

end Rows
end Go.Proofs.Ytdgbmiobfehpdaa
