/- Two ends and two wires, in plain Lean: no program, no memory. -/
import Derived.Test.YtmhdckpmkgkglaaMa
set_option linter.unusedVariables false
set_option linter.unusedSimpArgs false
namespace Go.Proofs.Ytmhdckpmkgkglaa

/-- A line. -/
structure LS where
  M : MS
  S : SS
  down : List FR
  up : List FR
  sent : Nat
  came : Nat
  offered : Nat
  heard : Nat

def two (n : Nat) (k : UInt8) : List UInt8 := [UInt8.ofNat n, k]
theorem two_len (n : Nat) (k : UInt8) : (two n k).length = 2 := rfl

def LS.sendF (L : LS) : LS := { L with M := (L.M.sendF (two L.sent 1)).2, sent := if (L.M.sendF (two L.sent 1)).1 = 0 then L.sent + 1 else L.sent }
def LS.offerF (L : LS) : LS := { L with S := (Go.Proofs.Ytmhdckpmkgkglaa.offerF L.S (two L.offered 2)).2, offered := if (Go.Proofs.Ytmhdckpmkgkglaa.offerF L.S (two L.offered 2)).1 = 0 then L.offered + 1 else L.offered }
def LS.nextF (L : LS) : LS := if L.down.length < 20 then { L with down := L.down ++ [L.M.nextF] } else L
def LS.takeF (L : LS) : Bool × LS :=
  match L.down with
  | [] => (true, L)
  | f :: ds =>
    if 20 ≤ L.up.length then (true, L)
    else
      let q := Go.Proofs.Ytmhdckpmkgkglaa.takeF L.S f
      if q.2.2.1 = false then (false, { L with S := q.2.2.2, down := ds })
      else if q.2.1.length = 0 then (true, { L with S := q.2.2.2, down := ds, up := L.up ++ [q.1] })
      else if L.sent ≤ L.came ∨ q.2.1 ≠ two L.came 1 then (false, { L with S := q.2.2.2, down := ds, up := L.up ++ [q.1] })
      else (true, { L with S := q.2.2.2, down := ds, up := L.up ++ [q.1], came := L.came + 1 })
def LS.heardF (L : LS) : Bool × LS :=
  match L.up with
  | [] => (true, L)
  | f :: us =>
    let q := L.M.heardF f
    if q.2.1 = false then (false, { L with M := q.2.2, up := us })
    else if q.1.length = 0 then (true, { L with M := q.2.2, up := us })
    else if L.offered ≤ L.heard ∨ q.1 ≠ two L.heard 2 then (false, { L with M := q.2.2, up := us })
    else (true, { L with M := q.2.2, up := us, heard := L.heard + 1 })
def dupF (l : List FR) : List FR :=
  match l with
  | [] => []
  | f :: fs => if fs.length + 1 < 20 then f :: f :: fs else f :: fs
def LS.doesF (L : LS) (k : Int) : Bool × LS :=
  if k = 0 then (true, L.sendF)
  else if k = 1 then (true, L.offerF)
  else if k = 2 ∨ k = 3 then (true, L.nextF)
  else if k = 4 ∨ k = 5 ∨ k = 6 then L.takeF
  else if k = 7 ∨ k = 8 ∨ k = 9 then L.heardF
  else if k = 10 then (true, { L with down := L.down.tail })
  else if k = 11 then (true, { L with up := L.up.tail })
  else if k = 12 then (true, { L with down := dupF L.down })
  else if k = 13 then (true, { L with up := dupF L.up })
  else (true, L)
end Go.Proofs.Ytmhdckpmkgkglaa
