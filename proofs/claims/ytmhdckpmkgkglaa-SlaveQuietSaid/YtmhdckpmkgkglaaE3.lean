/- A frame that is handed in by value, read. -/
import Derived.Test.YtmhdckpmkgkglaaE2
import Derived.WideShapes
set_option linter.unusedVariables false
namespace Go.Proofs.Ytmhdckpmkgkglaa
open Go.RowKit Go.ChangeShapes Go.WideShapes
theorem frame_v {H : Type} {enc : TypeId × Value → H} {W : World} {base fuel : Nat} {held : Bool} {v : Value} {d : DataW H × List MemPlace}
    (hv : Value.okWide Try.prog W .any base 29 v) (hf : DataW.trod enc Try.prog W 0 (fun _ => true) held fuel 29 v.cells.toList = some d) : FrameV W v := by
  obtain ⟨cs, rfl, hsz⟩ := okWide_struct Try.underlying29 hv
  obtain ⟨a, k, s, q, c, A, n, cp, z, he, hr, h1, h2⟩ := frame_in hf
  refine ⟨a, k, s, q, c, A, n, cp, z, ?_, hr, h1, h2⟩
  have : cs.toList = [.int .u8 a, .int .u8 k, .int .u8 s, .int .u8 q, .int .u8 c, .slice A n cp] := he
  rw [← Array.toArray_toList (xs := cs), this]
end Go.Proofs.Ytmhdckpmkgkglaa
