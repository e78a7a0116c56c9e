/- What the master's texts want of this seat: frames, bytes, steps. -/
import Derived.Test.YtmhdckpmkgkglaaSt
import Derived.Test.YtmhdckpmkgkglaaEq
import Derived.Test.YtmhdckpmkgkglaaRf
set_option linter.unusedVariables false
set_option linter.unusedSimpArgs false
namespace Go.Proofs.Ytmhdckpmkgkglaa
open Go.RowKit
theorem fieldFrame2 (a k s q c : Int) (v : Value) (W : World) : (Instr.field 29 (.agg #[.int .u8 a, .int .u8 k, .int .u8 s, .int .u8 q, .int .u8 c, v]) 2).run Try.prog W = .ok (.int .u8 s) W := by kernel_rfl
theorem fieldFrame4 (a k s q c : Int) (v : Value) (W : World) : (Instr.field 29 (.agg #[.int .u8 a, .int .u8 k, .int .u8 s, .int .u8 q, .int .u8 c, v]) 4).run Try.prog W = .ok (.int .u8 c) W := by kernel_rfl
end Go.Proofs.Ytmhdckpmkgkglaa
