/- The reference's frames compared. -/
import Derived.Test.YtmhdckpmkgkglaaLw
import Derived.Test.YtmhdckpmkgkglaaMod
import Derived.Laws.StructEq
set_option linter.unusedVariables false
set_option linter.unusedSimpArgs false
namespace Go.Proofs.Ytmhdckpmkgkglaa
open Go.RowKit

set_option maxRecDepth 100000 in
theorem eq46 (a k s q c : Int) (b : ByteArray) (w : World) :
    (binOp .eql 46 (.agg #[.int .u8 a, .int .u8 k, .int .u8 s, .int .u8 q, .int .u8 c, .string b]) (.agg #[.int .u8 a, .int .u8 k, .int .u8 s, .int .u8 q, .int .u8 c, .string b])).run Try.prog w = .ok (.bool true) w := by
  have hp : Try.prog.stoodInHeld 46 = false := by kernel_rfl
  have ht : Try.prog.underlying 46 = some (.struct (Try.prog.fieldsOf 46)) := by kernel_rfl
  have hf : Try.prog.fieldsOf 46 = #[{ name := "Addr", type := 5, offset := 0, embedded := false, tag := "", pkgPath := "", byteOffset := 0 },
        { name := "Kind", type := 5, offset := 1, embedded := false, tag := "", pkgPath := "", byteOffset := 1 },
        { name := "Session", type := 5, offset := 2, embedded := false, tag := "", pkgPath := "", byteOffset := 2 },
        { name := "Seq", type := 5, offset := 3, embedded := false, tag := "", pkgPath := "", byteOffset := 3 },
        { name := "Ack", type := 5, offset := 4, embedded := false, tag := "", pkgPath := "", byteOffset := 4 },
        { name := "B", type := 9, offset := 5, embedded := false, tag := "", pkgPath := "", byteOffset := 8 }] := by kernel_rfl
  rw [run_eql_struct, show (10000 : Nat) = 9999 + 1 from rfl, run_equalIn_agg w 9999 46 _ _ ht hp, hf]
  have h5 := Try.underlying5
  have h9 := Try.underlying9
  simp only [Op.eqFields]
  go_simp
theorem guard46 (x y : Operand) (xs ys : Array Value) (w : World) : (eqGuard .eql 46 x y (.agg xs) (.agg ys)).run Try.prog w = .ok () w :=
  run_eqGuard_agg w .eql 46 x y xs ys (by kernel_rfl)

theorem take_len {S S1 : SS} {f r : FR} {cmd : List UInt8} {ok : Bool} (h : takeF S f = (r, cmd, ok, S1)) (h0 : S.pend.length ≤ 24) : r.b.length ≤ 24 ∧ cmd.length ≤ f.b.length := by
  unfold takeF at h
  split at h
  · cases h; simp [FR.zero]
  · split at h
    · cases h; simp
    · split at h
      · cases h; simp
      · cases h
        have a1 : ∀ T : SS, (T.took f).pend = T.pend := fun T => by unfold SS.took; split <;> rfl
        have a2 : (S.heard f).pend.length ≤ 24 := by unfold SS.heard; split <;> simp [h0]
        refine ⟨by simpa [a1] using a2, ?_⟩
        unfold SS.command
        split <;> simp
end Go.Proofs.Ytmhdckpmkgkglaa
