/- Small words for walks: masks, least of two. -/
import Derived.Test.YtmkbleeideddkaaBase
import Derived.IntWalk
import Derived.Laws.BitsAllLaws
set_option linter.unusedVariables false
namespace Go.Proofs.Ytmkbleeideddkaa
open Go.RowKit

theorem and_i64 (n : Int) (m : Nat) (hm : m < 4611686018427387904) : ∃ q : Nat, bits BinOp.and IntKind.i64 n (m : Int) = (q : Int) ∧ q ≤ m := by
  refine ⟨(BitVec.ofInt 64 n).toNat &&& m, ?_, Nat.and_le_right⟩
  have hle : (BitVec.ofInt 64 n).toNat &&& m ≤ m := Nat.and_le_right
  show IntKind.i64.wrap ((BitVec.ofInt 64 n &&& BitVec.ofInt 64 (m : Int)).toNat : Int) = _
  rw [BitVec.toNat_and]
  have e : (BitVec.ofInt 64 (m : Int)).toNat = m := by
    rw [BitVec.ofInt_natCast, BitVec.toNat_ofNat]
    exact Nat.mod_eq_of_lt (by omega)
  rw [e]
  exact IntWalk.i64_in _ (by omega)
theorem and_u8 (n : Int) (m : Nat) (hm : m < 256) : ∃ q : Nat, bits BinOp.and IntKind.u8 n (m : Int) = (q : Int) ∧ q ≤ m := by
  refine ⟨(BitVec.ofInt 8 n).toNat &&& m, ?_, Nat.and_le_right⟩
  have hle : (BitVec.ofInt 8 n).toNat &&& m ≤ m := Nat.and_le_right
  show IntKind.u8.wrap ((BitVec.ofInt 8 n &&& BitVec.ofInt 8 (m : Int)).toNat : Int) = _
  rw [BitVec.toNat_and]
  have e : (BitVec.ofInt 8 (m : Int)).toNat = m := by
    rw [BitVec.ofInt_natCast, BitVec.toNat_ofNat]
    exact Nat.mod_eq_of_lt (by omega)
  rw [e, IntKind.wrap_u8']
  omega
theorem min_nat (n m : Nat) : ∃ k : Nat, k ≤ n ∧ k ≤ m ∧ k = min n m ∧ (if (m : Int) < (n : Int) then (m : Int) else (n : Int)) = (k : Int) := by
  by_cases h : m < n
  · exact ⟨m, by omega, by omega, by omega, by rw [if_pos (by omega)]⟩
  · exact ⟨n, by omega, by omega, by omega, by rw [if_neg (by omega)]⟩
theorem one_byte (k : Nat) (hk : k < 256) : bytesV [UInt8.ofNat k] = [.int .u8 (k : Int)] := by
  simp only [bytesV, List.map_cons, List.map_nil, UInt8.toNat_ofNat']
  congr 2
  omega
theorem reads_one {w : World} {b t : Nat} {k : Nat} {fr : Nat × Nat} (h : w.heap[b]? = some (.cells #[.int .u8 (k : Int)] t fr)) (hk : k < 256) : ReadsB w (.slice (some ⟨b, 0, none⟩) 1 1) [UInt8.ofNat k] := by
  refine ⟨_, _, rfl, Nat.le_refl _, by simp, (fun e => by cases e), fun ad he j u hu => ?_⟩
  cases he
  rw [one_byte k hk] at hu
  have : (⟨b, 0, none⟩ : Addr).add j = ⟨b, j, none⟩ := by unfold Addr.add; split <;> simp_all
  rw [this, blk_cell h j]
  simpa using hu
end Go.Proofs.Ytmkbleeideddkaa
