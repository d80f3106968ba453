/- A number and a mask. -/
import Derived.Test.YtklhfbgmadblcaaDoorLib
namespace Go.Proofs.YtklhfbgmadblcaaDoor
open Go.RowKit
set_option linter.unusedVariables false
set_option linter.unusedSimpArgs false

theorem and_mask (n : Int) : ∃ m : Nat, bits .and .i64 n 4611686018427387903 = (m : Int) ∧ m ≤ 4611686018427387903 := by
  have h : (BitVec.ofInt 64 n &&& BitVec.ofInt 64 4611686018427387903).toNat ≤ 4611686018427387903 := by
    rw [BitVec.toNat_and]
    exact Nat.le_trans Nat.and_le_right (by decide)
  refine ⟨(BitVec.ofInt 64 n &&& BitVec.ofInt 64 4611686018427387903).toNat, ?_, h⟩
  show IntKind.i64.wrap ((BitVec.ofInt 64 n &&& BitVec.ofInt 64 4611686018427387903).toNat : Int) = _
  generalize (BitVec.ofInt 64 n &&& BitVec.ofInt 64 4611686018427387903).toNat = k at *
  rw [IntKind.wrap_i64]
  omega
end Go.Proofs.YtklhfbgmadblcaaDoor
