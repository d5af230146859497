/- small laws on bits of numbers. -/
import Derived.WalkKit
import Derived.Laws.Bits128
set_option linter.unusedVariables false
namespace Go.Proofs.Ytnlhgnioedalpaa
open Go.RowKit

theorem u64_and (a b : Int) : bits .and .u64 a b = (((BitVec.ofInt 64 a &&& BitVec.ofInt 64 b).toNat : Nat) : Int) := by
  show IntKind.u64.wrap ((BitVec.ofInt 64 a &&& BitVec.ofInt 64 b).toNat : Nat) = _
  have h := (BitVec.ofInt 64 a &&& BitVec.ofInt 64 b).isLt
  rw [IntKind.wrap_u64]
  omega
end Go.Proofs.Ytnlhgnioedalpaa

/- layer 5, plain: whole numbers and numbers with a sign as bytes, and back. -/
set_option linter.unusedVariables false
namespace Go.Proofs.Ytnlhgnioedalpaa.CodL

/-- the value of some bytes -/
def val : List Int → Nat
  | [] => 0
  | c :: cs => c.toNat % 128 + 128 * val cs

end Go.Proofs.Ytnlhgnioedalpaa.CodL

/- layer 5, plain: what is written is read as it, and back; a proper beginning is short. -/
set_option linter.unusedVariables false
namespace Go.Proofs.Ytnlhgnioedalpaa.CodL

/-! and back -/
/-! a proper beginning -/
end Go.Proofs.Ytnlhgnioedalpaa.CodL
