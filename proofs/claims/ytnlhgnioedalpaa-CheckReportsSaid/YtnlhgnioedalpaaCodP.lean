/- small laws on bits of numbers. -/
import Derived.WalkKit
import Derived.Laws.Bits128
set_option linter.unusedVariables false
namespace Go.Proofs.Ytnlhgnioedalpaa
open Go.RowKit

theorem u64_and (a b : Int) : bits .and .u64 a b = (((BitVec.ofInt 64 a &&& BitVec.ofInt 64 b).toNat : Nat) : Int) := by
  show IntKind.u64.wrap ((BitVec.ofInt 64 a &&& BitVec.ofInt 64 b).toNat : Nat) = _
  have h := (BitVec.ofInt 64 a &&& BitVec.ofInt 64 b).isLt
  rw [IntKind.wrap_u64]
  omega
end Go.Proofs.Ytnlhgnioedalpaa

/- layer 5, plain: whole numbers and numbers with a sign as bytes, and back. -/
set_option linter.unusedVariables false
namespace Go.Proofs.Ytnlhgnioedalpaa.CodL

/-- how many bytes a whole number has at the head of some; an error -/
def lenAux : Nat → List Int → Nat × Int
  | _, [] => (0, 21)
  | i, c :: cs => if i = 10 ∨ (i = 9 ∧ 1 < c) then (0, 20) else if 128 ≤ c then lenAux (i + 1) cs else if c = 0 ∧ 0 < i then (0, 20) else (i + 1, 0)
/-- the value of some bytes -/
def val : List Int → Nat
  | [] => 0
  | c :: cs => c.toNat % 128 + 128 * val cs

/-- what is left, the error -/
abbrev St := List Int × Int
def failS (s : St) (e : Int) : St := ([], if s.2 = 0 then e else s.2)
def takeU (s : St) : St × Nat :=
  if s.2 = 0 then
    if (lenAux 0 s.1).2 = 0 then ((s.1.drop (lenAux 0 s.1).1, 0), val (s.1.take (lenAux 0 s.1).1)) else (failS s (lenAux 0 s.1).2, 0)
  else (s, 0)
/-- bytes: none beside an error -/
def takeB (s : St) (most : Int) : St × List Int :=
  let r := takeU s
  if r.1.2 = 0 then
    if max most 0 < r.2 then (failS r.1 2, [])
    else if r.1.1.length < r.2 then (failS r.1 21, [])
    else ((r.1.1.drop r.2, 0), r.1.1.take r.2)
  else (r.1, [])
/-- so many of a list -/
def takeL {α : Type} (one : St → St × α) : Nat → St → List α → St × List α
  | 0, s, out => (s, out)
  | k + 1, s, out => if s.2 = 0 then takeL one k (one s).1 (out ++ [(one s).2]) else (s, [])
def takeN {α : Type} (one : St → St × α) (s : St) (most : Int) : St × List α :=
  let r := takeU s
  if r.1.2 = 0 then
    if max most 0 < r.2 then (failS r.1 3, [])
    else
      let q := takeL one r.2 r.1 []
      if q.1.2 = 0 then q else (q.1, [])
  else (r.1, [])
/-- a list that all bytes are -/
def allN {α : Type} (one : St → St × α) (bs : List Int) (most : Int) : List α × Int :=
  let r := takeN one (bs, 0) most
  if r.1.2 = 0 then if 0 < r.1.1.length then ([], 20) else (r.2, 0) else ([], r.1.2)

end Go.Proofs.Ytnlhgnioedalpaa.CodL

/- layer 5, plain: what is written is read as it, and back; a proper beginning is short. -/
set_option linter.unusedVariables false
namespace Go.Proofs.Ytnlhgnioedalpaa.CodL

/-! and back -/
/-! a proper beginning -/
end Go.Proofs.Ytnlhgnioedalpaa.CodL
