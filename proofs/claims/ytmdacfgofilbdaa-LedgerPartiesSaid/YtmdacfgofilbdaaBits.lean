/- small laws on bits of numbers. -/
import Derived.WalkKit
import Derived.Laws.Bits128
set_option linter.unusedVariables false
namespace Go.Proofs.Ytmdacfgofilbdaa
open Go.RowKit

theorem u64_bits_xor (a b : Int) : bits .xor .u64 a b = (((BitVec.ofInt 64 a ^^^ BitVec.ofInt 64 b).toNat : Nat) : Int) := by
  show IntKind.u64.wrap ((BitVec.ofInt 64 a ^^^ BitVec.ofInt 64 b).toNat : Nat) = _
  have h := (BitVec.ofInt 64 a ^^^ BitVec.ofInt 64 b).isLt
  rw [IntKind.wrap_u64]
  omega
theorem u64_xor0 {a : Int} (h0 : 0 ≤ a) (h1 : a < 18446744073709551616) : bits .xor .u64 a 0 = a := by
  rw [u64_bits_xor]
  simp only [show BitVec.ofInt 64 0 = 0#64 from rfl, BitVec.xor_zero, BitVec.toNat_ofInt]
  omega
theorem u64_xorF {a : Int} (h0 : 0 ≤ a) (h1 : a < 18446744073709551616) : bits .xor .u64 a 18446744073709551615 = 18446744073709551615 - a := by
  rw [u64_bits_xor]
  have e : BitVec.ofInt 64 18446744073709551615 = BitVec.allOnes 64 := by decide
  rw [e, BitVec.xor_allOnes, BitVec.toNat_not, BitVec.toNat_ofInt]
  omega
theorem i64_bits_xor (a b : Int) : bits .xor .i64 a b = (BitVec.ofInt 64 a ^^^ BitVec.ofInt 64 b).toInt := by
  show IntKind.i64.wrap ((BitVec.ofInt 64 a ^^^ BitVec.ofInt 64 b).toNat : Nat) = _
  have h := (BitVec.ofInt 64 a ^^^ BitVec.ofInt 64 b).isLt
  rw [IntKind.wrap_i64, BitVec.toInt_eq_toNat_cond]
  split <;> omega
theorem i64_xor0 {a : Int} (h0 : 0 ≤ a) (h1 : a < 9223372036854775808) : bits .xor .i64 a 0 = a := by
  rw [i64_bits_xor]
  simp only [show BitVec.ofInt 64 0 = 0#64 from rfl, BitVec.xor_zero, BitVec.toInt_ofInt]
  rw [Int.bmod_def]
  omega
theorem i64_xorF {a : Int} (h0 : 0 ≤ a) (h1 : a < 9223372036854775808) : bits .xor .i64 a (-1) = -a - 1 := by
  rw [i64_bits_xor]
  have e : BitVec.ofInt 64 (-1) = BitVec.allOnes 64 := by decide
  rw [e, BitVec.xor_allOnes, BitVec.toInt_not, BitVec.toNat_ofInt]
  rw [Int.bmod_def]
  omega
theorem u64_and (a b : Int) : bits .and .u64 a b = (((BitVec.ofInt 64 a &&& BitVec.ofInt 64 b).toNat : Nat) : Int) := by
  show IntKind.u64.wrap ((BitVec.ofInt 64 a &&& BitVec.ofInt 64 b).toNat : Nat) = _
  have h := (BitVec.ofInt 64 a &&& BitVec.ofInt 64 b).isLt
  rw [IntKind.wrap_u64]
  omega
theorem u64_and_low (k : Nat) {m : Int} (hm : (BitVec.ofInt 64 m).toNat = 2 ^ k - 1) (n : Nat) (hn : n < 18446744073709551616) : bits .and .u64 (n : Int) m = ((n % 2 ^ k : Nat) : Int) := by
  rw [u64_and, BitVec.toNat_and, hm, Nat.and_two_pow_sub_one_eq_mod, BitVec.toNat_ofInt]
  congr 2
  omega
theorem u64_and1 (n : Nat) (hn : n < 18446744073709551616) : bits .and .u64 (n : Int) 1 = ((n % 2 : Nat) : Int) := u64_and_low 1 (by decide) n hn
theorem u64_or (a b : Int) : bits .or .u64 a b = (((BitVec.ofInt 64 a ||| BitVec.ofInt 64 b).toNat : Nat) : Int) := by
  show IntKind.u64.wrap ((BitVec.ofInt 64 a ||| BitVec.ofInt 64 b).toNat : Nat) = _
  have h := (BitVec.ofInt 64 a ||| BitVec.ofInt 64 b).isLt
  rw [IntKind.wrap_u64]
  omega
/-- what lies below a power of two, and what is a multiple of it -/
theorem u64_or_add {a b k : Nat} (ha : a < 2 ^ k) (hb : 2 ^ k * b < 18446744073709551616) (hk : a < 18446744073709551616) : bits .or .u64 (a : Int) ((2 ^ k * b : Nat) : Int) = ((a + 2 ^ k * b : Nat) : Int) := by
  rw [u64_or, BitVec.toNat_or, BitVec.toNat_ofInt, BitVec.toNat_ofInt]
  have e1 : ((a : Int) % ((2 ^ 64 : Nat) : Int)).toNat = a := by omega
  have e2 : (((2 ^ k * b : Nat) : Int) % ((2 ^ 64 : Nat) : Int)).toNat = 2 ^ k * b := by omega
  rw [e1, e2, Nat.or_comm, ← Nat.two_pow_add_eq_or_of_lt ha, Nat.add_comm]

theorem u8_and127 {x : Int} (h0 : 0 ≤ x) (h1 : x < 256) : bits .and .u8 x 127 = ((x.toNat % 128 : Nat) : Int) := by
  have h : ∀ y : Fin 256, bits .and .u8 ((y.val : Nat) : Int) 127 = ((y.val % 128 : Nat) : Int) := by decide +kernel
  obtain ⟨n, rfl⟩ := Int.eq_ofNat_of_zero_le h0
  exact h ⟨n, by omega⟩
/-- seven bits more -/
theorem u64_or_shl {x : Int} (h0 : 0 ≤ x) (h1 : x < 256) {y k : Nat} (hy : y < 2 ^ (7 * k)) (hx : 2 ^ (7 * k) * (x.toNat % 128) < 18446744073709551616) (hy2 : y < 18446744073709551616) :
    bits .or .u64 (y : Int) (IntKind.u64.wrap (IntKind.u64.wrap (bits .and .u8 x 127) * 2 ^ (7 * k))) = ((y + 2 ^ (7 * k) * (x.toNat % 128) : Nat) : Int) := by
  rw [u8_and127 h0 h1]
  have e1 : IntKind.u64.wrap ((x.toNat % 128 : Nat) : Int) = ((x.toNat % 128 : Nat) : Int) := by rw [IntKind.wrap_u64]; omega
  have e2 : (((x.toNat % 128 : Nat) : Int) * 2 ^ (7 * k)) = ((2 ^ (7 * k) * (x.toNat % 128) : Nat) : Int) := by
    push_cast
    rw [Int.mul_comm]
  rw [e1, e2]
  have e3 : IntKind.u64.wrap ((2 ^ (7 * k) * (x.toNat % 128) : Nat) : Int) = ((2 ^ (7 * k) * (x.toNat % 128) : Nat) : Int) := by
    rw [IntKind.wrap_u64]
    generalize 2 ^ (7 * k) * (x.toNat % 128) = z at *
    omega
  rw [e3]
  exact u64_or_add hy hx hy2

end Go.Proofs.Ytmdacfgofilbdaa
