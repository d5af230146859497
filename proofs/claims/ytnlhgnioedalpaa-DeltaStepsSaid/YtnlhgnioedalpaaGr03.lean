/- CodP, PriM, PriE, laid together. -/
import Derived.WalkKit
import Derived.Laws.Bits128
import Derived.Test.YtnlhgnioedalpaaGr01
import Derived.Test.YtnlhgnioedalpaaGr02
import Derived.Test.YtnlhgnioedalpaaPPricePlaysx2
import Derived.Maps.AppendAt
import Derived.Lib.SliceRun

/- small laws on bits of numbers. -/
set_option linter.unusedVariables false
namespace Go.Proofs.Ytnlhgnioedalpaa
open Go.RowKit

theorem u64_bits_xor (a b : Int) : bits .xor .u64 a b = (((BitVec.ofInt 64 a ^^^ BitVec.ofInt 64 b).toNat : Nat) : Int) := by
  show IntKind.u64.wrap ((BitVec.ofInt 64 a ^^^ BitVec.ofInt 64 b).toNat : Nat) = _
  have h := (BitVec.ofInt 64 a ^^^ BitVec.ofInt 64 b).isLt
  rw [IntKind.wrap_u64]
  omega
theorem u64_xor0 {a : Int} (h0 : 0 ≤ a) (h1 : a < 18446744073709551616) : bits .xor .u64 a 0 = a := by
  rw [u64_bits_xor]
  simp only [show BitVec.ofInt 64 0 = 0#64 from rfl, BitVec.xor_zero, BitVec.toNat_ofInt]
  omega
theorem u64_xorF {a : Int} (h0 : 0 ≤ a) (h1 : a < 18446744073709551616) : bits .xor .u64 a 18446744073709551615 = 18446744073709551615 - a := by
  rw [u64_bits_xor]
  have e : BitVec.ofInt 64 18446744073709551615 = BitVec.allOnes 64 := by decide
  rw [e, BitVec.xor_allOnes, BitVec.toNat_not, BitVec.toNat_ofInt]
  omega
theorem i64_bits_xor (a b : Int) : bits .xor .i64 a b = (BitVec.ofInt 64 a ^^^ BitVec.ofInt 64 b).toInt := by
  show IntKind.i64.wrap ((BitVec.ofInt 64 a ^^^ BitVec.ofInt 64 b).toNat : Nat) = _
  have h := (BitVec.ofInt 64 a ^^^ BitVec.ofInt 64 b).isLt
  rw [IntKind.wrap_i64, BitVec.toInt_eq_toNat_cond]
  split <;> omega
theorem i64_xor0 {a : Int} (h0 : 0 ≤ a) (h1 : a < 9223372036854775808) : bits .xor .i64 a 0 = a := by
  rw [i64_bits_xor]
  simp only [show BitVec.ofInt 64 0 = 0#64 from rfl, BitVec.xor_zero, BitVec.toInt_ofInt]
  rw [Int.bmod_def]
  omega
theorem i64_xorF {a : Int} (h0 : 0 ≤ a) (h1 : a < 9223372036854775808) : bits .xor .i64 a (-1) = -a - 1 := by
  rw [i64_bits_xor]
  have e : BitVec.ofInt 64 (-1) = BitVec.allOnes 64 := by decide
  rw [e, BitVec.xor_allOnes, BitVec.toInt_not, BitVec.toNat_ofInt]
  rw [Int.bmod_def]
  omega
theorem u64_and (a b : Int) : bits .and .u64 a b = (((BitVec.ofInt 64 a &&& BitVec.ofInt 64 b).toNat : Nat) : Int) := by
  show IntKind.u64.wrap ((BitVec.ofInt 64 a &&& BitVec.ofInt 64 b).toNat : Nat) = _
  have h := (BitVec.ofInt 64 a &&& BitVec.ofInt 64 b).isLt
  rw [IntKind.wrap_u64]
  omega
theorem u64_and_low (k : Nat) {m : Int} (hm : (BitVec.ofInt 64 m).toNat = 2 ^ k - 1) (n : Nat) (hn : n < 18446744073709551616) : bits .and .u64 (n : Int) m = ((n % 2 ^ k : Nat) : Int) := by
  rw [u64_and, BitVec.toNat_and, hm, Nat.and_two_pow_sub_one_eq_mod, BitVec.toNat_ofInt]
  congr 2
  omega
theorem u64_and1 (n : Nat) (hn : n < 18446744073709551616) : bits .and .u64 (n : Int) 1 = ((n % 2 : Nat) : Int) := u64_and_low 1 (by decide) n hn
theorem u64_or (a b : Int) : bits .or .u64 a b = (((BitVec.ofInt 64 a ||| BitVec.ofInt 64 b).toNat : Nat) : Int) := by
  show IntKind.u64.wrap ((BitVec.ofInt 64 a ||| BitVec.ofInt 64 b).toNat : Nat) = _
  have h := (BitVec.ofInt 64 a ||| BitVec.ofInt 64 b).isLt
  rw [IntKind.wrap_u64]
  omega
/-- what lies below a power of two, and what is a multiple of it -/
theorem u64_or_add {a b k : Nat} (ha : a < 2 ^ k) (hb : 2 ^ k * b < 18446744073709551616) (hk : a < 18446744073709551616) : bits .or .u64 (a : Int) ((2 ^ k * b : Nat) : Int) = ((a + 2 ^ k * b : Nat) : Int) := by
  rw [u64_or, BitVec.toNat_or, BitVec.toNat_ofInt, BitVec.toNat_ofInt]
  have e1 : ((a : Int) % ((2 ^ 64 : Nat) : Int)).toNat = a := by omega
  have e2 : (((2 ^ k * b : Nat) : Int) % ((2 ^ 64 : Nat) : Int)).toNat = 2 ^ k * b := by omega
  rw [e1, e2, Nat.or_comm, ← Nat.two_pow_add_eq_or_of_lt ha, Nat.add_comm]

theorem u8_and127 {x : Int} (h0 : 0 ≤ x) (h1 : x < 256) : bits .and .u8 x 127 = ((x.toNat % 128 : Nat) : Int) := by
  have h : ∀ y : Fin 256, bits .and .u8 ((y.val : Nat) : Int) 127 = ((y.val % 128 : Nat) : Int) := by decide +kernel
  obtain ⟨n, rfl⟩ := Int.eq_ofNat_of_zero_le h0
  exact h ⟨n, by omega⟩
/-- seven bits more -/
theorem u64_or_shl {x : Int} (h0 : 0 ≤ x) (h1 : x < 256) {y k : Nat} (hy : y < 2 ^ (7 * k)) (hx : 2 ^ (7 * k) * (x.toNat % 128) < 18446744073709551616) (hy2 : y < 18446744073709551616) :
    bits .or .u64 (y : Int) (IntKind.u64.wrap (IntKind.u64.wrap (bits .and .u8 x 127) * 2 ^ (7 * k))) = ((y + 2 ^ (7 * k) * (x.toNat % 128) : Nat) : Int) := by
  rw [u8_and127 h0 h1]
  have e1 : IntKind.u64.wrap ((x.toNat % 128 : Nat) : Int) = ((x.toNat % 128 : Nat) : Int) := by rw [IntKind.wrap_u64]; omega
  have e2 : (((x.toNat % 128 : Nat) : Int) * 2 ^ (7 * k)) = ((2 ^ (7 * k) * (x.toNat % 128) : Nat) : Int) := by
    push_cast
    rw [Int.mul_comm]
  rw [e1, e2]
  have e3 : IntKind.u64.wrap ((2 ^ (7 * k) * (x.toNat % 128) : Nat) : Int) = ((2 ^ (7 * k) * (x.toNat % 128) : Nat) : Int) := by
    rw [IntKind.wrap_u64]
    generalize 2 ^ (7 * k) * (x.toNat % 128) = z at *
    omega
  rw [e3]
  exact u64_or_add hy hx hy2

end Go.Proofs.Ytnlhgnioedalpaa

/- layer 5, plain: whole numbers and numbers with a sign as bytes, and back. -/
set_option linter.unusedVariables false
namespace Go.Proofs.Ytnlhgnioedalpaa.CodL

/-- a whole number as bytes -/
def uv (n : Nat) : List Int := if n < 128 then [(n : Int)] else ((128 + n % 128 : Nat) : Int) :: uv (n / 128)
termination_by n
decreasing_by omega
theorem uv_small {n : Nat} (h : n < 128) : uv n = [(n : Int)] := by rw [uv, if_pos h]
theorem uv_great {n : Nat} (h : ¬ n < 128) : uv n = ((128 + n % 128 : Nat) : Int) :: uv (n / 128) := by rw [uv, if_neg h]
theorem uv_len (k : Nat) : ∀ n, n < 128 ^ (k + 1) → (uv n).length ≤ k + 1 := by
  induction k with
  | zero => intro n h; rw [uv_small (by simpa using h)]; simp
  | succ k ih =>
    intro n h
    by_cases hn : n < 128
    · rw [uv_small hn]; simp
    · rw [uv_great hn, List.length_cons]
      have := ih (n / 128) (by rw [Nat.pow_succ] at h; omega)
      omega
theorem uv_len10 {n : Nat} (h : n < 18446744073709551616) : (uv n).length ≤ 10 := uv_len 9 n (by omega)
theorem uv_byte (n : Nat) : ∀ x ∈ uv n, 0 ≤ x ∧ x < 256 := by
  induction n using Nat.strongRecOn with
  | _ n ih =>
    intro x hx
    by_cases hn : n < 128
    · rw [uv_small hn] at hx; simp at hx; omega
    · rw [uv_great hn] at hx
      rcases List.mem_cons.1 hx with rfl | hx
      · omega
      · exact ih (n / 128) (by omega) x hx

/-- a number with a sign as a whole number -/
def zz (m : Int) : Nat := if 0 ≤ m then (2 * m).toNat else (-2 * m - 1).toNat
theorem zz_lt {m : Int} (h : -9223372036854775808 ≤ m ∧ m ≤ 9223372036854775807) : zz m < 18446744073709551616 := by unfold zz; split <;> omega
/-- and back -/
def zb (n : Nat) : Int := if n % 2 = 0 then (n / 2 : Nat) else - ((n / 2 : Nat) : Int) - 1
theorem zb_zz (m : Int) : zb (zz m) = m := by unfold zb zz; split <;> split <;> omega
/-- how many bytes a whole number has at the head of some; an error -/
def lenAux : Nat → List Int → Nat × Int
  | _, [] => (0, 21)
  | i, c :: cs => if i = 10 ∨ (i = 9 ∧ 1 < c) then (0, 20) else if 128 ≤ c then lenAux (i + 1) cs else if c = 0 ∧ 0 < i then (0, 20) else (i + 1, 0)
/-- the value of some bytes -/
def val : List Int → Nat
  | [] => 0
  | c :: cs => c.toNat % 128 + 128 * val cs

/-- what is left, the error -/
abbrev St := List Int × Int
def failS (s : St) (e : Int) : St := ([], if s.2 = 0 then e else s.2)
def takeU (s : St) : St × Nat :=
  if s.2 = 0 then
    if (lenAux 0 s.1).2 = 0 then ((s.1.drop (lenAux 0 s.1).1, 0), val (s.1.take (lenAux 0 s.1).1)) else (failS s (lenAux 0 s.1).2, 0)
  else (s, 0)
def takeI (s : St) : St × Int := ((takeU s).1, zb (takeU s).2)
/-- bytes: none beside an error -/
def takeB (s : St) (most : Int) : St × List Int :=
  let r := takeU s
  if r.1.2 = 0 then
    if max most 0 < r.2 then (failS r.1 2, [])
    else if r.1.1.length < r.2 then (failS r.1 21, [])
    else ((r.1.1.drop r.2, 0), r.1.1.take r.2)
  else (r.1, [])
/-- so many of a list -/
def takeL {α : Type} (one : St → St × α) : Nat → St → List α → St × List α
  | 0, s, out => (s, out)
  | k + 1, s, out => if s.2 = 0 then takeL one k (one s).1 (out ++ [(one s).2]) else (s, [])
def takeN {α : Type} (one : St → St × α) (s : St) (most : Int) : St × List α :=
  let r := takeU s
  if r.1.2 = 0 then
    if max most 0 < r.2 then (failS r.1 3, [])
    else
      let q := takeL one r.2 r.1 []
      if q.1.2 = 0 then q else (q.1, [])
  else (r.1, [])
/-- a list that all bytes are -/
def allN {α : Type} (one : St → St × α) (bs : List Int) (most : Int) : List α × Int :=
  let r := takeN one (bs, 0) most
  if r.1.2 = 0 then if 0 < r.1.1.length then ([], 20) else (r.2, 0) else ([], r.1.2)

theorem lenAux_ok (cs : List Int) : ∀ i, i ≤ 9 → (lenAux i cs).2 = 0 → i < (lenAux i cs).1 ∧ (lenAux i cs).1 ≤ i + cs.length ∧ (lenAux i cs).1 ≤ 10 ∧ (∀ j c, cs[j]? = some c → i + j = 9 → i + j < (lenAux i cs).1 → c ≤ 1) := by
  induction cs with
  | nil => intro i hi h; simp [lenAux] at h
  | cons c cs ih =>
    intro i hi h
    unfold lenAux at h ⊢
    by_cases h1 : i = 10 ∨ (i = 9 ∧ 1 < c)
    · rw [if_pos h1] at h; simp at h
    · rw [if_neg h1] at h ⊢
      by_cases h2 : 128 ≤ c
      · rw [if_pos h2] at h ⊢
        have h9 : i < 9 := by omega
        obtain ⟨k1, k2, k3, k4⟩ := ih (i + 1) (by omega) h
        refine ⟨by omega, by simp; omega, k3, fun j x hx hj hlt => ?_⟩
        cases j with
        | zero => omega
        | succ j => exact k4 j x (by simpa using hx) (by omega) (by omega)
      · rw [if_neg h2] at h ⊢
        by_cases h3 : c = 0 ∧ 0 < i
        · rw [if_pos h3] at h; simp at h
        · rw [if_neg h3] at h ⊢
          refine ⟨by simp, by simp, by simp; omega, fun j x hx hj hlt => ?_⟩
          simp only at hlt
          have : j = 0 := by omega
          subst this
          simp at hx
          subst hx
          omega
theorem val_snoc (xs : List Int) (c : Int) : val (xs ++ [c]) = val xs + 128 ^ xs.length * (c.toNat % 128) := by
  induction xs with
  | nil => simp [val]
  | cons x xs ih =>
    rw [List.cons_append, val, val, ih, List.length_cons, Nat.pow_succ]
    rw [Nat.mul_add, Nat.mul_comm (128 ^ xs.length) 128, Nat.mul_assoc]
    omega
theorem val_lt (xs : List Int) : val xs < 128 ^ xs.length := by
  induction xs with
  | nil => simp [val]
  | cons x xs ih =>
    rw [val, List.length_cons, Nat.pow_succ]
    omega
/-- one byte more of a whole number -/
theorem val_step {bs : List Int} {n i : Nat} (hb : ∀ x ∈ bs, 0 ≤ x ∧ x < 256) (h0 : (lenAux 0 bs).2 = 0) (hn : (lenAux 0 bs).1 = n) (hi : i < n) (hil : i < bs.length) :
    val (bs.take (i + 1)) = val (bs.take i) + 2 ^ (7 * i) * (bs[i].toNat % 128) ∧ val (bs.take i) < 2 ^ (7 * i) ∧ 2 ^ (7 * i) * (bs[i].toNat % 128) < 18446744073709551616 ∧ val (bs.take i) < 18446744073709551616 := by
  obtain ⟨k1, k2, k3, k4⟩ := lenAux_ok bs 0 (by omega) h0
  rw [hn] at k3 k4
  have hl : (bs.take i).length = i := by rw [List.length_take]; omega
  have hp : 128 ^ i = 2 ^ (7 * i) := by rw [Nat.pow_mul]
  have hv := val_lt (bs.take i)
  rw [hl, hp] at hv
  have hpow : 2 ^ (7 * i) ≤ 2 ^ 63 := Nat.pow_le_pow_right (by omega) (by omega)
  refine ⟨by rw [List.take_succ_eq_append_getElem hil, val_snoc, hl, hp], hv, ?_, by omega⟩
  by_cases h9 : i = 9
  · have := k4 i bs[i] (List.getElem?_eq_getElem hil) (by omega) (by omega)
    have h1 : bs[i].toNat % 128 ≤ 1 := by omega
    have := Nat.mul_le_mul hpow h1
    omega
  · have hp2 : 2 ^ (7 * i) ≤ 2 ^ 56 := Nat.pow_le_pow_right (by omega) (by omega)
    have h1 : bs[i].toNat % 128 ≤ 127 := by omega
    have := Nat.mul_le_mul hp2 h1
    omega
theorem val_take_lt {bs : List Int} (hb : ∀ x ∈ bs, 0 ≤ x ∧ x < 256) (h0 : (lenAux 0 bs).2 = 0) : val (bs.take (lenAux 0 bs).1) < 18446744073709551616 := by
  obtain ⟨k1, k2, k3, k4⟩ := lenAux_ok bs 0 (by omega) h0
  obtain ⟨i, hi⟩ : ∃ i, (lenAux 0 bs).1 = i + 1 := ⟨(lenAux 0 bs).1 - 1, by omega⟩
  have hil : i < bs.length := by omega
  obtain ⟨e1, e2, e3, e4⟩ := val_step hb h0 rfl (i := i) (by omega) hil
  rw [hi, e1]
  have hp : 2 ^ (7 * i) ∣ 18446744073709551616 := by
    have : (18446744073709551616 : Nat) = 2 ^ (7 * i) * 2 ^ (64 - 7 * i) := by rw [← Nat.pow_add, show 7 * i + (64 - 7 * i) = 64 from by omega]
    rw [this]
    exact Nat.dvd_mul_right _ _
  obtain ⟨q, hq⟩ := hp
  rw [hq] at e3 ⊢
  have := Nat.lt_of_mul_lt_mul_left e3
  have h2 : 2 ^ (7 * i) * (bs[i].toNat % 128 + 1) ≤ 2 ^ (7 * i) * q := Nat.mul_le_mul_left _ this
  rw [Nat.mul_add, Nat.mul_one] at h2
  omega
theorem takeU_lt {s : St} (hb : ∀ x ∈ s.1, 0 ≤ x ∧ x < 256) : (takeU s).2 < 18446744073709551616 := by
  unfold takeU
  split
  · split
    · exact val_take_lt hb (by assumption)
    · simp
  · simp
theorem takeU_sub {s : St} : ∃ k, (takeU s).1.1 = s.1.drop k := by
  unfold takeU
  split
  · split
    · exact ⟨_, rfl⟩
    · exact ⟨s.1.length, by simp [failS]⟩
  · exact ⟨0, rfl⟩
theorem takeU_mem {s : St} {P : Int → Prop} (hb : ∀ x ∈ s.1, P x) : ∀ x ∈ (takeU s).1.1, P x := fun x hx => by
  obtain ⟨k, hk⟩ := takeU_sub (s := s)
  rw [hk] at hx
  exact hb x (List.mem_of_mem_drop hx)
theorem takeU_len (s : St) : (takeU s).1.1.length ≤ s.1.length := by
  obtain ⟨k, hk⟩ := takeU_sub (s := s)
  rw [hk, List.length_drop]
  omega

end Go.Proofs.Ytnlhgnioedalpaa.CodL

/- layer 5, plain: what is written is read as it, and back; a proper beginning is short. -/
set_option linter.unusedVariables false
namespace Go.Proofs.Ytnlhgnioedalpaa.CodL

theorem pow_step (i : Nat) (h : i ≤ 8) : 2 ^ (64 - 7 * i) = 128 * 2 ^ (64 - 7 * (i + 1)) := by
  rw [show 64 - 7 * i = 7 + (64 - 7 * (i + 1)) from by omega, Nat.pow_add]
theorem len_uv (rest : List Int) : ∀ (n i : Nat), i ≤ 9 → n < 2 ^ (64 - 7 * i) → (i = 0 ∨ 0 < n) → lenAux i (uv n ++ rest) = (i + (uv n).length, 0) := by
  intro n
  induction n using Nat.strongRecOn with
  | _ n ih =>
    intro i hi hn hp
    by_cases h : n < 128
    · rw [uv_small h, List.singleton_append, lenAux]
      have h9 : i = 9 → n < 2 := fun e => by subst e; simpa using hn
      rw [if_neg (by omega), if_neg (by omega), if_neg (by omega)]
      rfl
    · rw [uv_great h, List.cons_append, lenAux]
      have h9 : i ≠ 9 := fun e => by subst e; have h2 : n < 2 := (by simpa using hn); omega
      have hs := pow_step i (by omega)
      rw [if_neg (by omega), if_pos (by omega), ih (n / 128) (by omega) (i + 1) (by omega) (by rw [hs] at hn; omega) (by omega), List.length_cons]
      congr 1
      omega
theorem val_uv (n : Nat) : val (uv n) = n := by
  induction n using Nat.strongRecOn with
  | _ n ih =>
    by_cases h : n < 128
    · rw [uv_small h]; simp [val]; omega
    · rw [uv_great h, val, ih (n / 128) (by omega), Int.toNat_natCast]; omega
theorem takeU_uv {n : Nat} (hn : n < 18446744073709551616) (rest : List Int) : takeU (uv n ++ rest, 0) = ((rest, 0), n) := by
  have h := len_uv rest n 0 (by omega) (by simpa using hn) (.inl rfl)
  unfold takeU
  dsimp only
  rw [if_pos rfl, h]
  dsimp only
  rw [if_pos rfl, Nat.zero_add, List.drop_left, List.take_left, val_uv]
theorem takeI_uv {m : Int} (hm : -9223372036854775808 ≤ m ∧ m ≤ 9223372036854775807) (rest : List Int) : takeI (uv (zz m) ++ rest, 0) = ((rest, 0), m) := by
  unfold takeI
  rw [takeU_uv (zz_lt hm), zb_zz]
/-! and back -/
/-! a proper beginning -/
end Go.Proofs.Ytnlhgnioedalpaa.CodL

/- price: small functions on sets; memory. -/
set_option linter.unusedSimpArgs false
set_option linter.unusedVariables false
namespace Go.Proofs.Ytnlhgnioedalpaa.Pri
open Go.RowKit Go.Proofs.YtnlhgnioedalpaaW.PrintWords
attribute [local go_sem] Oper.semAt_some

theorem bit_of {a : Int} (ha : U a) (i : Nat) : (BitVec.ofInt 64 a).getLsbD i = (decide (i < 64) && a.toNat.testBit i) := by
  have e : BitVec.ofInt 64 a = BitVec.ofNat 64 a.toNat := by
    apply BitVec.eq_of_toNat_eq
    rw [BitVec.toNat_ofInt, BitVec.toNat_ofNat]
    have := ha.1
    omega
  rw [e, BitVec.getLsbD_ofNat]
theorem andNot_wi {a b : Int} (ha : U a) (hb : U b) : (bits .andNot .u64 a b == 0) = wi a b := by
  have e : bits .andNot .u64 a b = (((BitVec.ofInt 64 a &&& ~~~ BitVec.ofInt 64 b).toNat : Nat) : Int) := by
    show IntKind.u64.wrap ((BitVec.ofInt 64 a &&& ~~~ BitVec.ofInt 64 b).toNat : Nat) = _
    have h := (BitVec.ofInt 64 a &&& ~~~ BitVec.ofInt 64 b).isLt
    rw [IntKind.wrap_u64]
    omega
  rw [e, Bool.eq_iff_iff, beq_iff_eq, wi_iff]
  constructor
  · intro h i hi hai
    have h0 : BitVec.ofInt 64 a &&& ~~~ BitVec.ofInt 64 b = 0#64 := BitVec.eq_of_toNat_eq (by rw [show (0#64 : BitVec 64).toNat = 0 from rfl]; exact Int.ofNat.inj h)
    have h1 := congrArg (fun x => BitVec.getLsbD x i) h0
    simp only [BitVec.getLsbD_and, BitVec.getLsbD_not, bit_of ha, bit_of hb, hi, hai, decide_true, Bool.true_and, BitVec.getLsbD_zero] at h1
    simpa using h1
  · intro h
    have h0 : BitVec.ofInt 64 a &&& ~~~ BitVec.ofInt 64 b = 0#64 := by
      apply BitVec.eq_of_getLsbD_eq
      intro i hi
      simp only [BitVec.getLsbD_and, BitVec.getLsbD_not, bit_of ha, bit_of hb, hi, decide_true, Bool.true_and, BitVec.getLsbD_zero]
      cases hai : a.toNat.testBit i with
      | false => rfl
      | true => rw [h i hi hai]; rfl
    rw [h0]; rfl
theorem within_any (W : World) (a b : Int) (ha : U a) (hb : U b) : Calls Try.prog 65 #[.int .u64 a, .int .u64 b] W fun e w' => e = .returned (.bool (wi a b)) ∧ W = w' := by
  rw [← andNot_wi ha hb]
  go_enter Try.func65, Try.ntmps65
  go_wp2_with fail
  go_ret
  exact ⟨rfl, rfl⟩
theorem and_nat {n m : Nat} (hn : n < 18446744073709551616) (hm : m < 18446744073709551616) : bits .and .u64 (n : Int) (m : Int) = ((n &&& m : Nat) : Int) := by
  rw [u64_and, BitVec.toNat_and, BitVec.toNat_ofInt, BitVec.toNat_ofInt]
  have e1 : ((n : Int) % ((2 ^ 64 : Nat) : Int)).toNat = n := by omega
  have e2 : ((m : Int) % ((2 ^ 64 : Nat) : Int)).toNat = m := by omega
  rw [e1, e2]
theorem i64_and127 (z : Nat) (hz : z < 18446744073709551616) : bits .and .i64 (wrap64 (z : Int)) 127 = ((z % 128 : Nat) : Int) := by
  have e1 : BitVec.ofInt 64 (wrap64 (z : Int)) = BitVec.ofNat 64 z := by
    apply BitVec.eq_of_toNat_eq
    rw [BitVec.toNat_ofInt, BitVec.toNat_ofNat]
    unfold wrap64
    omega
  show IntKind.i64.wrap ((BitVec.ofInt 64 (wrap64 (z : Int)) &&& BitVec.ofInt 64 127).toNat : Nat) = _
  rw [e1, BitVec.toNat_and, BitVec.toNat_ofNat, show (BitVec.ofInt 64 127).toNat = 2 ^ 7 - 1 from by decide, Nat.and_two_pow_sub_one_eq_mod, IntKind.wrap_i64]
  omega
set_option maxHeartbeats 4000000 in
theorem ones_any (W : World) (n : Nat) (hn : n < 18446744073709551616) : Calls Try.prog 119 #[.int .u64 (n : Int)] W fun e w' => e = .returned (.int .i64 (cntJ 8 n : Int)) ∧ W = w' := by
  obtain ⟨p1, h1⟩ : ∃ p, pop1 n = p := ⟨_, rfl⟩
  obtain ⟨p2, h2⟩ : ∃ p, pop2 p1 = p := ⟨_, rfl⟩
  obtain ⟨p3, h3⟩ : ∃ p, pop3 p2 = p := ⟨_, rfl⟩
  obtain ⟨x, hx⟩ : ∃ x, x = p3 + p3 / 256 := ⟨_, rfl⟩
  obtain ⟨y, hy⟩ : ∃ y, y = x + x / 65536 := ⟨_, rfl⟩
  obtain ⟨z, hz⟩ : ∃ z, z = y + y / 4294967296 := ⟨_, rfl⟩
  obtain ⟨hc, hzl⟩ := pop_end n hn x y z (by rw [h1, h2, h3]; exact hx) hy hz
  have l1 : p1 < 18446744073709551616 := by rw [← h1]; exact pop1_le n
  have l2 : p2 < 6148914691236517206 + 3689348814741910323 := by
    rw [← h2]
    have a1 : (p1 / 4) &&& 3689348814741910323 ≤ 3689348814741910323 := Nat.and_le_right
    have a2 : p1 &&& 3689348814741910323 ≤ 3689348814741910323 := Nat.and_le_right
    unfold pop2; omega
  have E1 : IntKind.u64.wrap (bits .and .u64 ((n : Int) / 2) 6148914691236517205 + bits .and .u64 (n : Int) 6148914691236517205) = (p1 : Int) := by
    rw [show (n : Int) / 2 = ((n / 2 : Nat) : Int) from by omega, show (6148914691236517205 : Int) = ((6148914691236517205 : Nat) : Int) from rfl, and_nat (by omega) (by omega), and_nat hn (by omega), ← h1, IntKind.wrap_u64]
    rw [← h1] at l1
    unfold pop1 at l1 ⊢
    omega
  have E2 : IntKind.u64.wrap (bits .and .u64 ((p1 : Int) / 4) 3689348814741910323 + bits .and .u64 (p1 : Int) 3689348814741910323) = (p2 : Int) := by
    rw [show (p1 : Int) / 4 = ((p1 / 4 : Nat) : Int) from by omega, show (3689348814741910323 : Int) = ((3689348814741910323 : Nat) : Int) from rfl, and_nat (by omega) (by omega), and_nat l1 (by omega), ← h2, IntKind.wrap_u64]
    rw [← h2] at l2
    unfold pop2 at l2 ⊢
    omega
  have E3 : bits .and .u64 (IntKind.u64.wrap ((p2 : Int) / 16 + (p2 : Int))) 1085102592571150095 = (p3 : Int) := by
    rw [show IntKind.u64.wrap ((p2 : Int) / 16 + (p2 : Int)) = ((p2 / 16 + p2 : Nat) : Int) from by rw [IntKind.wrap_u64]; omega, show (1085102592571150095 : Int) = ((1085102592571150095 : Nat) : Int) from rfl, and_nat (by omega) (by omega), ← h3]
    rfl
  have lx : x < 18446744073709551616 ∧ y < 18446744073709551616 ∧ p3 < 18446744073709551616 := by omega
  have E4 : IntKind.u64.wrap ((p3 : Int) + (p3 : Int) / 256) = (x : Int) := by rw [IntKind.wrap_u64]; omega
  have E5 : IntKind.u64.wrap ((x : Int) + (x : Int) / 65536) = (y : Int) := by rw [IntKind.wrap_u64]; omega
  have E6 : IntKind.u64.wrap ((y : Int) + (y : Int) / 4294967296) = (z : Int) := by rw [IntKind.wrap_u64]; omega
  have E7 := i64_and127 z hzl
  rw [hc] at E7
  clear h1 h2 h3 hx hy hz hc l1 l2 lx hzl
  go_enter Try.func119, Try.ntmps119
  go_wp2_with fail
  go_ret
  exact ⟨rfl, rfl⟩
theorem count_any (W : World) (a : Int) (ha : U a) : Calls Try.prog 99 #[.int .u64 a] W fun e w' => e = .returned (.int .i64 (cnt a : Int)) ∧ W = w' := by
  obtain ⟨n, rfl⟩ := Int.eq_ofNat_of_zero_le ha.1
  have C := Lib.hid (ones_any W n (by have := ha.2; omega))
  rw [cnt_pop]
  show Calls Try.prog 99 #[.int .u64 (n : Int)] W fun e w' => e = .returned (.int .i64 (cntJ 8 n : Int)) ∧ W = w'
  go_enter Try.func99, Try.ntmps99
  go_wp2_with fail
  refine C.out.mono ?_; rintro e w1 ⟨rfl, rfl⟩
  go_wp2_with fail
  go_ret
  exact ⟨rfl, rfl⟩
def cmpI (a b : Int) : Int := if a < b then -1 else if b < a then 1 else 0
theorem nanI_any (W : World) (a : Int) : Calls Try.prog 118 #[.int .i64 a] W fun e w' => e = .returned (.bool false) ∧ W = w' := by
  go_enter Try.func118, Try.ntmps118
  go_wp2_with fail
  go_ret
  exact ⟨by simp, rfl⟩
theorem nanU_any (W : World) (a : Int) : Calls Try.prog 120 #[.int .u64 a] W fun e w' => e = .returned (.bool false) ∧ W = w' := by
  go_enter Try.func120, Try.ntmps120
  go_wp2_with fail
  go_ret
  exact ⟨by simp, rfl⟩
theorem cmpI_any (W : World) (a b : Int) : Calls Try.prog 98 #[.int .i64 a, .int .i64 b] W fun e w' => e = .returned (.int .i64 (cmpI a b)) ∧ W = w' := by
  rcases Int.lt_trichotomy a b with h | h | h
  · have hr : cmpI a b = -1 := by unfold cmpI; rw [if_pos h]
    rw [hr]
    go_enter Try.func98, Try.ntmps98
    go_wp2_with fail
    refine (nanI_any W a).mono ?_; rintro e w1 ⟨rfl, rfl⟩
    go_wp2_with fail
    refine (nanI_any W b).mono ?_; rintro e w1 ⟨rfl, rfl⟩
    go_wp2_with fail
    go_ret
    exact ⟨rfl, rfl⟩
  · subst h
    have hr : cmpI a a = 0 := by unfold cmpI; rw [if_neg (by omega), if_neg (by omega)]
    rw [hr]
    go_enter Try.func98, Try.ntmps98
    go_wp2_with fail
    refine (nanI_any W a).mono ?_; rintro e w1 ⟨rfl, rfl⟩
    go_wp2_with fail
    refine (nanI_any W a).mono ?_; rintro e w1 ⟨rfl, rfl⟩
    go_wp2_with fail
    go_ret
    exact ⟨rfl, rfl⟩
  · have hr : cmpI a b = 1 := by unfold cmpI; rw [if_neg (by omega), if_pos h]
    rw [hr]
    go_enter Try.func98, Try.ntmps98
    go_wp2_with fail
    refine (nanI_any W a).mono ?_; rintro e w1 ⟨rfl, rfl⟩
    go_wp2_with fail
    refine (nanI_any W b).mono ?_; rintro e w1 ⟨rfl, rfl⟩
    go_wp2_with fail
    go_ret
    exact ⟨rfl, rfl⟩
theorem cmpU_any (W : World) (a b : Int) : Calls Try.prog 100 #[.int .u64 a, .int .u64 b] W fun e w' => e = .returned (.int .i64 (cmpI a b)) ∧ W = w' := by
  rcases Int.lt_trichotomy a b with h | h | h
  · have hr : cmpI a b = -1 := by unfold cmpI; rw [if_pos h]
    rw [hr]
    go_enter Try.func100, Try.ntmps100
    go_wp2_with fail
    refine (nanU_any W a).mono ?_; rintro e w1 ⟨rfl, rfl⟩
    go_wp2_with fail
    refine (nanU_any W b).mono ?_; rintro e w1 ⟨rfl, rfl⟩
    go_wp2_with fail
    go_ret
    exact ⟨rfl, rfl⟩
  · subst h
    have hr : cmpI a a = 0 := by unfold cmpI; rw [if_neg (by omega), if_neg (by omega)]
    rw [hr]
    go_enter Try.func100, Try.ntmps100
    go_wp2_with fail
    refine (nanU_any W a).mono ?_; rintro e w1 ⟨rfl, rfl⟩
    go_wp2_with fail
    refine (nanU_any W a).mono ?_; rintro e w1 ⟨rfl, rfl⟩
    go_wp2_with fail
    go_ret
    exact ⟨rfl, rfl⟩
  · have hr : cmpI a b = 1 := by unfold cmpI; rw [if_neg (by omega), if_pos h]
    rw [hr]
    go_enter Try.func100, Try.ntmps100
    go_wp2_with fail
    refine (nanU_any W a).mono ?_; rintro e w1 ⟨rfl, rfl⟩
    go_wp2_with fail
    refine (nanU_any W b).mono ?_; rintro e w1 ⟨rfl, rfl⟩
    go_wp2_with fail
    go_ret
    exact ⟨rfl, rfl⟩
def orV (x y : Int) : Int := if x = 0 then y else x
theorem orI_any (W : World) (b : Nat) (x y : Int) (hx : W.cell? ⟨b, 0, none⟩ = some (.int .i64 x)) (hy : W.cell? ⟨b, 1, none⟩ = some (.int .i64 y)) : Calls Try.prog 97 #[.slice (some ⟨b, 0, none⟩) 2 2] W fun e w' => e = .returned (.int .i64 (orV x y)) ∧ W = w' := by
  unfold orV
  go_enter Try.func97, Try.ntmps97
  go_wp2_with fail
  go_loop [5, 8] (fun _ i => ∃ k : Nat, k ≤ 2 ∧ i = .int .i64 (k : Int) ∧ (1 ≤ k → x = 0) ∧ (2 ≤ k → y = 0)) (fun _ i => (2 - (intOf i).toNat))
  case atStart => exact ⟨0, by omega, rfl, by omega, by omega⟩
  case round =>
    obtain ⟨k, hk, rfl, h1, h2⟩ := hrel
    rcases (show k = 0 ∨ k = 1 ∨ k = 2 by omega) with rfl | rfl | rfl
    · by_cases h0 : x = 0
      · subst h0
        go_wp2_with fail
        go_round
        case rel => exact ⟨1, by omega, rfl, by simp, by simp⟩
        case measure => simp [intOf]
      · have hb : (x == 0) = false := by simp [h0]
        go_wp2_with fail
        go_ret
        exact ⟨by first | rfl | (rw [if_neg h0]; rfl), rfl⟩
    · have hx0 := h1 (by omega)
      subst hx0
      by_cases h0 : y = 0
      · subst h0
        go_wp2_with fail
        go_round
        case rel => exact ⟨2, by omega, rfl, by simp, by simp⟩
        case measure => simp [intOf]
      · have hb : (y == 0) = false := by simp [h0]
        go_wp2_with fail
        go_ret
        exact ⟨rfl, rfl⟩
    · have hx0 := h1 (by omega)
      have hy0 := h2 (by omega)
      subst hx0; subst hy0
      go_wp2_with fail
      go_ret
      exact ⟨rfl, rfl⟩
/-- which set stands before the other one, as a number -/
def cmpS (a b : Int) : Int := if ltS a b = true then -1 else if ltS b a = true then 1 else 0
theorem cmpS_eq (a b : Int) : orV (cmpI (cnt a : Int) (cnt b : Int)) (cmpI a b) = cmpS a b := by
  unfold orV cmpS cmpI
  by_cases h1 : cnt a < cnt b
  · rw [if_pos (show ltS a b = true from ltS_iff.2 (.inl h1))]
    rw [if_pos (show (cnt a : Int) < (cnt b : Int) by omega)]
    rfl
  · by_cases h2 : cnt b < cnt a
    · rw [if_neg (show ¬ ltS a b = true from fun h => by rw [ltS_iff] at h; omega), if_pos (show ltS b a = true from ltS_iff.2 (.inl h2))]
      rw [if_neg (show ¬ (cnt a : Int) < (cnt b : Int) by omega), if_pos (show (cnt b : Int) < (cnt a : Int) by omega)]
      rfl
    · rw [if_neg (show ¬ (cnt a : Int) < (cnt b : Int) by omega), if_neg (show ¬ (cnt b : Int) < (cnt a : Int) by omega), if_pos rfl]
      have e : cnt a = cnt b := by omega
      by_cases h3 : a < b
      · rw [if_pos h3, if_pos (ltS_iff.2 (.inr ⟨e, h3⟩))]
      · rw [if_neg h3, if_neg (show ¬ ltS a b = true from fun h => by rw [ltS_iff] at h; omega)]
        by_cases h4 : b < a
        · rw [if_pos h4, if_pos (ltS_iff.2 (.inr ⟨e.symm, h4⟩))]
        · rw [if_neg h4, if_neg (show ¬ ltS b a = true from fun h => by rw [ltS_iff] at h; omega)]
theorem cmp_any (W : World) (a b : Int) (ha : U a) (hb : U b) : Calls Try.prog 68 #[.int .u64 a, .int .u64 b] W fun e w' => e = .returned (.int .i64 (cmpS a b)) ∧ Below W.heap.size W w' := by
  rw [← cmpS_eq]
  obtain ⟨x, hx⟩ : ∃ x, cmpI (cnt a : Int) (cnt b : Int) = x := ⟨_, rfl⟩
  obtain ⟨y, hy⟩ : ∃ y, cmpI a b = y := ⟨_, rfl⟩
  have C1 := cmpI_any W (cnt a : Int) (cnt b : Int); have C2 := cmpU_any W a b
  rw [hx] at C1 ⊢; rw [hy] at C2 ⊢
  have H1 := Lib.hid C1; have H2 := Lib.hid C2
  clear C1 C2 hx hy
  go_enter Try.func68, Try.ntmps68
  go_wp2_with fail
  refine (count_any W a ha).mono ?_; rintro e w1 ⟨rfl, rfl⟩
  go_wp2_with fail
  refine (count_any W b hb).mono ?_; rintro e w1 ⟨rfl, rfl⟩
  go_wp2_with fail
  refine H1.out.mono ?_; rintro e w1 ⟨rfl, rfl⟩
  go_wp2_with fail
  refine H2.out.mono ?_; rintro e w1 ⟨rfl, rfl⟩
  go_wp2_with fail
  have hbl := Blk.new W [.int .i64 x, .int .i64 y] 3
  have hal := (Below.refl W.heap.size W).alloc (Nat.le_refl _) (.cells #[.int .i64 x, .int .i64 y] 3)
  refine (orI_any _ W.heap.size x y (hbl.cell (i := 0) rfl) (hbl.cell (i := 1) rfl)).mono ?_; rintro e w1 ⟨rfl, rfl⟩
  have HB := Lib.hid hal
  clear hal hbl
  go_wp2_with fail
  go_ret
  exact ⟨rfl, HB.out⟩

end Go.Proofs.Ytnlhgnioedalpaa.Pri

/- price: entries in memory; a store; Clone; what is asked. -/
set_option linter.unusedSimpArgs false
set_option linter.unusedVariables false
namespace Go.Proofs.Ytnlhgnioedalpaa.Pri
open Go.RowKit Go.Proofs.YtnlhgnioedalpaaW.PrintWords Go.Proofs.Ytnlhgnioedalpaa.PPricePlays
attribute [local go_sem] Oper.semAt_some

abbrev tE : TypeId := 41
abbrev tS : TypeId := 39
abbrev tL : TypeId := 22
def cE (e : En) : List Value := [.int .u64 e.1, .int .i64 e.2]
theorem cE_length (e : En) : (cE e).length = 2 := rfl
def toE (e : En) : S41 := ⟨e.1, e.2⟩
def dE : En := (0, 0)
theorem infoE : (Try.prog.info? 41).map (fun i => (i.zero, i.size, i.bytes)) = some (some (.agg #[.int .u64 0, .int .i64 0]), 2, 16) := by kernel_rfl
theorem info_parts {o : Option TypeInfo} {z : Option Value} {n m : Nat} (h : o.map (fun i => (i.zero, i.size, i.bytes)) = some (z, n, m)) : ∃ i, o = some i ∧ i.zero = z ∧ i.size = n ∧ i.bytes = m := by
  cases o with
  | none => simp at h
  | some i => simp at h; exact ⟨i, rfl, h.1, h.2.1, h.2.2⟩
/-- the slice v reads as the entries es -/
def PE (W : World) (v : Value) (es : List En) : Prop := ∃ A c, v = .slice A es.length c ∧ es.length ≤ c ∧ (A = none → c = 0) ∧ Kd.C k41 W A es.length (es.map toE)
theorem PE.below {W W' : World} {v : Value} {l : List En} (h : PE W v l) (hb : Below W.heap.size W W') : PE W' v l := by
  obtain ⟨A, c, rfl, h1, h2, h3⟩ := h
  exact ⟨A, c, rfl, h1, h2, Kd.C_below h3 hb⟩
theorem pe_nil (W : World) : PE W (.slice none 0 0) [] := ⟨none, 0, rfl, Nat.le_refl _, fun _ => rfl, rfl, by simp, fun h => absurd h (by simp)⟩
theorem own_le {W : World} {base n size : Nat} {e : TypeId} {A : Option Addr} {c : Nat} {xs : List Value} (h : W.ownsRow base e size (.slice A n c) n xs) : n ≤ c := by
  rcases h.2 with ⟨h1, h2⟩ | ⟨g, cap, cur, h1, _, _, h4, _⟩
  · injection h1; omega
  · injection h1; omega
/-- a row of the call's own is entries -/
theorem pe_own {W : World} {base : Nat} {v : Value} {zs : List En} (hl : zs.length ≤ 1099511627776) (h : W.ownsRow base tE 2 v zs.length (cellsOf cE zs)) : PE W v zs := by
  have h0 := h
  rcases h0.2 with ⟨rfl, hz⟩ | ⟨g, cap, cur, rfl, hb, hg, hc, hlc, _⟩
  · obtain rfl := List.eq_nil_of_length_eq_zero hz
    exact pe_nil W
  · refine ⟨some ⟨g, 0, none⟩, cap, rfl, own_le h, (fun e => by cases e), by simp, by omega, fun hpos => ⟨_, rfl, fun j x hx => ⟨[.int .u64 x.f0, .int .i64 x.f1], rfl, k41_mk W x, fun i u hu => ?_⟩⟩⟩
    rw [List.getElem?_map] at hx
    cases hq : zs[j]? with
    | none => rw [hq] at hx; simp at hx
    | some q =>
      rw [hq] at hx
      have hj : j < zs.length := (List.getElem?_eq_some_iff.1 hq).1
      have hi : i < 2 := by have := (List.getElem?_eq_some_iff.1 hu).1; simpa using this
      rw [show j * k41.sz + i = j * 2 + i from rfl, addr_add, Nat.zero_add, h.cellAt (j * 2 + i) (by omega), cellsOf_at cE_length zs (0, 0) hj hi, List.getD_eq_getElem?_getD, hq]
      obtain rfl : toE q = x := by simpa using hx
      exact hu
theorem PE.at {W : World} {v : Value} {l : List En} {j : Nat} {q : En} (h : PE W v l) (hj : l[j]? = some q) : ∃ b off c, v = .slice (some ⟨b, off, none⟩) l.length c ∧ b < W.heap.size ∧ W.cell? ⟨b, off + j * 2, none⟩ = some (.int .u64 q.1) ∧ W.cell? ⟨b, off + j * 2 + 1, none⟩ = some (.int .i64 q.2) := by
  obtain ⟨A, c, rfl, h1, _, h2⟩ := h
  have hlt := (List.getElem?_eq_some_iff.1 hj).1
  obtain ⟨a, rfl, hr⟩ := h2.2.2 (by omega)
  have hjq : (l.map toE)[j]? = some (toE q) := by rw [List.getElem?_map, hj]; rfl
  have hz : (l.map toE)[0]? = some (toE (l[0]'(by omega))) := by rw [List.getElem?_map, List.getElem?_eq_getElem (by omega)]; rfl
  obtain ⟨cs0, _, hk0, hc0⟩ := hr 0 _ hz
  obtain rfl := k41_open hk0
  have hsp := cell_spot (by simpa [Addr.add] using hc0 0 _ rfl)
  obtain ⟨b, off, s⟩ := a
  obtain rfl : s = none := by injection hsp.1
  obtain ⟨cs, _, hk, hc⟩ := hr j _ hjq
  obtain rfl := k41_open hk
  have h3 := hc 0 _ rfl
  have h4 := hc 1 _ rfl
  rw [addr_add] at h3 h4
  exact ⟨b, off, c, rfl, hsp.2, h3, h4⟩
theorem PE.rd {W : World} {v : Value} {l : List En} (h : PE W v l) : Rd cE 2 W.heap.size W v l := by
  by_cases hn : 0 < l.length
  · have h0 := h
    obtain ⟨A, c, rfl, _⟩ := h0
    obtain ⟨b, off, c', e1, hb, _, _⟩ := h.at (List.getElem?_eq_getElem hn)
    injection e1 with e1 e2 e3
    subst e1; subst e3
    refine .inr ⟨b, off, c, rfl, hb, fun j x hx i u hu => ?_⟩
    obtain ⟨b', off', c', e1, _, r0, r1⟩ := h.at hx
    injection e1 with e1 e2 e3
    injection e1 with e1
    injection e1 with e1 e2
    subst e1; subst e2
    have hi : i < 2 := by have := (List.getElem?_eq_some_iff.1 hu).1; simpa [cE] using this
    rcases (show i = 0 ∨ i = 1 by omega) with rfl | rfl
    · rw [Nat.add_zero, r0]; exact hu
    · rw [r1]; exact hu
  · have : l = [] := List.eq_nil_of_length_eq_zero (by omega)
    subst this
    obtain ⟨A, c, rfl, _⟩ := h
    exact .inl ⟨A, c, rfl, rfl⟩
/-- a store and its entries -/
def PR (W : World) (p : Nat) (es : List En) : Prop := ∃ v, Blk W p tS [v] ∧ PE W v es
theorem PR.lt {W : World} {p : Nat} {es : List En} (h : PR W p es) : p < W.heap.size := by obtain ⟨v, h1, _⟩ := h; exact h1.lt
theorem PR.below {W W' : World} {p : Nat} {es : List En} (h : PR W p es) (hb : Below W.heap.size W W') : PR W' p es := by
  obtain ⟨v, h1, h2⟩ := h
  exact ⟨v, h1.belowS hb, h2.below hb⟩
set_option maxRecDepth 100000 in
set_option maxHeartbeats 2000000 in
theorem clone_any (W : World) (v : Value) (es : List En) (h : PE W v es) (hl : es.length ≤ 1099511627776) :
    Calls Try.prog 58 #[v] W fun e w' => ∃ v', e = .returned v' ∧ w'.ownsRow W.heap.size tE 2 v' es.length (cellsOf cE es) ∧ Below W.heap.size W w' := by
  have hRd := h.rd
  obtain ⟨A, c, rfl, h1, h2, h3⟩ := h
  obtain ⟨i0, hi0, hiz0, hiz1, hiz2⟩ := info_parts infoE
  cases A with
  | none =>
    obtain rfl := h2 rfl
    have : es = [] := List.eq_nil_of_length_eq_zero (by omega)
    subst this
    show Calls Try.prog 58 #[.slice none 0 0] W fun e w' => ∃ v', e = .returned v' ∧ w'.ownsRow W.heap.size tE 2 v' 0 [] ∧ Below W.heap.size W w'
    clear h1 h3 hRd
    have eq0 := Lib.run_eql_slice_nil (P := Try.prog) W tL tE none 0 0 0 0 Try.underlying22
    go_enter Try.func58, Try.ntmps58
    go_wp2_with fail
    go_ret
    exact ⟨_, rfl, World.ownsRow_nil _ _ _ _, Below.refl _ W⟩
  | some ad =>
    have hnew : ∀ j u, (cellsOf cE es)[j]? = some u → W.cell? (ad.add j) = some u := fun j u hu => by
      have hj : j < es.length * 2 := by have := (List.getElem?_eq_some_iff.1 hu).1; rw [cellsOf_length cE_length] at this; exact this
      rcases hRd with ⟨a', c', e1, rfl⟩ | ⟨b, off, c', e1, hb, hc⟩
      · simp at hj
      · injection e1 with e1 e2 e3
        injection e1 with e1
        subst e1
        rw [addr_add]
        have hk : j / 2 < es.length := by omega
        have hx : es[j / 2]? = some es[j / 2] := List.getElem?_eq_getElem hk
        have hu2 : (cE es[j / 2])[j % 2]? = some u := by
          rw [show j = j / 2 * 2 + j % 2 from by omega, cellsOf_at cE_length es dE hk (by omega)] at hu
          rw [show es.getD (j / 2) dE = es[j / 2] from by simp [List.getD, hk]] at hu
          exact hu
        have := hc _ _ hx _ _ hu2
        rw [show off + j / 2 * 2 + j % 2 = off + j from by omega] at this
        exact this
    have h1c : ∀ u ∈ cellsOf cE es, u.oneCell' = true := fun u hu => by
      obtain ⟨x, _, hx⟩ := List.mem_flatMap.1 hu
      simp [cE] at hx
      rcases hx with rfl | rfl <;> rfl
    have hlit := World.ownsRow_lit (base := W.heap.size) (e := tE) (size := 2) W #[] 0 (Nat.le_refl _) (by decide) rfl
    have hal : Below W.heap.size W (W.alloc (.cells #[] tE)) := (Below.refl _ W).alloc (Nat.le_refl _) _
    have hnew2 : ∀ j u, (cellsOf cE es)[j]? = some u → (W.alloc (.cells #[] tE)).cell? (ad.add j) = some u := fun j u hu => by
      have h := hnew j u hu
      have hs := (cell_spot h).2
      have e := (cell_spot h).1
      rw [e] at h ⊢
      exact (hal.cell (p := ⟨(ad.add j).block, (ad.add j).off, none⟩) hs).trans h
    have hln : (cellsOf cE es).length = es.length * 2 := cellsOf_length cE_length es
    clear h3 hRd hnew
    have eq0 := Lib.run_eql_slice_nil (P := Try.prog) W tL tE (some ad) es.length c 0 0 Try.underlying22
    go_enter Try.func58, Try.ntmps58
    go_wp2_with (at_builtin; refine wpList_append_own _ rfl _ _ tL rfl W.heap.size tE i0 _ 2 16 Try.underlying22 hi0 hiz0 hiz1 hiz2 rfl (by decide) _ 0 _ rfl hlit ad es.length c (cellsOf cE es) rfl hln hnew2 h1c (by unfold maxLen; omega) (by omega) (by simp) ?_; intro v' w3 hown' hgrow _)
    go_ret
    rw [Nat.zero_add] at hown'
    exact ⟨_, rfl, hown', hal.grown hgrow hal.size (fun r e => by have e' : some W.heap.size = some r := e; injection e' with e'; omega)⟩

end Go.Proofs.Ytnlhgnioedalpaa.Pri
