/- small laws on bits of numbers. -/
import Derived.WalkKit
import Derived.Laws.Bits128
set_option linter.unusedVariables false
namespace Go.Proofs.Ytmdacfgofilbdaa
open Go.RowKit

theorem u64_bits_xor (a b : Int) : bits .xor .u64 a b = (((BitVec.ofInt 64 a ^^^ BitVec.ofInt 64 b).toNat : Nat) : Int) := by
  show IntKind.u64.wrap ((BitVec.ofInt 64 a ^^^ BitVec.ofInt 64 b).toNat : Nat) = _
  have h := (BitVec.ofInt 64 a ^^^ BitVec.ofInt 64 b).isLt
  rw [IntKind.wrap_u64]
  omega
theorem u64_xor0 {a : Int} (h0 : 0 ≤ a) (h1 : a < 18446744073709551616) : bits .xor .u64 a 0 = a := by
  rw [u64_bits_xor]
  simp only [show BitVec.ofInt 64 0 = 0#64 from rfl, BitVec.xor_zero, BitVec.toNat_ofInt]
  omega
theorem u64_xorF {a : Int} (h0 : 0 ≤ a) (h1 : a < 18446744073709551616) : bits .xor .u64 a 18446744073709551615 = 18446744073709551615 - a := by
  rw [u64_bits_xor]
  have e : BitVec.ofInt 64 18446744073709551615 = BitVec.allOnes 64 := by decide
  rw [e, BitVec.xor_allOnes, BitVec.toNat_not, BitVec.toNat_ofInt]
  omega
theorem i64_bits_xor (a b : Int) : bits .xor .i64 a b = (BitVec.ofInt 64 a ^^^ BitVec.ofInt 64 b).toInt := by
  show IntKind.i64.wrap ((BitVec.ofInt 64 a ^^^ BitVec.ofInt 64 b).toNat : Nat) = _
  have h := (BitVec.ofInt 64 a ^^^ BitVec.ofInt 64 b).isLt
  rw [IntKind.wrap_i64, BitVec.toInt_eq_toNat_cond]
  split <;> omega
theorem i64_xor0 {a : Int} (h0 : 0 ≤ a) (h1 : a < 9223372036854775808) : bits .xor .i64 a 0 = a := by
  rw [i64_bits_xor]
  simp only [show BitVec.ofInt 64 0 = 0#64 from rfl, BitVec.xor_zero, BitVec.toInt_ofInt]
  rw [Int.bmod_def]
  omega
theorem i64_xorF {a : Int} (h0 : 0 ≤ a) (h1 : a < 9223372036854775808) : bits .xor .i64 a (-1) = -a - 1 := by
  rw [i64_bits_xor]
  have e : BitVec.ofInt 64 (-1) = BitVec.allOnes 64 := by decide
  rw [e, BitVec.xor_allOnes, BitVec.toInt_not, BitVec.toNat_ofInt]
  rw [Int.bmod_def]
  omega
theorem u64_and (a b : Int) : bits .and .u64 a b = (((BitVec.ofInt 64 a &&& BitVec.ofInt 64 b).toNat : Nat) : Int) := by
  show IntKind.u64.wrap ((BitVec.ofInt 64 a &&& BitVec.ofInt 64 b).toNat : Nat) = _
  have h := (BitVec.ofInt 64 a &&& BitVec.ofInt 64 b).isLt
  rw [IntKind.wrap_u64]
  omega
theorem u64_and_low (k : Nat) {m : Int} (hm : (BitVec.ofInt 64 m).toNat = 2 ^ k - 1) (n : Nat) (hn : n < 18446744073709551616) : bits .and .u64 (n : Int) m = ((n % 2 ^ k : Nat) : Int) := by
  rw [u64_and, BitVec.toNat_and, hm, Nat.and_two_pow_sub_one_eq_mod, BitVec.toNat_ofInt]
  congr 2
  omega
theorem u64_and1 (n : Nat) (hn : n < 18446744073709551616) : bits .and .u64 (n : Int) 1 = ((n % 2 : Nat) : Int) := u64_and_low 1 (by decide) n hn
theorem u64_or (a b : Int) : bits .or .u64 a b = (((BitVec.ofInt 64 a ||| BitVec.ofInt 64 b).toNat : Nat) : Int) := by
  show IntKind.u64.wrap ((BitVec.ofInt 64 a ||| BitVec.ofInt 64 b).toNat : Nat) = _
  have h := (BitVec.ofInt 64 a ||| BitVec.ofInt 64 b).isLt
  rw [IntKind.wrap_u64]
  omega
/-- what lies below a power of two, and what is a multiple of it -/
theorem u64_or_add {a b k : Nat} (ha : a < 2 ^ k) (hb : 2 ^ k * b < 18446744073709551616) (hk : a < 18446744073709551616) : bits .or .u64 (a : Int) ((2 ^ k * b : Nat) : Int) = ((a + 2 ^ k * b : Nat) : Int) := by
  rw [u64_or, BitVec.toNat_or, BitVec.toNat_ofInt, BitVec.toNat_ofInt]
  have e1 : ((a : Int) % ((2 ^ 64 : Nat) : Int)).toNat = a := by omega
  have e2 : (((2 ^ k * b : Nat) : Int) % ((2 ^ 64 : Nat) : Int)).toNat = 2 ^ k * b := by omega
  rw [e1, e2, Nat.or_comm, ← Nat.two_pow_add_eq_or_of_lt ha, Nat.add_comm]

theorem u8_and127 {x : Int} (h0 : 0 ≤ x) (h1 : x < 256) : bits .and .u8 x 127 = ((x.toNat % 128 : Nat) : Int) := by
  have h : ∀ y : Fin 256, bits .and .u8 ((y.val : Nat) : Int) 127 = ((y.val % 128 : Nat) : Int) := by decide +kernel
  obtain ⟨n, rfl⟩ := Int.eq_ofNat_of_zero_le h0
  exact h ⟨n, by omega⟩
/-- seven bits more -/
theorem u64_or_shl {x : Int} (h0 : 0 ≤ x) (h1 : x < 256) {y k : Nat} (hy : y < 2 ^ (7 * k)) (hx : 2 ^ (7 * k) * (x.toNat % 128) < 18446744073709551616) (hy2 : y < 18446744073709551616) :
    bits .or .u64 (y : Int) (IntKind.u64.wrap (IntKind.u64.wrap (bits .and .u8 x 127) * 2 ^ (7 * k))) = ((y + 2 ^ (7 * k) * (x.toNat % 128) : Nat) : Int) := by
  rw [u8_and127 h0 h1]
  have e1 : IntKind.u64.wrap ((x.toNat % 128 : Nat) : Int) = ((x.toNat % 128 : Nat) : Int) := by rw [IntKind.wrap_u64]; omega
  have e2 : (((x.toNat % 128 : Nat) : Int) * 2 ^ (7 * k)) = ((2 ^ (7 * k) * (x.toNat % 128) : Nat) : Int) := by
    push_cast
    rw [Int.mul_comm]
  rw [e1, e2]
  have e3 : IntKind.u64.wrap ((2 ^ (7 * k) * (x.toNat % 128) : Nat) : Int) = ((2 ^ (7 * k) * (x.toNat % 128) : Nat) : Int) := by
    rw [IntKind.wrap_u64]
    generalize 2 ^ (7 * k) * (x.toNat % 128) = z at *
    omega
  rw [e3]
  exact u64_or_add hy hx hy2

end Go.Proofs.Ytmdacfgofilbdaa

/- layer 5, plain: whole numbers and numbers with a sign as bytes, and back. -/
set_option linter.unusedVariables false
namespace Go.Proofs.Ytmdacfgofilbdaa.CodL

/-- a whole number as bytes -/
def uv (n : Nat) : List Int := if n < 128 then [(n : Int)] else ((128 + n % 128 : Nat) : Int) :: uv (n / 128)
termination_by n
decreasing_by omega
theorem uv_small {n : Nat} (h : n < 128) : uv n = [(n : Int)] := by rw [uv, if_pos h]
theorem uv_great {n : Nat} (h : ¬ n < 128) : uv n = ((128 + n % 128 : Nat) : Int) :: uv (n / 128) := by rw [uv, if_neg h]
theorem uv_len (k : Nat) : ∀ n, n < 128 ^ (k + 1) → (uv n).length ≤ k + 1 := by
  induction k with
  | zero => intro n h; rw [uv_small (by simpa using h)]; simp
  | succ k ih =>
    intro n h
    by_cases hn : n < 128
    · rw [uv_small hn]; simp
    · rw [uv_great hn, List.length_cons]
      have := ih (n / 128) (by rw [Nat.pow_succ] at h; omega)
      omega
theorem uv_len10 {n : Nat} (h : n < 18446744073709551616) : (uv n).length ≤ 10 := uv_len 9 n (by omega)
theorem uv_byte (n : Nat) : ∀ x ∈ uv n, 0 ≤ x ∧ x < 256 := by
  induction n using Nat.strongRecOn with
  | _ n ih =>
    intro x hx
    by_cases hn : n < 128
    · rw [uv_small hn] at hx; simp at hx; omega
    · rw [uv_great hn] at hx
      rcases List.mem_cons.1 hx with rfl | hx
      · omega
      · exact ih (n / 128) (by omega) x hx

/-- a number with a sign as a whole number -/
def zz (m : Int) : Nat := if 0 ≤ m then (2 * m).toNat else (-2 * m - 1).toNat
theorem zz_lt {m : Int} (h : -9223372036854775808 ≤ m ∧ m ≤ 9223372036854775807) : zz m < 18446744073709551616 := by unfold zz; split <;> omega
/-- and back -/
def zb (n : Nat) : Int := if n % 2 = 0 then (n / 2 : Nat) else - ((n / 2 : Nat) : Int) - 1
theorem zb_zz (m : Int) : zb (zz m) = m := by unfold zb zz; split <;> split <;> omega
/-- how many bytes a whole number has at the head of some; an error -/
def lenAux : Nat → List Int → Nat × Int
  | _, [] => (0, 21)
  | i, c :: cs => if i = 10 ∨ (i = 9 ∧ 1 < c) then (0, 20) else if 128 ≤ c then lenAux (i + 1) cs else if c = 0 ∧ 0 < i then (0, 20) else (i + 1, 0)
/-- the value of some bytes -/
def val : List Int → Nat
  | [] => 0
  | c :: cs => c.toNat % 128 + 128 * val cs

/-- what is left, the error -/
abbrev St := List Int × Int
def failS (s : St) (e : Int) : St := ([], if s.2 = 0 then e else s.2)
def takeU (s : St) : St × Nat :=
  if s.2 = 0 then
    if (lenAux 0 s.1).2 = 0 then ((s.1.drop (lenAux 0 s.1).1, 0), val (s.1.take (lenAux 0 s.1).1)) else (failS s (lenAux 0 s.1).2, 0)
  else (s, 0)
def takeI (s : St) : St × Int := ((takeU s).1, zb (takeU s).2)
/-- bytes: none beside an error -/
def takeB (s : St) (most : Int) : St × List Int :=
  let r := takeU s
  if r.1.2 = 0 then
    if max most 0 < r.2 then (failS r.1 2, [])
    else if r.1.1.length < r.2 then (failS r.1 21, [])
    else ((r.1.1.drop r.2, 0), r.1.1.take r.2)
  else (r.1, [])
/-- so many of a list -/
def takeL {α : Type} (one : St → St × α) : Nat → St → List α → St × List α
  | 0, s, out => (s, out)
  | k + 1, s, out => if s.2 = 0 then takeL one k (one s).1 (out ++ [(one s).2]) else (s, [])
def takeN {α : Type} (one : St → St × α) (s : St) (most : Int) : St × List α :=
  let r := takeU s
  if r.1.2 = 0 then
    if max most 0 < r.2 then (failS r.1 3, [])
    else
      let q := takeL one r.2 r.1 []
      if q.1.2 = 0 then q else (q.1, [])
  else (r.1, [])
/-- a list that all bytes are -/
def allN {α : Type} (one : St → St × α) (bs : List Int) (most : Int) : List α × Int :=
  let r := takeN one (bs, 0) most
  if r.1.2 = 0 then if 0 < r.1.1.length then ([], 20) else (r.2, 0) else ([], r.1.2)

theorem lenAux_ok (cs : List Int) : ∀ i, i ≤ 9 → (lenAux i cs).2 = 0 → i < (lenAux i cs).1 ∧ (lenAux i cs).1 ≤ i + cs.length ∧ (lenAux i cs).1 ≤ 10 ∧ (∀ j c, cs[j]? = some c → i + j = 9 → i + j < (lenAux i cs).1 → c ≤ 1) := by
  induction cs with
  | nil => intro i hi h; simp [lenAux] at h
  | cons c cs ih =>
    intro i hi h
    unfold lenAux at h ⊢
    by_cases h1 : i = 10 ∨ (i = 9 ∧ 1 < c)
    · rw [if_pos h1] at h; simp at h
    · rw [if_neg h1] at h ⊢
      by_cases h2 : 128 ≤ c
      · rw [if_pos h2] at h ⊢
        have h9 : i < 9 := by omega
        obtain ⟨k1, k2, k3, k4⟩ := ih (i + 1) (by omega) h
        refine ⟨by omega, by simp; omega, k3, fun j x hx hj hlt => ?_⟩
        cases j with
        | zero => omega
        | succ j => exact k4 j x (by simpa using hx) (by omega) (by omega)
      · rw [if_neg h2] at h ⊢
        by_cases h3 : c = 0 ∧ 0 < i
        · rw [if_pos h3] at h; simp at h
        · rw [if_neg h3] at h ⊢
          refine ⟨by simp, by simp, by simp; omega, fun j x hx hj hlt => ?_⟩
          simp only at hlt
          have : j = 0 := by omega
          subst this
          simp at hx
          subst hx
          omega
theorem val_snoc (xs : List Int) (c : Int) : val (xs ++ [c]) = val xs + 128 ^ xs.length * (c.toNat % 128) := by
  induction xs with
  | nil => simp [val]
  | cons x xs ih =>
    rw [List.cons_append, val, val, ih, List.length_cons, Nat.pow_succ]
    rw [Nat.mul_add, Nat.mul_comm (128 ^ xs.length) 128, Nat.mul_assoc]
    omega
theorem val_lt (xs : List Int) : val xs < 128 ^ xs.length := by
  induction xs with
  | nil => simp [val]
  | cons x xs ih =>
    rw [val, List.length_cons, Nat.pow_succ]
    omega
/-- one byte more of a whole number -/
theorem val_step {bs : List Int} {n i : Nat} (hb : ∀ x ∈ bs, 0 ≤ x ∧ x < 256) (h0 : (lenAux 0 bs).2 = 0) (hn : (lenAux 0 bs).1 = n) (hi : i < n) (hil : i < bs.length) :
    val (bs.take (i + 1)) = val (bs.take i) + 2 ^ (7 * i) * (bs[i].toNat % 128) ∧ val (bs.take i) < 2 ^ (7 * i) ∧ 2 ^ (7 * i) * (bs[i].toNat % 128) < 18446744073709551616 ∧ val (bs.take i) < 18446744073709551616 := by
  obtain ⟨k1, k2, k3, k4⟩ := lenAux_ok bs 0 (by omega) h0
  rw [hn] at k3 k4
  have hl : (bs.take i).length = i := by rw [List.length_take]; omega
  have hp : 128 ^ i = 2 ^ (7 * i) := by rw [Nat.pow_mul]
  have hv := val_lt (bs.take i)
  rw [hl, hp] at hv
  have hpow : 2 ^ (7 * i) ≤ 2 ^ 63 := Nat.pow_le_pow_right (by omega) (by omega)
  refine ⟨by rw [List.take_succ_eq_append_getElem hil, val_snoc, hl, hp], hv, ?_, by omega⟩
  by_cases h9 : i = 9
  · have := k4 i bs[i] (List.getElem?_eq_getElem hil) (by omega) (by omega)
    have h1 : bs[i].toNat % 128 ≤ 1 := by omega
    have := Nat.mul_le_mul hpow h1
    omega
  · have hp2 : 2 ^ (7 * i) ≤ 2 ^ 56 := Nat.pow_le_pow_right (by omega) (by omega)
    have h1 : bs[i].toNat % 128 ≤ 127 := by omega
    have := Nat.mul_le_mul hp2 h1
    omega
theorem val_take_lt {bs : List Int} (hb : ∀ x ∈ bs, 0 ≤ x ∧ x < 256) (h0 : (lenAux 0 bs).2 = 0) : val (bs.take (lenAux 0 bs).1) < 18446744073709551616 := by
  obtain ⟨k1, k2, k3, k4⟩ := lenAux_ok bs 0 (by omega) h0
  obtain ⟨i, hi⟩ : ∃ i, (lenAux 0 bs).1 = i + 1 := ⟨(lenAux 0 bs).1 - 1, by omega⟩
  have hil : i < bs.length := by omega
  obtain ⟨e1, e2, e3, e4⟩ := val_step hb h0 rfl (i := i) (by omega) hil
  rw [hi, e1]
  have hp : 2 ^ (7 * i) ∣ 18446744073709551616 := by
    have : (18446744073709551616 : Nat) = 2 ^ (7 * i) * 2 ^ (64 - 7 * i) := by rw [← Nat.pow_add, show 7 * i + (64 - 7 * i) = 64 from by omega]
    rw [this]
    exact Nat.dvd_mul_right _ _
  obtain ⟨q, hq⟩ := hp
  rw [hq] at e3 ⊢
  have := Nat.lt_of_mul_lt_mul_left e3
  have h2 : 2 ^ (7 * i) * (bs[i].toNat % 128 + 1) ≤ 2 ^ (7 * i) * q := Nat.mul_le_mul_left _ this
  rw [Nat.mul_add, Nat.mul_one] at h2
  omega
theorem takeU_lt {s : St} (hb : ∀ x ∈ s.1, 0 ≤ x ∧ x < 256) : (takeU s).2 < 18446744073709551616 := by
  unfold takeU
  split
  · split
    · exact val_take_lt hb (by assumption)
    · simp
  · simp
theorem takeU_sub {s : St} : ∃ k, (takeU s).1.1 = s.1.drop k := by
  unfold takeU
  split
  · split
    · exact ⟨_, rfl⟩
    · exact ⟨s.1.length, by simp [failS]⟩
  · exact ⟨0, rfl⟩
theorem takeU_mem {s : St} {P : Int → Prop} (hb : ∀ x ∈ s.1, P x) : ∀ x ∈ (takeU s).1.1, P x := fun x hx => by
  obtain ⟨k, hk⟩ := takeU_sub (s := s)
  rw [hk] at hx
  exact hb x (List.mem_of_mem_drop hx)
theorem takeU_len (s : St) : (takeU s).1.1.length ≤ s.1.length := by
  obtain ⟨k, hk⟩ := takeU_sub (s := s)
  rw [hk, List.length_drop]
  omega

end Go.Proofs.Ytmdacfgofilbdaa.CodL

/- layer 5, plain: what is written is read as it, and back; a proper beginning is short. -/
set_option linter.unusedVariables false
namespace Go.Proofs.Ytmdacfgofilbdaa.CodL

theorem pow_step (i : Nat) (h : i ≤ 8) : 2 ^ (64 - 7 * i) = 128 * 2 ^ (64 - 7 * (i + 1)) := by
  rw [show 64 - 7 * i = 7 + (64 - 7 * (i + 1)) from by omega, Nat.pow_add]
theorem len_uv (rest : List Int) : ∀ (n i : Nat), i ≤ 9 → n < 2 ^ (64 - 7 * i) → (i = 0 ∨ 0 < n) → lenAux i (uv n ++ rest) = (i + (uv n).length, 0) := by
  intro n
  induction n using Nat.strongRecOn with
  | _ n ih =>
    intro i hi hn hp
    by_cases h : n < 128
    · rw [uv_small h, List.singleton_append, lenAux]
      have h9 : i = 9 → n < 2 := fun e => by subst e; simpa using hn
      rw [if_neg (by omega), if_neg (by omega), if_neg (by omega)]
      rfl
    · rw [uv_great h, List.cons_append, lenAux]
      have h9 : i ≠ 9 := fun e => by subst e; have h2 : n < 2 := (by simpa using hn); omega
      have hs := pow_step i (by omega)
      rw [if_neg (by omega), if_pos (by omega), ih (n / 128) (by omega) (i + 1) (by omega) (by rw [hs] at hn; omega) (by omega), List.length_cons]
      congr 1
      omega
theorem val_uv (n : Nat) : val (uv n) = n := by
  induction n using Nat.strongRecOn with
  | _ n ih =>
    by_cases h : n < 128
    · rw [uv_small h]; simp [val]; omega
    · rw [uv_great h, val, ih (n / 128) (by omega), Int.toNat_natCast]; omega
theorem takeU_uv {n : Nat} (hn : n < 18446744073709551616) (rest : List Int) : takeU (uv n ++ rest, 0) = ((rest, 0), n) := by
  have h := len_uv rest n 0 (by omega) (by simpa using hn) (.inl rfl)
  unfold takeU
  dsimp only
  rw [if_pos rfl, h]
  dsimp only
  rw [if_pos rfl, Nat.zero_add, List.drop_left, List.take_left, val_uv]
theorem takeI_uv {m : Int} (hm : -9223372036854775808 ≤ m ∧ m ≤ 9223372036854775807) (rest : List Int) : takeI (uv (zz m) ++ rest, 0) = ((rest, 0), m) := by
  unfold takeI
  rw [takeU_uv (zz_lt hm), zb_zz]
/-! and back -/
/-! a proper beginning -/
end Go.Proofs.Ytmdacfgofilbdaa.CodL
