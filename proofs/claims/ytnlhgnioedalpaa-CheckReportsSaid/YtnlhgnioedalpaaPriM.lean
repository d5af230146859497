/- price: small functions on sets; memory. -/
import Derived.Test.YtnlhgnioedalpaaPriL
import Derived.Test.YtnlhgnioedalpaaKd
import Derived.Test.YtnlhgnioedalpaaCodP
import Derived.Test.YtnlhgnioedalpaaPPricePlaysx2
set_option linter.unusedSimpArgs false
set_option linter.unusedVariables false
namespace Go.Proofs.Ytnlhgnioedalpaa.Pri
open Go.RowKit Go.Proofs.YtnlhgnioedalpaaW.PrintWords
attribute [local go_sem] Oper.semAt_some

theorem bit_of {a : Int} (ha : U a) (i : Nat) : (BitVec.ofInt 64 a).getLsbD i = (decide (i < 64) && a.toNat.testBit i) := by
  have e : BitVec.ofInt 64 a = BitVec.ofNat 64 a.toNat := by
    apply BitVec.eq_of_toNat_eq
    rw [BitVec.toNat_ofInt, BitVec.toNat_ofNat]
    have := ha.1
    omega
  rw [e, BitVec.getLsbD_ofNat]
theorem andNot_wi {a b : Int} (ha : U a) (hb : U b) : (bits .andNot .u64 a b == 0) = wi a b := by
  have e : bits .andNot .u64 a b = (((BitVec.ofInt 64 a &&& ~~~ BitVec.ofInt 64 b).toNat : Nat) : Int) := by
    show IntKind.u64.wrap ((BitVec.ofInt 64 a &&& ~~~ BitVec.ofInt 64 b).toNat : Nat) = _
    have h := (BitVec.ofInt 64 a &&& ~~~ BitVec.ofInt 64 b).isLt
    rw [IntKind.wrap_u64]
    omega
  rw [e, Bool.eq_iff_iff, beq_iff_eq, wi_iff]
  constructor
  · intro h i hi hai
    have h0 : BitVec.ofInt 64 a &&& ~~~ BitVec.ofInt 64 b = 0#64 := BitVec.eq_of_toNat_eq (by rw [show (0#64 : BitVec 64).toNat = 0 from rfl]; exact Int.ofNat.inj h)
    have h1 := congrArg (fun x => BitVec.getLsbD x i) h0
    simp only [BitVec.getLsbD_and, BitVec.getLsbD_not, bit_of ha, bit_of hb, hi, hai, decide_true, Bool.true_and, BitVec.getLsbD_zero] at h1
    simpa using h1
  · intro h
    have h0 : BitVec.ofInt 64 a &&& ~~~ BitVec.ofInt 64 b = 0#64 := by
      apply BitVec.eq_of_getLsbD_eq
      intro i hi
      simp only [BitVec.getLsbD_and, BitVec.getLsbD_not, bit_of ha, bit_of hb, hi, decide_true, Bool.true_and, BitVec.getLsbD_zero]
      cases hai : a.toNat.testBit i with
      | false => rfl
      | true => rw [h i hi hai]; rfl
    rw [h0]; rfl
theorem within_any (W : World) (a b : Int) (ha : U a) (hb : U b) : Calls Try.prog 65 #[.int .u64 a, .int .u64 b] W fun e w' => e = .returned (.bool (wi a b)) ∧ W = w' := by
  rw [← andNot_wi ha hb]
  go_enter Try.func65, Try.ntmps65
  go_wp2_with fail
  go_ret
  exact ⟨rfl, rfl⟩
theorem and_nat {n m : Nat} (hn : n < 18446744073709551616) (hm : m < 18446744073709551616) : bits .and .u64 (n : Int) (m : Int) = ((n &&& m : Nat) : Int) := by
  rw [u64_and, BitVec.toNat_and, BitVec.toNat_ofInt, BitVec.toNat_ofInt]
  have e1 : ((n : Int) % ((2 ^ 64 : Nat) : Int)).toNat = n := by omega
  have e2 : ((m : Int) % ((2 ^ 64 : Nat) : Int)).toNat = m := by omega
  rw [e1, e2]
theorem i64_and127 (z : Nat) (hz : z < 18446744073709551616) : bits .and .i64 (wrap64 (z : Int)) 127 = ((z % 128 : Nat) : Int) := by
  have e1 : BitVec.ofInt 64 (wrap64 (z : Int)) = BitVec.ofNat 64 z := by
    apply BitVec.eq_of_toNat_eq
    rw [BitVec.toNat_ofInt, BitVec.toNat_ofNat]
    unfold wrap64
    omega
  show IntKind.i64.wrap ((BitVec.ofInt 64 (wrap64 (z : Int)) &&& BitVec.ofInt 64 127).toNat : Nat) = _
  rw [e1, BitVec.toNat_and, BitVec.toNat_ofNat, show (BitVec.ofInt 64 127).toNat = 2 ^ 7 - 1 from by decide, Nat.and_two_pow_sub_one_eq_mod, IntKind.wrap_i64]
  omega
set_option maxHeartbeats 4000000 in
theorem ones_any (W : World) (n : Nat) (hn : n < 18446744073709551616) : Calls Try.prog 119 #[.int .u64 (n : Int)] W fun e w' => e = .returned (.int .i64 (cntJ 8 n : Int)) ∧ W = w' := by
  obtain ⟨p1, h1⟩ : ∃ p, pop1 n = p := ⟨_, rfl⟩
  obtain ⟨p2, h2⟩ : ∃ p, pop2 p1 = p := ⟨_, rfl⟩
  obtain ⟨p3, h3⟩ : ∃ p, pop3 p2 = p := ⟨_, rfl⟩
  obtain ⟨x, hx⟩ : ∃ x, x = p3 + p3 / 256 := ⟨_, rfl⟩
  obtain ⟨y, hy⟩ : ∃ y, y = x + x / 65536 := ⟨_, rfl⟩
  obtain ⟨z, hz⟩ : ∃ z, z = y + y / 4294967296 := ⟨_, rfl⟩
  obtain ⟨hc, hzl⟩ := pop_end n hn x y z (by rw [h1, h2, h3]; exact hx) hy hz
  have l1 : p1 < 18446744073709551616 := by rw [← h1]; exact pop1_le n
  have l2 : p2 < 6148914691236517206 + 3689348814741910323 := by
    rw [← h2]
    have a1 : (p1 / 4) &&& 3689348814741910323 ≤ 3689348814741910323 := Nat.and_le_right
    have a2 : p1 &&& 3689348814741910323 ≤ 3689348814741910323 := Nat.and_le_right
    unfold pop2; omega
  have E1 : IntKind.u64.wrap (bits .and .u64 ((n : Int) / 2) 6148914691236517205 + bits .and .u64 (n : Int) 6148914691236517205) = (p1 : Int) := by
    rw [show (n : Int) / 2 = ((n / 2 : Nat) : Int) from by omega, show (6148914691236517205 : Int) = ((6148914691236517205 : Nat) : Int) from rfl, and_nat (by omega) (by omega), and_nat hn (by omega), ← h1, IntKind.wrap_u64]
    rw [← h1] at l1
    unfold pop1 at l1 ⊢
    omega
  have E2 : IntKind.u64.wrap (bits .and .u64 ((p1 : Int) / 4) 3689348814741910323 + bits .and .u64 (p1 : Int) 3689348814741910323) = (p2 : Int) := by
    rw [show (p1 : Int) / 4 = ((p1 / 4 : Nat) : Int) from by omega, show (3689348814741910323 : Int) = ((3689348814741910323 : Nat) : Int) from rfl, and_nat (by omega) (by omega), and_nat l1 (by omega), ← h2, IntKind.wrap_u64]
    rw [← h2] at l2
    unfold pop2 at l2 ⊢
    omega
  have E3 : bits .and .u64 (IntKind.u64.wrap ((p2 : Int) / 16 + (p2 : Int))) 1085102592571150095 = (p3 : Int) := by
    rw [show IntKind.u64.wrap ((p2 : Int) / 16 + (p2 : Int)) = ((p2 / 16 + p2 : Nat) : Int) from by rw [IntKind.wrap_u64]; omega, show (1085102592571150095 : Int) = ((1085102592571150095 : Nat) : Int) from rfl, and_nat (by omega) (by omega), ← h3]
    rfl
  have lx : x < 18446744073709551616 ∧ y < 18446744073709551616 ∧ p3 < 18446744073709551616 := by omega
  have E4 : IntKind.u64.wrap ((p3 : Int) + (p3 : Int) / 256) = (x : Int) := by rw [IntKind.wrap_u64]; omega
  have E5 : IntKind.u64.wrap ((x : Int) + (x : Int) / 65536) = (y : Int) := by rw [IntKind.wrap_u64]; omega
  have E6 : IntKind.u64.wrap ((y : Int) + (y : Int) / 4294967296) = (z : Int) := by rw [IntKind.wrap_u64]; omega
  have E7 := i64_and127 z hzl
  rw [hc] at E7
  clear h1 h2 h3 hx hy hz hc l1 l2 lx hzl
  go_enter Try.func119, Try.ntmps119
  go_wp2_with fail
  go_ret
  exact ⟨rfl, rfl⟩
theorem count_any (W : World) (a : Int) (ha : U a) : Calls Try.prog 99 #[.int .u64 a] W fun e w' => e = .returned (.int .i64 (cnt a : Int)) ∧ W = w' := by
  obtain ⟨n, rfl⟩ := Int.eq_ofNat_of_zero_le ha.1
  have C := Lib.hid (ones_any W n (by have := ha.2; omega))
  rw [cnt_pop]
  show Calls Try.prog 99 #[.int .u64 (n : Int)] W fun e w' => e = .returned (.int .i64 (cntJ 8 n : Int)) ∧ W = w'
  go_enter Try.func99, Try.ntmps99
  go_wp2_with fail
  refine C.out.mono ?_; rintro e w1 ⟨rfl, rfl⟩
  go_wp2_with fail
  go_ret
  exact ⟨rfl, rfl⟩
def cmpI (a b : Int) : Int := if a < b then -1 else if b < a then 1 else 0
theorem nanI_any (W : World) (a : Int) : Calls Try.prog 118 #[.int .i64 a] W fun e w' => e = .returned (.bool false) ∧ W = w' := by
  go_enter Try.func118, Try.ntmps118
  go_wp2_with fail
  go_ret
  exact ⟨by simp, rfl⟩
theorem nanU_any (W : World) (a : Int) : Calls Try.prog 120 #[.int .u64 a] W fun e w' => e = .returned (.bool false) ∧ W = w' := by
  go_enter Try.func120, Try.ntmps120
  go_wp2_with fail
  go_ret
  exact ⟨by simp, rfl⟩
theorem cmpI_any (W : World) (a b : Int) : Calls Try.prog 98 #[.int .i64 a, .int .i64 b] W fun e w' => e = .returned (.int .i64 (cmpI a b)) ∧ W = w' := by
  rcases Int.lt_trichotomy a b with h | h | h
  · have hr : cmpI a b = -1 := by unfold cmpI; rw [if_pos h]
    rw [hr]
    go_enter Try.func98, Try.ntmps98
    go_wp2_with fail
    refine (nanI_any W a).mono ?_; rintro e w1 ⟨rfl, rfl⟩
    go_wp2_with fail
    refine (nanI_any W b).mono ?_; rintro e w1 ⟨rfl, rfl⟩
    go_wp2_with fail
    go_ret
    exact ⟨rfl, rfl⟩
  · subst h
    have hr : cmpI a a = 0 := by unfold cmpI; rw [if_neg (by omega), if_neg (by omega)]
    rw [hr]
    go_enter Try.func98, Try.ntmps98
    go_wp2_with fail
    refine (nanI_any W a).mono ?_; rintro e w1 ⟨rfl, rfl⟩
    go_wp2_with fail
    refine (nanI_any W a).mono ?_; rintro e w1 ⟨rfl, rfl⟩
    go_wp2_with fail
    go_ret
    exact ⟨rfl, rfl⟩
  · have hr : cmpI a b = 1 := by unfold cmpI; rw [if_neg (by omega), if_pos h]
    rw [hr]
    go_enter Try.func98, Try.ntmps98
    go_wp2_with fail
    refine (nanI_any W a).mono ?_; rintro e w1 ⟨rfl, rfl⟩
    go_wp2_with fail
    refine (nanI_any W b).mono ?_; rintro e w1 ⟨rfl, rfl⟩
    go_wp2_with fail
    go_ret
    exact ⟨rfl, rfl⟩
theorem cmpU_any (W : World) (a b : Int) : Calls Try.prog 100 #[.int .u64 a, .int .u64 b] W fun e w' => e = .returned (.int .i64 (cmpI a b)) ∧ W = w' := by
  rcases Int.lt_trichotomy a b with h | h | h
  · have hr : cmpI a b = -1 := by unfold cmpI; rw [if_pos h]
    rw [hr]
    go_enter Try.func100, Try.ntmps100
    go_wp2_with fail
    refine (nanU_any W a).mono ?_; rintro e w1 ⟨rfl, rfl⟩
    go_wp2_with fail
    refine (nanU_any W b).mono ?_; rintro e w1 ⟨rfl, rfl⟩
    go_wp2_with fail
    go_ret
    exact ⟨rfl, rfl⟩
  · subst h
    have hr : cmpI a a = 0 := by unfold cmpI; rw [if_neg (by omega), if_neg (by omega)]
    rw [hr]
    go_enter Try.func100, Try.ntmps100
    go_wp2_with fail
    refine (nanU_any W a).mono ?_; rintro e w1 ⟨rfl, rfl⟩
    go_wp2_with fail
    refine (nanU_any W a).mono ?_; rintro e w1 ⟨rfl, rfl⟩
    go_wp2_with fail
    go_ret
    exact ⟨rfl, rfl⟩
  · have hr : cmpI a b = 1 := by unfold cmpI; rw [if_neg (by omega), if_pos h]
    rw [hr]
    go_enter Try.func100, Try.ntmps100
    go_wp2_with fail
    refine (nanU_any W a).mono ?_; rintro e w1 ⟨rfl, rfl⟩
    go_wp2_with fail
    refine (nanU_any W b).mono ?_; rintro e w1 ⟨rfl, rfl⟩
    go_wp2_with fail
    go_ret
    exact ⟨rfl, rfl⟩
def orV (x y : Int) : Int := if x = 0 then y else x
theorem orI_any (W : World) (b : Nat) (x y : Int) (hx : W.cell? ⟨b, 0, none⟩ = some (.int .i64 x)) (hy : W.cell? ⟨b, 1, none⟩ = some (.int .i64 y)) : Calls Try.prog 97 #[.slice (some ⟨b, 0, none⟩) 2 2] W fun e w' => e = .returned (.int .i64 (orV x y)) ∧ W = w' := by
  unfold orV
  go_enter Try.func97, Try.ntmps97
  go_wp2_with fail
  go_loop [5, 8] (fun _ i => ∃ k : Nat, k ≤ 2 ∧ i = .int .i64 (k : Int) ∧ (1 ≤ k → x = 0) ∧ (2 ≤ k → y = 0)) (fun _ i => (2 - (intOf i).toNat))
  case atStart => exact ⟨0, by omega, rfl, by omega, by omega⟩
  case round =>
    obtain ⟨k, hk, rfl, h1, h2⟩ := hrel
    rcases (show k = 0 ∨ k = 1 ∨ k = 2 by omega) with rfl | rfl | rfl
    · by_cases h0 : x = 0
      · subst h0
        go_wp2_with fail
        go_round
        case rel => exact ⟨1, by omega, rfl, by simp, by simp⟩
        case measure => simp [intOf]
      · have hb : (x == 0) = false := by simp [h0]
        go_wp2_with fail
        go_ret
        exact ⟨by first | rfl | (rw [if_neg h0]; rfl), rfl⟩
    · have hx0 := h1 (by omega)
      subst hx0
      by_cases h0 : y = 0
      · subst h0
        go_wp2_with fail
        go_round
        case rel => exact ⟨2, by omega, rfl, by simp, by simp⟩
        case measure => simp [intOf]
      · have hb : (y == 0) = false := by simp [h0]
        go_wp2_with fail
        go_ret
        exact ⟨rfl, rfl⟩
    · have hx0 := h1 (by omega)
      have hy0 := h2 (by omega)
      subst hx0; subst hy0
      go_wp2_with fail
      go_ret
      exact ⟨rfl, rfl⟩
/-- which set stands before the other one, as a number -/
def cmpS (a b : Int) : Int := if ltS a b = true then -1 else if ltS b a = true then 1 else 0
theorem cmpS_eq (a b : Int) : orV (cmpI (cnt a : Int) (cnt b : Int)) (cmpI a b) = cmpS a b := by
  unfold orV cmpS cmpI
  by_cases h1 : cnt a < cnt b
  · rw [if_pos (show ltS a b = true from ltS_iff.2 (.inl h1))]
    rw [if_pos (show (cnt a : Int) < (cnt b : Int) by omega)]
    rfl
  · by_cases h2 : cnt b < cnt a
    · rw [if_neg (show ¬ ltS a b = true from fun h => by rw [ltS_iff] at h; omega), if_pos (show ltS b a = true from ltS_iff.2 (.inl h2))]
      rw [if_neg (show ¬ (cnt a : Int) < (cnt b : Int) by omega), if_pos (show (cnt b : Int) < (cnt a : Int) by omega)]
      rfl
    · rw [if_neg (show ¬ (cnt a : Int) < (cnt b : Int) by omega), if_neg (show ¬ (cnt b : Int) < (cnt a : Int) by omega), if_pos rfl]
      have e : cnt a = cnt b := by omega
      by_cases h3 : a < b
      · rw [if_pos h3, if_pos (ltS_iff.2 (.inr ⟨e, h3⟩))]
      · rw [if_neg h3, if_neg (show ¬ ltS a b = true from fun h => by rw [ltS_iff] at h; omega)]
        by_cases h4 : b < a
        · rw [if_pos h4, if_pos (ltS_iff.2 (.inr ⟨e.symm, h4⟩))]
        · rw [if_neg h4, if_neg (show ¬ ltS b a = true from fun h => by rw [ltS_iff] at h; omega)]
theorem cmp_any (W : World) (a b : Int) (ha : U a) (hb : U b) : Calls Try.prog 68 #[.int .u64 a, .int .u64 b] W fun e w' => e = .returned (.int .i64 (cmpS a b)) ∧ Below W.heap.size W w' := by
  rw [← cmpS_eq]
  obtain ⟨x, hx⟩ : ∃ x, cmpI (cnt a : Int) (cnt b : Int) = x := ⟨_, rfl⟩
  obtain ⟨y, hy⟩ : ∃ y, cmpI a b = y := ⟨_, rfl⟩
  have C1 := cmpI_any W (cnt a : Int) (cnt b : Int); have C2 := cmpU_any W a b
  rw [hx] at C1 ⊢; rw [hy] at C2 ⊢
  have H1 := Lib.hid C1; have H2 := Lib.hid C2
  clear C1 C2 hx hy
  go_enter Try.func68, Try.ntmps68
  go_wp2_with fail
  refine (count_any W a ha).mono ?_; rintro e w1 ⟨rfl, rfl⟩
  go_wp2_with fail
  refine (count_any W b hb).mono ?_; rintro e w1 ⟨rfl, rfl⟩
  go_wp2_with fail
  refine H1.out.mono ?_; rintro e w1 ⟨rfl, rfl⟩
  go_wp2_with fail
  refine H2.out.mono ?_; rintro e w1 ⟨rfl, rfl⟩
  go_wp2_with fail
  have hbl := Blk.new W [.int .i64 x, .int .i64 y] 3
  have hal := (Below.refl W.heap.size W).alloc (Nat.le_refl _) (.cells #[.int .i64 x, .int .i64 y] 3)
  refine (orI_any _ W.heap.size x y (hbl.cell (i := 0) rfl) (hbl.cell (i := 1) rfl)).mono ?_; rintro e w1 ⟨rfl, rfl⟩
  have HB := Lib.hid hal
  clear hal hbl
  go_wp2_with fail
  go_ret
  exact ⟨rfl, HB.out⟩

end Go.Proofs.Ytnlhgnioedalpaa.Pri
