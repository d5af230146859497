/- money: the other functions on numbers, and the references'. -/
import Derived.Test.YtbhpokcnkdgcmaaSum
namespace Go.Proofs.Ytbhpokcnkdgcmaa
open Go.RowKit Go.Shelf
attribute [local go_sem] Oper.semAt_some

def mxI (a b : Int) : Int := if a < b then b else a
def mnI (a b : Int) : Int := if b < a then b else a

theorem right_any (n : Int) (w : World) : Calls Try.prog 25 #[.int .i64 n] w fun e w' => e = .returned (.bool (decide (0 ≤ n ∧ n ≤ 1099511627776))) ∧ w = w' := by
  by_cases h1 : 0 ≤ n
  · by_cases h2 : n ≤ 1099511627776
    · have e : decide (0 ≤ n ∧ n ≤ 1099511627776) = true := by simp; omega
      rw [e]; clear e
      go_enter Try.func25, Try.ntmps25
      go_wp2
      go_ret
      exact ⟨rfl, rfl⟩
    · have e : decide (0 ≤ n ∧ n ≤ 1099511627776) = false := by simp; omega
      rw [e]; clear e
      go_enter Try.func25, Try.ntmps25
      go_wp2
      go_ret
      exact ⟨rfl, rfl⟩
  · have e : decide (0 ≤ n ∧ n ≤ 1099511627776) = false := by simp; omega
    rw [e]; clear e
    go_enter Try.func25, Try.ntmps25
    go_wp2
    go_ret
    exact ⟨rfl, rfl⟩

/-- the amount next to a number -/
def clampI (n : Int) : Int := if n < 0 then 0 else if 1099511627776 < n then 1099511627776 else n
theorem clamp_any (n : Int) (w : World) : Calls Try.prog 14 #[.int .i64 n] w fun e w' => e = .returned (.int .i64 (clampI n)) ∧ w = w' := by
  by_cases h1 : n < 0
  · have e : clampI n = 0 := by unfold clampI; rw [if_pos h1]
    rw [e]; clear e
    go_enter Try.func14, Try.ntmps14
    go_wp2
    go_ret
    exact ⟨rfl, rfl⟩
  · by_cases h2 : 1099511627776 < n
    · have e : clampI n = 1099511627776 := by unfold clampI; rw [if_neg h1, if_pos h2]
      rw [e]; clear e
      go_enter Try.func14, Try.ntmps14
      go_wp2
      go_ret
      exact ⟨rfl, rfl⟩
    · have e : clampI n = n := by unfold clampI; rw [if_neg h1, if_neg h2]
      rw [e]; clear e
      go_enter Try.func14, Try.ntmps14
      go_wp2
      go_ret
      exact ⟨rfl, rfl⟩

/-- how many times b there must be, can be -/
def posI (a : Int) : Int := if a < 0 then 0 else a
def oneI (b : Int) : Int := if b < 1 then 1 else b
def ceilI (a b : Int) : Int := posI a / oneI b + (if posI a % oneI b = 0 then 0 else 1)
def floorI (a b : Int) : Int := posI a / oneI b
theorem posI_0 (a : Int) : 0 ≤ posI a := by unfold posI; split <;> omega
theorem oneI_1 (a : Int) : 1 ≤ oneI a := by unfold oneI; split <;> omega
theorem posI_le (a : Int) (h : a ≤ 9223372036854775807) : posI a ≤ 9223372036854775807 := by unfold posI; split <;> omega
theorem oneI_le (a : Int) (h : a ≤ 9223372036854775807) : oneI a ≤ 9223372036854775807 := by unfold oneI; split <;> omega
theorem div_le_self {a b : Int} (ha : 0 ≤ a) : a / b ≤ a := Int.ediv_le_self (a := a) b ha
theorem div_nonneg {a b : Int} (ha : 0 ≤ a) (hb : 1 ≤ b) : 0 ≤ a / b := Int.ediv_nonneg ha (by omega)
/-- at least two of b: less than a by one where something is left -/
theorem div_lt_of_rem {a b : Int} (ha : 0 ≤ a) (hb : 1 ≤ b) (hr : ¬ a % b = 0) : a / b + 1 ≤ a := by
  have h1 := Int.mul_ediv_add_emod a b
  have h2 := Int.emod_nonneg a (b := b) (by omega)
  have h3 := Int.emod_lt_of_pos a (b := b) (by omega)
  have h5 : 2 ≤ b := by
    by_cases e : b = 1
    · subst e; omega
    · omega
  have h4 := div_nonneg ha hb
  have h6 : 2 * (a / b) ≤ b * (a / b) := Int.mul_le_mul_of_nonneg_right h5 h4
  omega

set_option maxHeartbeats 1000000 in
theorem ceil_any (a b : Int) (ha : a ≤ 9223372036854775807) (w : World) : Calls Try.prog 15 #[.int .i64 a, .int .i64 b] w fun e w' => e = .returned (.int .i64 (ceilI a b)) ∧ w = w' := by
  have p0 := posI_0 a
  have p1 := posI_le a ha
  have o0 := oneI_1 b
  have d0 := div_nonneg p0 o0
  have d1 := div_le_self (b := oneI b) p0
  have d2 := div_lt_of_rem p0 o0
  have ep : (if a < 0 then 0 else a) = posI a := rfl
  have eo : (if b < 1 then 1 else b) = oneI b := rfl
  have key : ceilI a b = posI a / oneI b + (if posI a % oneI b = 0 then 0 else 1) := rfl
  rw [key]
  clear key
  generalize posI a = x at *
  generalize oneI b = y at *
  by_cases hr : x % y = 0
  · rw [if_pos hr, Int.add_zero]
    have hr2 : (x % y != 0) = false := by simp [hr]
    clear hr d2
    go_enter Try.func15, Try.ntmps15
    go_wp2
    go_ret
    exact ⟨rfl, rfl⟩
  · rw [if_neg hr]
    have d3 := d2 hr
    have hr2 : (x % y != 0) = true := by simp [hr]
    clear hr d2
    go_enter Try.func15, Try.ntmps15
    go_wp2
    go_ret
    exact ⟨rfl, rfl⟩

set_option maxHeartbeats 1000000 in
theorem floor_any (a b : Int) (ha : a ≤ 9223372036854775807) (w : World) : Calls Try.prog 16 #[.int .i64 a, .int .i64 b] w fun e w' => e = .returned (.int .i64 (floorI a b)) ∧ w = w' := by
  have p0 := posI_0 a
  have p1 := posI_le a ha
  have o0 := oneI_1 b
  have d0 := div_nonneg p0 o0
  have d1 := div_le_self (b := oneI b) p0
  have ep : (if a < 0 then 0 else a) = posI a := rfl
  have eo : (if b < 1 then 1 else b) = oneI b := rfl
  have key : floorI a b = posI a / oneI b := rfl
  rw [key]
  clear key
  generalize posI a = x at *
  generalize oneI b = y at *
  go_enter Try.func16, Try.ntmps16
  go_wp2
  go_ret
  exact ⟨rfl, rfl⟩

theorem ret_int {k : IntKind} {a b : Int} (h : a = b) : Ending.returned (.int k a) = .returned (.int k b) := by rw [h]
/-- a number without its sign -/
def absI (n : Int) : Int := if n < 0 then -n else n
theorem absI_nat (n : Int) : absI n = (n.natAbs : Int) := by unfold absI; split <;> omega
set_option maxHeartbeats 1000000 in
theorem size_any (n : Int) (h0 : -9223372036854775808 ≤ n) (h1 : n ≤ 9223372036854775807) (w : World) : Calls Try.prog 76 #[.int .i64 n] w fun e w' => e = .returned (.int .u64 (absI n)) ∧ w = w' := by
  by_cases hn : n < 0
  · have e : absI n = -n := by unfold absI; rw [if_pos hn]
    rw [e]; clear e
    go_enter Try.func76, Try.ntmps76
    go_wp2
    go_ret
    refine ⟨ret_int ?_, rfl⟩
    omega
  · have e : absI n = n := by unfold absI; rw [if_neg hn]
    rw [e]; clear e
    go_enter Try.func76, Try.ntmps76
    go_wp2
    go_ret
    refine ⟨ret_int ?_, rfl⟩
    omega

/-- may a sum be multiplied; what it is then -/
def okM (a n : Int) : Bool := okS a && decide (a.natAbs * n.natAbs ≤ 140737488355328)
def mulV (a n : Int) : Int := if okM a n then a * n else 0
theorem mul_in {a n : Int} (h : a.natAbs * n.natAbs ≤ 140737488355328) : -140737488355328 ≤ a * n ∧ a * n ≤ 140737488355328 := by
  have h1 : (a * n).natAbs ≤ 140737488355328 := by rw [Int.natAbs_mul]; exact h
  omega
theorem u64lt {n : Int} (h0 : -9223372036854775808 ≤ n) (h1 : n ≤ 9223372036854775807) : n.natAbs < 18446744073709551616 := by omega

set_option maxHeartbeats 1000000 in
theorem mul_any (a n : Int) (a0 : -9223372036854775808 ≤ a) (a1 : a ≤ 9223372036854775807) (n0 : -9223372036854775808 ≤ n) (n1 : n ≤ 9223372036854775807) (w : World) :
    Calls Try.prog 21 #[.int .i64 a, .int .i64 n] w fun e w' => e = .returned (.tuple #[.int .i64 (mulV a n), .bool (okM a n)]) ∧ w = w' := by
  have hs1 := fun w => size_any a a0 a1 w
  have hs2 := fun w => size_any n n0 n1 w
  have hm := fun w => Try.bits_Mul64 a.natAbs n.natAbs (u64lt a0 a1) (u64lt n0 n1) w
  rw [absI_nat] at hs1 hs2
  have hq : okM a n = true → a.natAbs * n.natAbs / 18446744073709551616 = 0 ∧ a.natAbs * n.natAbs % 18446744073709551616 ≤ 140737488355328 := by
    unfold okM; intro h; simp at h; omega
  have hq2 : okM a n = false → okS a = true → ¬ (a.natAbs * n.natAbs / 18446744073709551616 = 0 ∧ a.natAbs * n.natAbs % 18446744073709551616 ≤ 140737488355328) := by
    unfold okM; intro h h2; simp [h2] at h; omega
  have hin : okM a n = true → -140737488355328 ≤ a * n ∧ a * n ≤ 140737488355328 := by
    unfold okM; intro h; simp at h; exact mul_in h.2
  have hok : okM a n = true → okS a = true := by unfold okM; intro h; simp at h; exact h.1
  generalize a.natAbs * n.natAbs / 18446744073709551616 = hi at *
  generalize a.natAbs * n.natAbs % 18446744073709551616 = lo at *
  have HS1 := Lib.hid hs1; clear hs1
  have HS2 := Lib.hid hs2; clear hs2
  have HM := Lib.hid hm; clear hm
  cases hM : okM a n
  · have e2 : mulV a n = 0 := by unfold mulV; rw [hM]; rfl
    rw [e2]; clear e2
    cases hS : okS a
    · clear hq2 hin hok hq hM
      have Hs := Lib.hid hS; clear hS
      go_enter Try.func21, Try.ntmps21
      go_wp2_with fail
      refine (HS1.out _).mono ?_; rintro e w' ⟨rfl, rfl⟩
      go_wp2_with fail
      refine (HS2.out _).mono ?_; rintro e w' ⟨rfl, rfl⟩
      go_wp2_with fail
      refine (HM.out _).mono ?_; rintro e w' ⟨rfl, rfl⟩
      go_wp2_with fail
      refine (sum_any _ _).mono ?_; rintro e w' ⟨rfl, rfl⟩
      rw [Hs.out]
      go_wp2_with fail
      go_ret2
      exact ⟨rfl, rfl⟩
    · have h3 := hq2 hM hS
      clear hq2 hin hok hq hM
      have Hs := Lib.hid hS; clear hS
      by_cases hz : hi = 0
      · subst hz
        have hl : 140737488355328 < (lo : Int) := by omega
        clear h3
        go_enter Try.func21, Try.ntmps21
        go_wp2_with fail
        refine (HS1.out _).mono ?_; rintro e w' ⟨rfl, rfl⟩
        go_wp2_with fail
        refine (HS2.out _).mono ?_; rintro e w' ⟨rfl, rfl⟩
        go_wp2_with fail
        refine (HM.out _).mono ?_; rintro e w' ⟨rfl, rfl⟩
        go_wp2_with fail
        refine (sum_any _ _).mono ?_; rintro e w' ⟨rfl, rfl⟩
        rw [Hs.out]
        go_wp2_with fail
        go_ret2
        exact ⟨rfl, rfl⟩
      · have hz2 : ((hi : Int) != 0) = true := by simp; omega
        clear h3 hz
        go_enter Try.func21, Try.ntmps21
        go_wp2_with fail
        refine (HS1.out _).mono ?_; rintro e w' ⟨rfl, rfl⟩
        go_wp2_with fail
        refine (HS2.out _).mono ?_; rintro e w' ⟨rfl, rfl⟩
        go_wp2_with fail
        refine (HM.out _).mono ?_; rintro e w' ⟨rfl, rfl⟩
        go_wp2_with fail
        refine (sum_any _ _).mono ?_; rintro e w' ⟨rfl, rfl⟩
        rw [Hs.out]
        go_wp2_with fail
        go_ret2
        exact ⟨rfl, rfl⟩
  · have e2 : mulV a n = a * n := by unfold mulV; rw [hM]; rfl
    rw [e2]; clear e2
    obtain ⟨q1, q2⟩ := hin hM
    have Hs := Lib.hid (hok hM)
    obtain ⟨h3, h4⟩ := hq hM
    subst h3
    have hl : (lo : Int) ≤ 140737488355328 := by omega
    clear hq2 hin hok hq hM h4
    go_enter Try.func21, Try.ntmps21
    go_wp2_with fail
    refine (HS1.out _).mono ?_; rintro e w' ⟨rfl, rfl⟩
    go_wp2_with fail
    refine (HS2.out _).mono ?_; rintro e w' ⟨rfl, rfl⟩
    go_wp2_with fail
    refine (HM.out _).mono ?_; rintro e w' ⟨rfl, rfl⟩
    go_wp2_with fail
    refine (sum_any _ _).mono ?_; rintro e w' ⟨rfl, rfl⟩
    rw [Hs.out]
    go_wp2_with fail
    go_ret2
    exact ⟨rfl, rfl⟩

end Go.Proofs.Ytbhpokcnkdgcmaa
