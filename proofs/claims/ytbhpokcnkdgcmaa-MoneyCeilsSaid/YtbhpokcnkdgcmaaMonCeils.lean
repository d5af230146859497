/- MoneyCeils: so many times b are a or more, one less are not; so many are at most a, one more are not. -/
import Derived.Test.YtbhpokcnkdgcmaaMonAlive
namespace Go.Proofs.Ytbhpokcnkdgcmaa
open Go.RowKit Go.Shelf

theorem ceil_facts {x y : Int} (h0 : 0 ≤ x) (h1 : x ≤ 1099511627776) (g0 : 1 ≤ y) (g1 : y ≤ 1099511627776) :
    let f := x / y; let c := x / y + (if x % y = 0 then 0 else 1)
    0 ≤ f ∧ f ≤ 1099511627776 ∧ f ≤ c ∧ c - f ≤ 1 ∧ x ≤ c * y ∧ c * y ≤ 2199023255552 ∧ (c ≠ 0 → (c - 1) * y < x) ∧ -1099511627776 ≤ (c - 1) * y ∧ f * y ≤ x ∧ 0 ≤ f * y ∧ x < (f + 1) * y ∧ (f + 1) * y ≤ 2199023255552 := by
  intro f c
  have a1 := Int.mul_ediv_add_emod x y
  have a2 := Int.emod_nonneg x (b := y) (by omega)
  have a3 := Int.emod_lt_of_pos x (b := y) (by omega)
  have a4 := div_nonneg h0 g0
  have a5 := div_le_self (b := y) h0
  have b1 : f * y = y * (x / y) := Int.mul_comm _ _
  have b2 : (f + 1) * y = y * (x / y) + y := by rw [Int.add_mul, b1]; omega
  have b3 : (f - 1) * y = y * (x / y) - y := by rw [Int.sub_mul, b1]; omega
  have c1 : 0 ≤ f * y := Int.mul_nonneg a4 (by omega)
  show 0 ≤ x / y ∧ x / y ≤ 1099511627776 ∧ x / y ≤ c ∧ _
  by_cases hr : x % y = 0
  · have ec : c = f := by show x / y + (if x % y = 0 then 0 else 1) = x / y; rw [if_pos hr]; omega
    rw [ec]
    refine ⟨a4, by omega, Int.le_refl _, by omega, by omega, by omega, fun hc => ?_, by rw [b3]; omega, by omega, c1, by omega, by omega⟩
    rw [b3]; omega
  · have ec : c = f + 1 := by show x / y + (if x % y = 0 then 0 else 1) = x / y + 1; rw [if_neg hr]
    rw [ec]
    have e1 : (f + 1 - 1) * y = f * y := by rw [show f + 1 - 1 = f from by omega]
    refine ⟨a4, by omega, ?_, by omega, by omega, by omega, fun hc => by rw [e1]; omega, by rw [e1]; omega, by omega, c1, by omega, by omega⟩
    show x / y ≤ x / y + 1
    omega

theorem clampI_bd (n : Int) : 0 ≤ clampI n ∧ clampI n ≤ 1099511627776 := by unfold clampI; split <;> (try split) <;> omega

set_option maxHeartbeats 1000000 in
theorem ceils_walk (a : Int) (_ : (Lit.int .i64 a).wf = true) (b : Int) (_ : (Lit.int .i64 b).wf = true) (w : World) :
    Calls Try.prog 3 #[.int .i64 a, .int .i64 b] w fun e w' => e = .returned (.bool true) ∧ Below w.heap.size w w' := by
  obtain ⟨x0, x1⟩ := clampI_bd a
  obtain ⟨z0, z1⟩ := clampI_bd b
  have eo : (if clampI b < 1 then 1 else clampI b) = oneI (clampI b) := rfl
  have y0 := oneI_1 (clampI b)
  have y1 : oneI (clampI b) ≤ 1099511627776 := by unfold oneI; split <;> omega
  have oo : oneI (oneI (clampI b)) = oneI (clampI b) := by generalize oneI (clampI b) = q at *; unfold oneI; split <;> omega
  have pp : posI (clampI a) = clampI a := by generalize clampI a = q at *; unfold posI; split <;> omega
  have ec : ceilI (clampI a) (oneI (clampI b)) = clampI a / oneI (clampI b) + (if clampI a % oneI (clampI b) = 0 then 0 else 1) := by unfold ceilI; rw [oo, pp]
  have ef : floorI (clampI a) (oneI (clampI b)) = clampI a / oneI (clampI b) := by unfold floorI; rw [oo, pp]
  clear oo pp
  have hf := ceil_facts x0 x1 y0 y1
  dsimp only at hf
  rw [← ec, ← ef] at hf
  clear ec ef
  obtain ⟨f1, f2, f3, f4, f5, f6, f7, f8, f9, f10, f11, f12⟩ := hf
  generalize hc : ceilI (clampI a) (oneI (clampI b)) = c at *
  generalize hff : floorI (clampI a) (oneI (clampI b)) = f at *
  have HC := Lib.hid hc; clear hc
  have HF := Lib.hid hff; clear hff
  have k1 := fun w => clamp_any a w
  have k2 := fun w => clamp_any b w
  have k3 := fun w => ceil_any (clampI a) (oneI (clampI b)) (by omega) w
  have k4 := fun w => floor_any (clampI a) (oneI (clampI b)) (by omega) w
  rw [HC.out] at k3
  rw [HF.out] at k4
  clear HC HF
  generalize clampI a = x at *
  generalize clampI b = z at *
  generalize oneI z = y at *
  have K1 := Lib.hid k1; clear k1
  have K2 := Lib.hid k2; clear k2
  have K3 := Lib.hid k3; clear k3
  have K4 := Lib.hid k4; clear k4
  have f13 : c = 0 ∨ (c - 1) * y < x := by by_cases h : c = 0; exact .inl h; exact .inr (f7 h)
  clear f7
  by_cases h0 : c = 0
  · subst h0
    obtain rfl : f = 0 := by omega
    clear f13
    go_enter Try.func3, Try.ntmps3
    go_wp2_with fail
    refine (monalive_any _).mono ?_; rintro e w1 ⟨rfl, hb⟩
    go_wp2_with fail
    refine (K1.out _).mono ?_; rintro e w' ⟨rfl, rfl⟩
    go_wp2_with fail
    refine (K2.out _).mono ?_; rintro e w' ⟨rfl, rfl⟩
    go_wp2_with fail
    refine (K3.out _).mono ?_; rintro e w' ⟨rfl, rfl⟩
    go_wp2_with fail
    refine (K4.out _).mono ?_; rintro e w' ⟨rfl, rfl⟩
    go_wp2_with fail
    go_ret
    exact ⟨rfl, hb⟩
  · have f7 : (c - 1) * y < x := by omega
    have g0 : (c == 0) = false := by simp [h0]
    clear f13 h0
    go_enter Try.func3, Try.ntmps3
    go_wp2_with fail
    refine (monalive_any _).mono ?_; rintro e w1 ⟨rfl, hb⟩
    go_wp2_with fail
    refine (K1.out _).mono ?_; rintro e w' ⟨rfl, rfl⟩
    go_wp2_with fail
    refine (K2.out _).mono ?_; rintro e w' ⟨rfl, rfl⟩
    go_wp2_with fail
    refine (K3.out _).mono ?_; rintro e w' ⟨rfl, rfl⟩
    go_wp2_with fail
    refine (K4.out _).mono ?_; rintro e w' ⟨rfl, rfl⟩
    go_wp2_with fail
    go_ret
    exact ⟨rfl, hb⟩

end Go.Proofs.Ytbhpokcnkdgcmaa
