/- the references of money. -/
import Derived.Test.YtbhpokcnkdgcmaaMonSub
namespace Go.Proofs.Ytbhpokcnkdgcmaa
open Go.RowKit Go.Shelf

set_option maxHeartbeats 400000 in
theorem rsum_any (n : Int) (w : World) : Calls Try.prog 74 #[.int .i64 n] w fun e w' => e = .returned (.bool (okS n)) ∧ w = w' := by
  by_cases h1 : -140737488355328 ≤ n
  · by_cases h2 : n ≤ 140737488355328
    · have e : okS n = true := (okS_iff n).2 ⟨h1, h2⟩
      rw [e]; clear e
      go_enter Try.func74, Try.ntmps74
      go_wp2
      go_ret
      exact ⟨rfl, rfl⟩
    · have e : okS n = false := (okS_false n).2 (by omega)
      rw [e]; clear e
      go_enter Try.func74, Try.ntmps74
      go_wp2
      go_ret
      exact ⟨rfl, rfl⟩
  · have e : okS n = false := (okS_false n).2 (by omega)
    rw [e]; clear e
    go_enter Try.func74, Try.ntmps74
    go_wp2
    go_ret
    exact ⟨rfl, rfl⟩

set_option maxHeartbeats 400000 in
theorem radd_any (a b : Int) (w : World) : Calls Try.prog 18 #[.int .i64 a, .int .i64 b] w fun e w' => e = .returned (.tuple #[.int .i64 (addV a b), .bool (okA a b)]) ∧ w = w' := by
  cases ha : okS a
  · have e1 : okA a b = false := by unfold okA; rw [ha]; rfl
    have e2 : addV a b = 0 := by unfold addV; rw [e1]; rfl
    rw [e1, e2]; clear e1 e2
    have Ha := Lib.hid ha; clear ha
    go_enter Try.func18, Try.ntmps18
    go_wp2_with fail
    refine (rsum_any _ _).mono ?_; rintro e w' ⟨rfl, rfl⟩
    rw [Ha.out]
    go_wp2_with fail
    go_ret2
    exact ⟨rfl, rfl⟩
  · cases hb : okS b
    · have e1 : okA a b = false := by unfold okA; rw [ha, hb]; rfl
      have e2 : addV a b = 0 := by unfold addV; rw [e1]; rfl
      rw [e1, e2]; clear e1 e2
      have Ha := Lib.hid ha; clear ha
      have Hb := Lib.hid hb; clear hb
      go_enter Try.func18, Try.ntmps18
      go_wp2_with fail
      refine (rsum_any _ _).mono ?_; rintro e w' ⟨rfl, rfl⟩
      rw [Ha.out]
      go_wp2_with fail
      refine (rsum_any _ _).mono ?_; rintro e w' ⟨rfl, rfl⟩
      rw [Hb.out]
      go_wp2_with fail
      go_ret2
      exact ⟨rfl, rfl⟩
    · have ra := (okS_iff a).1 ha
      have rb := (okS_iff b).1 hb
      obtain ⟨ra1, ra2⟩ := ra
      obtain ⟨rb1, rb2⟩ := rb
      have Ha := Lib.hid ha; clear ha
      have Hb := Lib.hid hb; clear hb
      cases hc : okS (a + b)
      · have e1 : okA a b = false := by unfold okA; rw [Ha.out, Hb.out, hc]; rfl
        have e2 : addV a b = 0 := by unfold addV; rw [e1]; rfl
        rw [e1, e2]; clear e1 e2
        have Hc := Lib.hid hc; clear hc
        go_enter Try.func18, Try.ntmps18
        go_wp2_with fail
        refine (rsum_any _ _).mono ?_; rintro e w' ⟨rfl, rfl⟩
        rw [Ha.out]
        go_wp2_with fail
        refine (rsum_any _ _).mono ?_; rintro e w' ⟨rfl, rfl⟩
        rw [Hb.out]
        go_wp2_with fail
        refine (rsum_any _ _).mono ?_; rintro e w' ⟨rfl, rfl⟩
        rw [Hc.out]
        go_wp2_with fail
        go_ret2
        exact ⟨rfl, rfl⟩
      · have e1 : okA a b = true := by unfold okA; rw [Ha.out, Hb.out, hc]; rfl
        have e2 : addV a b = a + b := by unfold addV; rw [e1]; rfl
        rw [e1, e2]; clear e1 e2
        have Hc := Lib.hid hc; clear hc
        go_enter Try.func18, Try.ntmps18
        go_wp2_with fail
        refine (rsum_any _ _).mono ?_; rintro e w' ⟨rfl, rfl⟩
        rw [Ha.out]
        go_wp2_with fail
        refine (rsum_any _ _).mono ?_; rintro e w' ⟨rfl, rfl⟩
        rw [Hb.out]
        go_wp2_with fail
        refine (rsum_any _ _).mono ?_; rintro e w' ⟨rfl, rfl⟩
        rw [Hc.out]
        go_wp2_with fail
        go_ret2
        exact ⟨rfl, rfl⟩

set_option maxHeartbeats 400000 in
theorem rsub_any (a b : Int) (w : World) : Calls Try.prog 20 #[.int .i64 a, .int .i64 b] w fun e w' => e = .returned (.tuple #[.int .i64 (subV a b), .bool (okB a b)]) ∧ w = w' := by
  cases ha : okS a
  · have e1 : okB a b = false := by unfold okB; rw [ha]; rfl
    have e2 : subV a b = 0 := by unfold subV; rw [e1]; rfl
    rw [e1, e2]; clear e1 e2
    have Ha := Lib.hid ha; clear ha
    go_enter Try.func20, Try.ntmps20
    go_wp2_with fail
    refine (rsum_any _ _).mono ?_; rintro e w' ⟨rfl, rfl⟩
    rw [Ha.out]
    go_wp2_with fail
    go_ret2
    exact ⟨rfl, rfl⟩
  · cases hb : okS b
    · have e1 : okB a b = false := by unfold okB; rw [ha, hb]; rfl
      have e2 : subV a b = 0 := by unfold subV; rw [e1]; rfl
      rw [e1, e2]; clear e1 e2
      have Ha := Lib.hid ha; clear ha
      have Hb := Lib.hid hb; clear hb
      go_enter Try.func20, Try.ntmps20
      go_wp2_with fail
      refine (rsum_any _ _).mono ?_; rintro e w' ⟨rfl, rfl⟩
      rw [Ha.out]
      go_wp2_with fail
      refine (rsum_any _ _).mono ?_; rintro e w' ⟨rfl, rfl⟩
      rw [Hb.out]
      go_wp2_with fail
      go_ret2
      exact ⟨rfl, rfl⟩
    · obtain ⟨ra1, ra2⟩ := (okS_iff a).1 ha
      obtain ⟨rb1, rb2⟩ := (okS_iff b).1 hb
      have e1 : okB a b = okS (a - b) := by unfold okB; rw [ha, hb]; rfl
      have Ha := Lib.hid ha; clear ha
      have Hb := Lib.hid hb; clear hb
      cases hc : okS (a - b)
      · rw [hc] at e1
        have e2 : subV a b = 0 := by unfold subV; rw [e1]; rfl
        rw [e1, e2]; clear e1 e2
        have Hc := Lib.hid hc; clear hc
        go_enter Try.func20, Try.ntmps20
        go_wp2_with fail
        refine (rsum_any _ _).mono ?_; rintro e w' ⟨rfl, rfl⟩
        rw [Ha.out]
        go_wp2_with fail
        refine (rsum_any _ _).mono ?_; rintro e w' ⟨rfl, rfl⟩
        rw [Hb.out]
        go_wp2_with fail
        refine (rsum_any _ _).mono ?_; rintro e w' ⟨rfl, rfl⟩
        rw [Hc.out]
        go_wp2_with fail
        go_ret2
        exact ⟨rfl, rfl⟩
      · rw [hc] at e1
        have e2 : subV a b = a - b := by unfold subV; rw [e1]; rfl
        rw [e1, e2]; clear e1 e2
        have Hc := Lib.hid hc; clear hc
        go_enter Try.func20, Try.ntmps20
        go_wp2_with fail
        refine (rsum_any _ _).mono ?_; rintro e w' ⟨rfl, rfl⟩
        rw [Ha.out]
        go_wp2_with fail
        refine (rsum_any _ _).mono ?_; rintro e w' ⟨rfl, rfl⟩
        rw [Hb.out]
        go_wp2_with fail
        refine (rsum_any _ _).mono ?_; rintro e w' ⟨rfl, rfl⟩
        rw [Hc.out]
        go_wp2_with fail
        go_ret2
        exact ⟨rfl, rfl⟩

theorem rright_any (n : Int) (w : World) : Calls Try.prog 26 #[.int .i64 n] w fun e w' => e = .returned (.bool (decide (0 ≤ n ∧ n ≤ 1099511627776))) ∧ w = w' := by
  by_cases h1 : 0 ≤ n
  · by_cases h2 : n ≤ 1099511627776
    · have e : decide (0 ≤ n ∧ n ≤ 1099511627776) = true := by simp; omega
      rw [e]; clear e
      go_enter Try.func26, Try.ntmps26
      go_wp2
      go_ret
      exact ⟨rfl, rfl⟩
    · have e : decide (0 ≤ n ∧ n ≤ 1099511627776) = false := by simp; omega
      rw [e]; clear e
      go_enter Try.func26, Try.ntmps26
      go_wp2
      go_ret
      exact ⟨rfl, rfl⟩
  · have e : decide (0 ≤ n ∧ n ≤ 1099511627776) = false := by simp; omega
    rw [e]; clear e
    go_enter Try.func26, Try.ntmps26
    go_wp2
    go_ret
    exact ⟨rfl, rfl⟩

theorem rclamp_any (n : Int) (w : World) : Calls Try.prog 27 #[.int .i64 n] w fun e w' => e = .returned (.int .i64 (clampI n)) ∧ w = w' := by
  by_cases h1 : n < 0
  · have e : clampI n = 0 := by unfold clampI; rw [if_pos h1]
    rw [e]; clear e
    go_enter Try.func27, Try.ntmps27
    go_wp2
    go_ret
    exact ⟨rfl, rfl⟩
  · by_cases h2 : 1099511627776 < n
    · have e : clampI n = 1099511627776 := by unfold clampI; rw [if_neg h1, if_pos h2]
      rw [e]; clear e
      go_enter Try.func27, Try.ntmps27
      go_wp2
      go_ret
      exact ⟨rfl, rfl⟩
    · have e : clampI n = n := by unfold clampI; rw [if_neg h1, if_neg h2]
      rw [e]; clear e
      go_enter Try.func27, Try.ntmps27
      go_wp2
      go_ret
      exact ⟨rfl, rfl⟩


set_option maxHeartbeats 1000000 in
theorem rfloor_any (a b : Int) (ha : a ≤ 9223372036854775807) (w : World) : Calls Try.prog 24 #[.int .i64 a, .int .i64 b] w fun e w' => e = .returned (.int .i64 (floorI a b)) ∧ w = w' := by
  have p0 := posI_0 a
  have p1 := posI_le a ha
  have o0 := oneI_1 b
  have d0 := div_nonneg p0 o0
  have d1 := div_le_self (b := oneI b) p0
  have key : floorI a b = posI a / oneI b := rfl
  rw [key]
  clear key
  by_cases h1 : a < 0
  · have e1 : posI a = 0 := by unfold posI; rw [if_pos h1]
    rw [e1] at *; clear e1
    by_cases h2 : b < 1
    · have e2 : oneI b = 1 := by unfold oneI; rw [if_pos h2]
      rw [e2] at *; clear e2
      go_enter Try.func24, Try.ntmps24
      go_wp2
      go_ret
      exact ⟨rfl, rfl⟩
    · have e2 : oneI b = b := by unfold oneI; rw [if_neg h2]
      rw [e2] at *; clear e2
      go_enter Try.func24, Try.ntmps24
      go_wp2
      go_ret
      exact ⟨rfl, rfl⟩
  · have e1 : posI a = a := by unfold posI; rw [if_neg h1]
    rw [e1] at *; clear e1
    by_cases h2 : b < 1
    · have e2 : oneI b = 1 := by unfold oneI; rw [if_pos h2]
      rw [e2] at *; clear e2
      go_enter Try.func24, Try.ntmps24
      go_wp2
      go_ret
      exact ⟨rfl, rfl⟩
    · have e2 : oneI b = b := by unfold oneI; rw [if_neg h2]
      rw [e2] at *; clear e2
      go_enter Try.func24, Try.ntmps24
      go_wp2
      go_ret
      exact ⟨rfl, rfl⟩

/-- the reference's question: is something left? -/
theorem ceil_rem {a b : Int} (hb : 1 ≤ b) : (a / b) * b < a ↔ ¬ a % b = 0 := by
  have h1 := Int.mul_ediv_add_emod a b
  have h2 := Int.emod_nonneg a (b := b) (by omega)
  have h3 : a / b * b = b * (a / b) := Int.mul_comm _ _
  omega

set_option maxHeartbeats 2000000 in
theorem rceil_any (a b : Int) (ha : a ≤ 9223372036854775807) (w : World) : Calls Try.prog 23 #[.int .i64 a, .int .i64 b] w fun e w' => e = .returned (.int .i64 (ceilI a b)) ∧ w = w' := by
  have kf := fun w => rfloor_any a b ha w
  by_cases h1 : 0 < a
  · have e1 : posI a = a := by unfold posI; rw [if_neg (by omega)]
    by_cases h2 : b < 1
    · have e2 : oneI b = 1 := by unfold oneI; rw [if_pos h2]
      have e3 : floorI a b = a := by unfold floorI; rw [e1, e2]; omega
      have e4 : ceilI a b = a := by unfold ceilI; rw [e1, e2, if_pos (by omega)]; omega
      rw [e3] at kf
      rw [e4]; clear e1 e2 e3 e4
      have KF := Lib.hid kf; clear kf
      go_enter Try.func23, Try.ntmps23
      go_wp2_with fail
      refine (KF.out _).mono ?_; rintro e w' ⟨rfl, rfl⟩
      go_wp2_with fail
      go_ret
      exact ⟨rfl, rfl⟩
    · have e2 : oneI b = b := by unfold oneI; rw [if_neg h2]
      have hb : 1 ≤ b := by omega
      have e3 : floorI a b = a / b := by unfold floorI; rw [e1, e2]
      have e4 : ceilI a b = a / b + (if a % b = 0 then 0 else 1) := by unfold ceilI; rw [e1, e2]
      have hr := ceil_rem (a := a) hb
      have d0 := div_nonneg (a := a) (b := b) (by omega) hb
      have d1 := div_le_self (a := a) (b := b) (by omega)
      have m1 : a / b * b ≤ a := by have := Int.ediv_mul_le a (b := b) (by omega); exact this
      have m0 : 0 ≤ a / b * b := Int.mul_nonneg d0 (by omega)
      have d2 := div_lt_of_rem (a := a) (b := b) (by omega) hb
      rw [e3] at kf
      rw [e4]; clear e1 e2 e3 e4 h2
      have KF := Lib.hid kf; clear kf
      by_cases hz : a % b = 0
      · have hl : ¬ a / b * b < a := fun h => hr.1 h hz
        rw [if_pos hz, Int.add_zero]
        generalize a / b = q at *
        have h5 : a ≤ q * b := by omega
        clear hr hz d2 hl
        go_enter Try.func23, Try.ntmps23
        go_wp2_with fail
        refine (KF.out _).mono ?_; rintro e w' ⟨rfl, rfl⟩
        go_wp2_with fail
        go_ret
        exact ⟨rfl, rfl⟩
      · have hl : a / b * b < a := hr.2 hz
        have d3 := d2 hz
        rw [if_neg hz]
        generalize a / b = q at *
        clear hr hz d2
        go_enter Try.func23, Try.ntmps23
        go_wp2_with fail
        refine (KF.out _).mono ?_; rintro e w' ⟨rfl, rfl⟩
        go_wp2_with fail
        go_ret
        exact ⟨rfl, rfl⟩
  · have e1 : posI a = 0 := by unfold posI; split <;> omega
    have e3 : floorI a b = 0 := by unfold floorI; rw [e1]; simp
    have e4 : ceilI a b = 0 := by unfold ceilI; rw [e1]; simp
    rw [e3] at kf
    rw [e4]; clear e1 e3 e4
    have KF := Lib.hid kf; clear kf
    go_enter Try.func23, Try.ntmps23
    go_wp2_with fail
    refine (KF.out _).mono ?_; rintro e w' ⟨rfl, rfl⟩
    go_wp2_with fail
    go_ret
    exact ⟨rfl, rfl⟩

/-- the room that a sum leaves a factor -/
theorem room_iff {a n : Int} (ha : a ≠ 0) : a.natAbs * n.natAbs ≤ 140737488355328 ↔ ¬ (140737488355328 / absI a < n) ∧ ¬ (n < -(140737488355328 / absI a)) := by
  have e : (140737488355328 : Int) / absI a = ((140737488355328 / a.natAbs : Nat) : Int) := by rw [absI_nat]; exact (Int.natCast_ediv 140737488355328 a.natAbs).symm
  rw [e]
  have hp : 0 < a.natAbs := by omega
  rw [show (a.natAbs * n.natAbs ≤ 140737488355328) ↔ n.natAbs ≤ 140737488355328 / a.natAbs from by rw [Nat.le_div_iff_mul_le hp, Nat.mul_comm]]
  omega
theorem room_bd {a : Int} (ha : a ≠ 0) : 0 ≤ 140737488355328 / absI a ∧ 140737488355328 / absI a ≤ 140737488355328 := by
  have h : 1 ≤ absI a := by rw [absI_nat]; omega
  exact ⟨div_nonneg (by omega) h, div_le_self (by omega)⟩

set_option maxHeartbeats 2000000 in
theorem rmul_any (a n : Int) (n0 : -9223372036854775808 ≤ n) (n1 : n ≤ 9223372036854775807) (w : World) :
    Calls Try.prog 22 #[.int .i64 a, .int .i64 n] w fun e w' => e = .returned (.tuple #[.int .i64 (mulV a n), .bool (okM a n)]) ∧ w = w' := by
  cases hS : okS a
  · have e1 : okM a n = false := by unfold okM; rw [hS]; rfl
    have e2 : mulV a n = 0 := by unfold mulV; rw [e1]; rfl
    rw [e1, e2]; clear e1 e2
    have Hs := Lib.hid hS; clear hS
    go_enter Try.func22, Try.ntmps22
    go_wp2_with fail
    refine (rsum_any _ _).mono ?_; rintro e w' ⟨rfl, rfl⟩
    rw [Hs.out]
    go_wp2_with fail
    go_ret2
    exact ⟨rfl, rfl⟩
  · obtain ⟨r0, r1⟩ := (okS_iff a).1 hS
    by_cases ha : a = 0
    · subst ha
      have e1 : okM 0 n = true := by unfold okM; rw [hS]; simp
      have e2 : mulV 0 n = 0 := by unfold mulV; rw [e1]; simp
      rw [e1, e2]; clear e1 e2
      have Hs := Lib.hid hS; clear hS
      go_enter Try.func22, Try.ntmps22
      go_wp2_with fail
      refine (rsum_any _ _).mono ?_; rintro e w' ⟨rfl, rfl⟩
      rw [Hs.out]
      go_wp2_with fail
      go_ret2
      exact ⟨rfl, rfl⟩
    · have ha2 : (a == 0) = false := by simp [ha]
      by_cases hn : n = 0
      · subst hn
        have e1 : okM a 0 = true := by unfold okM; rw [hS]; simp
        have e2 : mulV a 0 = 0 := by unfold mulV; rw [e1]; simp
        rw [e1, e2]; clear e1 e2 ha
        have Hs := Lib.hid hS; clear hS
        go_enter Try.func22, Try.ntmps22
        go_wp2_with fail
        refine (rsum_any _ _).mono ?_; rintro e w' ⟨rfl, rfl⟩
        rw [Hs.out]
        go_wp2_with fail
        go_ret2
        exact ⟨rfl, rfl⟩
      · have hn2 : (n == 0) = false := by simp [hn]
        have hM : okM a n = decide (a.natAbs * n.natAbs ≤ 140737488355328) := by unfold okM; rw [hS]; rfl
        have hq := room_iff (n := n) ha
        obtain ⟨b0, b1⟩ := room_bd ha
        have hpos : 1 ≤ absI a := by rw [absI_nat]; omega
        have Hs := Lib.hid hS; clear hS
        clear hn ha
        rcases Int.lt_or_le a 0 with hl | hl
        · obtain ⟨m, rfl⟩ : ∃ m : Int, a = -m := ⟨-a, by omega⟩
          have hx : absI (-m) = m := by unfold absI; rw [if_pos hl]; omega
          by_cases g1 : 140737488355328 / absI (-m) < n
          · have e1 : okM (-m) n = false := by rw [hM]; exact decide_eq_false (fun h => by have := hq.1 h; omega)
            have e2 : mulV (-m) n = 0 := by unfold mulV; rw [e1]; rfl
            rw [e1, e2]; clear e1 e2 hM hq
            rw [hx] at b0 b1 g1 hpos
            clear hx
            go_enter Try.func22, Try.ntmps22
            go_wp2_with fail
            refine (rsum_any _ _).mono ?_; rintro e w' ⟨rfl, rfl⟩
            rw [Hs.out]
            go_wp2_with fail
            go_ret2
            exact ⟨rfl, rfl⟩
          · by_cases g2 : n < -(140737488355328 / absI (-m))
            · have e1 : okM (-m) n = false := by rw [hM]; exact decide_eq_false (fun h => by have := hq.1 h; omega)
              have e2 : mulV (-m) n = 0 := by unfold mulV; rw [e1]; rfl
              rw [e1, e2]; clear e1 e2 hM hq
              rw [hx] at b0 b1 g1 g2 hpos
              clear hx
              go_enter Try.func22, Try.ntmps22
              go_wp2_with fail
              refine (rsum_any _ _).mono ?_; rintro e w' ⟨rfl, rfl⟩
              rw [Hs.out]
              go_wp2_with fail
              go_ret2
              exact ⟨rfl, rfl⟩
            · have hle := hq.2 ⟨g1, g2⟩
              obtain ⟨p0, p1⟩ := mul_in hle
              have e1 : okM (-m) n = true := by rw [hM]; exact decide_eq_true hle
              have e2 : mulV (-m) n = -m * n := by unfold mulV; rw [e1]; rfl
              rw [e1, e2]; clear e1 e2 hM hq hle
              rw [hx] at b0 b1 g1 g2 hpos
              clear hx
              go_enter Try.func22, Try.ntmps22
              go_wp2_with fail
              refine (rsum_any _ _).mono ?_; rintro e w' ⟨rfl, rfl⟩
              rw [Hs.out]
              go_wp2_with fail
              go_ret2
              exact ⟨rfl, rfl⟩
        · have hx : absI a = a := by unfold absI; rw [if_neg (by omega)]
          by_cases g1 : 140737488355328 / absI (a) < n
          · have e1 : okM (a) n = false := by rw [hM]; exact decide_eq_false (fun h => by have := hq.1 h; omega)
            have e2 : mulV (a) n = 0 := by unfold mulV; rw [e1]; rfl
            rw [e1, e2]; clear e1 e2 hM hq
            rw [hx] at b0 b1 g1 hpos
            clear hx
            go_enter Try.func22, Try.ntmps22
            go_wp2_with fail
            refine (rsum_any _ _).mono ?_; rintro e w' ⟨rfl, rfl⟩
            rw [Hs.out]
            go_wp2_with fail
            go_ret2
            exact ⟨rfl, rfl⟩
          · by_cases g2 : n < -(140737488355328 / absI (a))
            · have e1 : okM (a) n = false := by rw [hM]; exact decide_eq_false (fun h => by have := hq.1 h; omega)
              have e2 : mulV (a) n = 0 := by unfold mulV; rw [e1]; rfl
              rw [e1, e2]; clear e1 e2 hM hq
              rw [hx] at b0 b1 g1 g2 hpos
              clear hx
              go_enter Try.func22, Try.ntmps22
              go_wp2_with fail
              refine (rsum_any _ _).mono ?_; rintro e w' ⟨rfl, rfl⟩
              rw [Hs.out]
              go_wp2_with fail
              go_ret2
              exact ⟨rfl, rfl⟩
            · have hle := hq.2 ⟨g1, g2⟩
              obtain ⟨p0, p1⟩ := mul_in hle
              have e1 : okM (a) n = true := by rw [hM]; exact decide_eq_true hle
              have e2 : mulV (a) n = a * n := by unfold mulV; rw [e1]; rfl
              rw [e1, e2]; clear e1 e2 hM hq hle
              rw [hx] at b0 b1 g1 g2 hpos
              clear hx
              go_enter Try.func22, Try.ntmps22
              go_wp2_with fail
              refine (rsum_any _ _).mono ?_; rintro e w' ⟨rfl, rfl⟩
              rw [Hs.out]
              go_wp2_with fail
              go_ret2
              exact ⟨rfl, rfl⟩

end Go.Proofs.Ytbhpokcnkdgcmaa
