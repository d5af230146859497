/- money: sums. -/
import Derived.Test.YtbhpokcnkdgcmaaVals
import Derived.Test.YtbhpokcnkdgcmaaShelf
import Derived.WalkSpells
import Derived.WalkLawsBesides
import Derived.Lib.Hide
namespace Go.Proofs.Ytbhpokcnkdgcmaa
open Go.RowKit Go.Shelf
attribute [local go_sem] Oper.semAt_some

/-- is a number a sum? -/
def okS (n : Int) : Bool := decide (-140737488355328 ≤ n ∧ n ≤ 140737488355328)
theorem okS_iff (n : Int) : okS n = true ↔ (-140737488355328 ≤ n ∧ n ≤ 140737488355328) := by unfold okS; simp
theorem okS_false (n : Int) : okS n = false ↔ (n < -140737488355328 ∨ 140737488355328 < n) := by unfold okS; simp; omega

set_option maxHeartbeats 400000 in
theorem sum_any (n : Int) (w : World) : Calls Try.prog 73 #[.int .i64 n] w fun e w' => e = .returned (.bool (okS n)) ∧ w = w' := by
  by_cases h1 : -140737488355328 ≤ n
  · by_cases h2 : n ≤ 140737488355328
    · have e : okS n = true := (okS_iff n).2 ⟨h1, h2⟩
      rw [e]; clear e
      go_enter Try.func73, Try.ntmps73
      go_wp2
      go_ret
      exact ⟨rfl, rfl⟩
    · have e : okS n = false := (okS_false n).2 (by omega)
      rw [e]; clear e
      go_enter Try.func73, Try.ntmps73
      go_wp2
      go_ret
      exact ⟨rfl, rfl⟩
  · have e : okS n = false := (okS_false n).2 (by omega)
    rw [e]; clear e
    go_enter Try.func73, Try.ntmps73
    go_wp2
    go_ret
    exact ⟨rfl, rfl⟩

/-- may two be added? -/
def okA (a b : Int) : Bool := okS a && okS b && okS (a + b)
/-- what Add answers -/
def addV (a b : Int) : Int := if okA a b then a + b else 0
theorem okA_iff (a b : Int) : okA a b = true ↔ (okS a = true ∧ okS b = true ∧ okS (a + b) = true) := by unfold okA; simp [and_assoc]

set_option maxHeartbeats 400000 in
theorem add_any (a b : Int) (w : World) : Calls Try.prog 17 #[.int .i64 a, .int .i64 b] w fun e w' => e = .returned (.tuple #[.int .i64 (addV a b), .bool (okA a b)]) ∧ w = w' := by
  cases ha : okS a
  · have e1 : okA a b = false := by unfold okA; rw [ha]; rfl
    have e2 : addV a b = 0 := by unfold addV; rw [e1]; rfl
    rw [e1, e2]; clear e1 e2
    have Ha := Lib.hid ha; clear ha
    go_enter Try.func17, Try.ntmps17
    go_wp2_with fail
    refine (sum_any _ _).mono ?_; rintro e w' ⟨rfl, rfl⟩
    rw [Ha.out]
    go_wp2_with fail
    go_ret2
    exact ⟨rfl, rfl⟩
  · cases hb : okS b
    · have e1 : okA a b = false := by unfold okA; rw [ha, hb]; rfl
      have e2 : addV a b = 0 := by unfold addV; rw [e1]; rfl
      rw [e1, e2]; clear e1 e2
      have Ha := Lib.hid ha; clear ha
      have Hb := Lib.hid hb; clear hb
      go_enter Try.func17, Try.ntmps17
      go_wp2_with fail
      refine (sum_any _ _).mono ?_; rintro e w' ⟨rfl, rfl⟩
      rw [Ha.out]
      go_wp2_with fail
      refine (sum_any _ _).mono ?_; rintro e w' ⟨rfl, rfl⟩
      rw [Hb.out]
      go_wp2_with fail
      go_ret2
      exact ⟨rfl, rfl⟩
    · have ra := (okS_iff a).1 ha
      have rb := (okS_iff b).1 hb
      obtain ⟨ra1, ra2⟩ := ra
      obtain ⟨rb1, rb2⟩ := rb
      have Ha := Lib.hid ha; clear ha
      have Hb := Lib.hid hb; clear hb
      cases hc : okS (a + b)
      · have e1 : okA a b = false := by unfold okA; rw [Ha.out, Hb.out, hc]; rfl
        have e2 : addV a b = 0 := by unfold addV; rw [e1]; rfl
        rw [e1, e2]; clear e1 e2
        have Hc := Lib.hid hc; clear hc
        go_enter Try.func17, Try.ntmps17
        go_wp2_with fail
        refine (sum_any _ _).mono ?_; rintro e w' ⟨rfl, rfl⟩
        rw [Ha.out]
        go_wp2_with fail
        refine (sum_any _ _).mono ?_; rintro e w' ⟨rfl, rfl⟩
        rw [Hb.out]
        go_wp2_with fail
        refine (sum_any _ _).mono ?_; rintro e w' ⟨rfl, rfl⟩
        rw [Hc.out]
        go_wp2_with fail
        go_ret2
        exact ⟨rfl, rfl⟩
      · have e1 : okA a b = true := by unfold okA; rw [Ha.out, Hb.out, hc]; rfl
        have e2 : addV a b = a + b := by unfold addV; rw [e1]; rfl
        rw [e1, e2]; clear e1 e2
        have Hc := Lib.hid hc; clear hc
        go_enter Try.func17, Try.ntmps17
        go_wp2_with fail
        refine (sum_any _ _).mono ?_; rintro e w' ⟨rfl, rfl⟩
        rw [Ha.out]
        go_wp2_with fail
        refine (sum_any _ _).mono ?_; rintro e w' ⟨rfl, rfl⟩
        rw [Hb.out]
        go_wp2_with fail
        refine (sum_any _ _).mono ?_; rintro e w' ⟨rfl, rfl⟩
        rw [Hc.out]
        go_wp2_with fail
        go_ret2
        exact ⟨rfl, rfl⟩

end Go.Proofs.Ytbhpokcnkdgcmaa
