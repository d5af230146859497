/- money.Sub. -/
import Derived.Test.YtbhpokcnkdgcmaaMonAlive
namespace Go.Proofs.Ytbhpokcnkdgcmaa
open Go.RowKit Go.Shelf

def okB (a b : Int) : Bool := okS a && okS b && okS (a - b)
def subV (a b : Int) : Int := if okB a b then a - b else 0

set_option maxHeartbeats 400000 in
theorem sub_any (a b : Int) (w : World) : Calls Try.prog 19 #[.int .i64 a, .int .i64 b] w fun e w' => e = .returned (.tuple #[.int .i64 (subV a b), .bool (okB a b)]) ∧ w = w' := by
  cases ha : okS a
  · have e1 : okB a b = false := by unfold okB; rw [ha]; rfl
    have e2 : subV a b = 0 := by unfold subV; rw [e1]; rfl
    rw [e1, e2]; clear e1 e2
    have Ha := Lib.hid ha; clear ha
    go_enter Try.func19, Try.ntmps19
    go_wp2_with fail
    refine (sum_any _ _).mono ?_; rintro e w' ⟨rfl, rfl⟩
    rw [Ha.out]
    go_wp2_with fail
    go_ret2
    exact ⟨rfl, rfl⟩
  · cases hb : okS b
    · have e1 : okB a b = false := by unfold okB; rw [ha, hb]; rfl
      have e2 : subV a b = 0 := by unfold subV; rw [e1]; rfl
      rw [e1, e2]; clear e1 e2
      have Ha := Lib.hid ha; clear ha
      have Hb := Lib.hid hb; clear hb
      go_enter Try.func19, Try.ntmps19
      go_wp2_with fail
      refine (sum_any _ _).mono ?_; rintro e w' ⟨rfl, rfl⟩
      rw [Ha.out]
      go_wp2_with fail
      refine (sum_any _ _).mono ?_; rintro e w' ⟨rfl, rfl⟩
      rw [Hb.out]
      go_wp2_with fail
      go_ret2
      exact ⟨rfl, rfl⟩
    · obtain ⟨ra1, ra2⟩ := (okS_iff a).1 ha
      obtain ⟨rb1, rb2⟩ := (okS_iff b).1 hb
      have e1 : okB a b = okS (a - b) := by unfold okB; rw [ha, hb]; rfl
      have Ha := Lib.hid ha; clear ha
      have Hb := Lib.hid hb; clear hb
      cases hc : okS (a - b)
      · rw [hc] at e1
        have e2 : subV a b = 0 := by unfold subV; rw [e1]; rfl
        rw [e1, e2]; clear e1 e2
        have Hc := Lib.hid hc; clear hc
        go_enter Try.func19, Try.ntmps19
        go_wp2_with fail
        refine (sum_any _ _).mono ?_; rintro e w' ⟨rfl, rfl⟩
        rw [Ha.out]
        go_wp2_with fail
        refine (sum_any _ _).mono ?_; rintro e w' ⟨rfl, rfl⟩
        rw [Hb.out]
        go_wp2_with fail
        refine (sum_any _ _).mono ?_; rintro e w' ⟨rfl, rfl⟩
        rw [Hc.out]
        go_wp2_with fail
        go_ret2
        exact ⟨rfl, rfl⟩
      · rw [hc] at e1
        have e2 : subV a b = a - b := by unfold subV; rw [e1]; rfl
        rw [e1, e2]; clear e1 e2
        have Hc := Lib.hid hc; clear hc
        go_enter Try.func19, Try.ntmps19
        go_wp2_with fail
        refine (sum_any _ _).mono ?_; rintro e w' ⟨rfl, rfl⟩
        rw [Ha.out]
        go_wp2_with fail
        refine (sum_any _ _).mono ?_; rintro e w' ⟨rfl, rfl⟩
        rw [Hb.out]
        go_wp2_with fail
        refine (sum_any _ _).mono ?_; rintro e w' ⟨rfl, rfl⟩
        rw [Hc.out]
        go_wp2_with fail
        go_ret2
        exact ⟨rfl, rfl⟩

end Go.Proofs.Ytbhpokcnkdgcmaa
