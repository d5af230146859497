/- MoneyTwo: of all pairs of numbers every answer is as said. -/
import Derived.Test.YtbhpokcnkdgcmaaMonRef
import Derived.OpenShut
namespace Go.Proofs.Ytbhpokcnkdgcmaa
open Go.RowKit Go.Shelf

theorem wf64 {a : Int} (h : (Lit.int .i64 a).wf = true) : -9223372036854775808 ≤ a ∧ a ≤ 9223372036854775807 := bounds_i64 h

set_option maxHeartbeats 2000000 in
theorem two_walk (a : Int) (wa : (Lit.int .i64 a).wf = true) (b : Int) (_ : (Lit.int .i64 b).wf = true) (n : Int) (wn : (Lit.int .i64 n).wf = true) (w : World) :
    Calls Try.prog 4 #[.int .i64 a, .int .i64 b, .int .i64 n] w fun e w' => e = .returned (.bool true) ∧ Below w.heap.size w w' := by
  obtain ⟨a0, a1⟩ := wf64 wa
  obtain ⟨n0, n1⟩ := wf64 wn
  have kr := fun w => right_any a w
  have ks := fun w => rright_any a w
  generalize decide (0 ≤ a ∧ a ≤ 1099511627776) = o4 at kr ks
  have KR := Lib.hid kr; clear kr
  have KS := Lib.hid ks; clear ks
  go_enter Try.func4, Try.ntmps4
  go_wp2_with fail
  refine (monalive_any _).mono ?_; rintro e w1 ⟨rfl, hb⟩
  go_wp2_with fail
  refine (add_any _ _ _).mono ?_; rintro e w' ⟨rfl, rfl⟩
  go_wp2_with fail
  refine (radd_any _ _ _).mono ?_; rintro e w' ⟨rfl, rfl⟩
  generalize addV a b = v1
  generalize okA a b = o1
  go_wp2_with fail
  refine (sub_any _ _ _).mono ?_; rintro e w' ⟨rfl, rfl⟩
  go_wp2_with fail
  refine (rsub_any _ _ _).mono ?_; rintro e w' ⟨rfl, rfl⟩
  generalize subV a b = v2
  generalize okB a b = o2
  go_wp2_with fail
  refine (mul_any _ _ a0 a1 n0 n1 _).mono ?_; rintro e w' ⟨rfl, rfl⟩
  go_wp2_with fail
  refine (rmul_any _ _ n0 n1 _).mono ?_; rintro e w' ⟨rfl, rfl⟩
  generalize mulV a n = v3
  generalize okM a n = o3
  go_wp2_with fail
  refine (ceil_any _ _ a1 _).mono ?_; rintro e w' ⟨rfl, rfl⟩
  go_wp2_with fail
  refine (rceil_any _ _ a1 _).mono ?_; rintro e w' ⟨rfl, rfl⟩
  generalize ceilI a b = v4
  go_wp2_with fail
  refine (floor_any _ _ a1 _).mono ?_; rintro e w' ⟨rfl, rfl⟩
  go_wp2_with fail
  refine (rfloor_any _ _ a1 _).mono ?_; rintro e w' ⟨rfl, rfl⟩
  generalize floorI a b = v5
  go_wp2_with fail
  refine (KR.out _).mono ?_; rintro e w' ⟨rfl, rfl⟩
  go_wp2_with fail
  refine (KS.out _).mono ?_; rintro e w' ⟨rfl, rfl⟩
  go_wp2_with fail
  refine (clamp_any _ _).mono ?_; rintro e w' ⟨rfl, rfl⟩
  go_wp2_with fail
  refine (rclamp_any _ _).mono ?_; rintro e w' ⟨rfl, rfl⟩
  generalize clampI a = v6
  go_wp2_with fail
  go_ret
  exact ⟨rfl, hb⟩

end Go.Proofs.Ytbhpokcnkdgcmaa
