/- money's examples, as the document has them. -/
import Derived.Test.YtbhpokcnkdgcmaaMon2
namespace Go.Proofs.Ytbhpokcnkdgcmaa
open Go.RowKit Go.Shelf

theorem cells_at {w : World} {b : Nat} {cs : Array Value} {t : TypeId} {fr : Nat × Nat} (h : w.heap[b]? = some (.cells cs t fr)) (j : Nat) : w.cell? ⟨b, j, none⟩ = cs[j]? := by
  unfold World.cell?
  dsimp only
  rw [h]
  simp
theorem ints_new3 (w : World) (a b c : Int) (e : TypeId) : Ints (w.alloc (.cells #[.int .i64 a, .int .i64 b, .int .i64 c] e)).heap.size (w.alloc (.cells #[.int .i64 a, .int .i64 b, .int .i64 c] e)) (.slice (some ⟨w.heap.size, 0, none⟩) 3 3) [a, b, c] :=
  .inr ⟨w.heap.size, 0, 3, rfl, by simp, fun j hj => by
    have hn := World.alloc_heap_new w (.cells #[.int .i64 a, .int .i64 b, .int .i64 c] e)
    match j, hj with
    | 0, _ => exact (cells_at hn (0 + 0))
    | 1, _ => exact (cells_at hn (0 + 1))
    | 2, _ => exact (cells_at hn (0 + 2))⟩

set_option maxHeartbeats 1000000 in
theorem monalive_any (w : World) : Calls Try.prog 13 #[] w fun e w' => e = .returned (.bool true) ∧ Below w.heap.size w w' := by
  have hI := Lib.hid (ints_new3 w 1 2 3 2)
  go_enter Try.func13, Try.ntmps13
  go_wp2_with fail
  refine (add_any _ _ _).mono ?_; rintro e w' ⟨rfl, rfl⟩
  rw [show addV 140737488355328 0 = 140737488355328 from by decide, show okA 140737488355328 0 = true from by decide]
  go_wp2_with fail
  refine (add_any _ _ _).mono ?_; rintro e w' ⟨rfl, rfl⟩
  rw [show addV 140737488355328 1 = 0 from by decide, show okA 140737488355328 1 = false from by decide]
  go_wp2_with fail
  refine (mul_any _ _ (by omega) (by omega) (by omega) (by omega) _).mono ?_; rintro e w' ⟨rfl, rfl⟩
  rw [show mulV (-3) 5 = -15 from by decide, show okM (-3) 5 = true from by decide]
  go_wp2_with fail
  refine (total_any _ 3 3 [1, 2, 3] _ (by simp) hI.out).mono ?_; rintro e w1 ⟨rfl, hb⟩
  rw [show (accO [1, 2, 3]).getD 0 = 6 from by decide, show (accO [1, 2, 3]).isSome = true from by decide]
  go_wp2_with fail
  refine (ceil_any _ _ (by omega) _).mono ?_; rintro e w' ⟨rfl, rfl⟩
  rw [show ceilI 7 2 = 4 from by decide]
  go_wp2_with fail
  refine (floor_any _ _ (by omega) _).mono ?_; rintro e w' ⟨rfl, rfl⟩
  rw [show floorI 7 2 = 3 from by decide]
  go_wp2_with fail
  refine (right_any _ _).mono ?_; rintro e w' ⟨rfl, rfl⟩
  rw [show decide ((0 : Int) ≤ 1099511627776 ∧ (1099511627776 : Int) ≤ 1099511627776) = true from by decide]
  go_wp2_with fail
  refine (right_any _ _).mono ?_; rintro e w' ⟨rfl, rfl⟩
  rw [show decide ((0 : Int) ≤ -1 ∧ (-1 : Int) ≤ 1099511627776) = false from by decide]
  go_wp2_with fail
  refine (clamp_any _ _).mono ?_; rintro e w' ⟨rfl, rfl⟩
  rw [show clampI (-5) = 0 from by decide]
  go_wp2_with fail
  go_ret
  exact ⟨rfl, ((Below.refl _ w).alloc (Nat.le_refl _) _).trans (hb.mono (by simp))⟩

end Go.Proofs.Ytbhpokcnkdgcmaa
