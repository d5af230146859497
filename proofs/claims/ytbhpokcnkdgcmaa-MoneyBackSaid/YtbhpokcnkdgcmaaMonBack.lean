/- MoneyBack: what is added and taken away again is what it was, in whatever order. -/
import Derived.Test.YtbhpokcnkdgcmaaMonSub
namespace Go.Proofs.Ytbhpokcnkdgcmaa
open Go.RowKit Go.Shelf

theorem accO3 (a b c : Int) (h : okA a b = true) : (accO [a, b, c]).getD 0 = addV (a + b) c ∧ (accO [a, b, c]).isSome = okA (a + b) c := by
  have h1 := (okA_iff a b).1 h
  have h2 : okA 0 a = true := (okA_iff 0 a).2 ⟨by decide, h1.1, by rw [Int.zero_add]; exact h1.1⟩
  have e : accO [a, b, c] = if okA (a + b) c then some (a + b + c) else none := by
    show ((if okA 0 a then some (0 + a) else none).bind fun s => if okA s b then some (s + b) else none).bind _ = _
    rw [if_pos h2, Int.zero_add]
    simp [h]
  rw [e]
  unfold addV
  cases okA (a + b) c <;> simp

set_option maxHeartbeats 1000000 in
theorem back_walk (a : Int) (_ : (Lit.int .i64 a).wf = true) (b : Int) (_ : (Lit.int .i64 b).wf = true) (c : Int) (_ : (Lit.int .i64 c).wf = true) (w : World) :
    Calls Try.prog 5 #[.int .i64 a, .int .i64 b, .int .i64 c] w fun e w' => e = .returned (.bool true) ∧ Below w.heap.size w w' := by
  cases h : okA a b
  · have e2 : addV a b = 0 := by unfold addV; rw [h]; rfl
    have H := Lib.hid h; clear h
    have E := Lib.hid e2; clear e2
    go_enter Try.func5, Try.ntmps5
    go_wp2_with fail
    refine (monalive_any _).mono ?_; rintro e w1 ⟨rfl, hb⟩
    go_wp2_with fail
    refine (add_any _ _ _).mono ?_; rintro e w' ⟨rfl, rfl⟩
    rw [H.out, E.out]
    go_wp2_with fail
    go_ret
    exact ⟨rfl, hb⟩
  · have hi := (okA_iff a b).1 h
    have e2 : addV a b = a + b := by unfold addV; rw [h]; rfl
    have h3 : okA b a = true := (okA_iff b a).2 ⟨hi.2.1, hi.1, by rw [Int.add_comm]; exact hi.2.2⟩
    have e3 : addV b a = a + b := by unfold addV; rw [h3, Int.add_comm]; rfl
    have h4 : okB (a + b) b = true := by unfold okB; rw [hi.2.2, hi.2.1, show a + b - b = a from by omega, hi.1]; rfl
    have e4 : subV (a + b) b = a := by unfold subV; rw [h4]; simp
    obtain ⟨t1, t2⟩ := accO3 a b c h
    have T1 := Lib.hid t1; clear t1
    have T2 := Lib.hid t2; clear t2
    have H := Lib.hid h; clear h
    have E2 := Lib.hid e2; clear e2
    have H3 := Lib.hid h3; clear h3
    have E3 := Lib.hid e3; clear e3
    have H4 := Lib.hid h4; clear h4
    have E4 := Lib.hid e4; clear e4
    clear hi
    generalize hs : a + b = s at *
    have HS := Lib.hid hs; clear hs
    go_enter Try.func5, Try.ntmps5
    go_wp2_with fail
    refine (monalive_any _).mono ?_; rintro e w1 ⟨rfl, hb⟩
    go_wp2_with fail
    refine (add_any _ _ _).mono ?_; rintro e w' ⟨rfl, rfl⟩
    rw [H.out, E2.out]
    go_wp2_with fail
    refine (sub_any _ _ _).mono ?_; rintro e w' ⟨rfl, rfl⟩
    rw [H4.out, E4.out]
    go_wp2_with fail
    refine (add_any _ _ _).mono ?_; rintro e w' ⟨rfl, rfl⟩
    rw [H3.out, E3.out]
    go_wp2_with fail
    refine (total_any _ 3 3 [a, b, c] _ (by simp) (ints_new3 _ a b c _)).mono ?_; rintro e w2 ⟨rfl, hb2⟩
    rw [T1.out, T2.out]
    go_wp2_with fail
    refine (add_any _ _ _).mono ?_; rintro e w' ⟨rfl, rfl⟩
    generalize addV s c = v
    generalize okA s c = o
    cases o
    all_goals
      go_wp2_with fail
      go_ret
      exact ⟨rfl, hb.trans (((Below.refl _ _).alloc (Nat.le_refl _) _).trans (hb2.mono (by simp)) |>.mono hb.size)⟩

end Go.Proofs.Ytbhpokcnkdgcmaa
