/- layer 5: a list that all bytes are; the statements' own functions. -/
import Derived.Test.YtbhpokcnkdgcmaaCod6
set_option linter.unusedSimpArgs false
set_option linter.unusedVariables false
namespace Go.Proofs.Ytbhpokcnkdgcmaa.Cod
open Go.RowKit Go.Shelf Go.Proofs.YtbhpokcnkdgcmaaW.PrintWords Go.Proofs.Ytbhpokcnkdgcmaa.CodL
attribute [local go_sem] Oper.semAt_some

theorem takeL_sub {α : Type} {one : St → St × α} (hs : ∀ s, ∃ k, (one s).1.1 = s.1.drop k) (n : Nat) : ∀ (s : St) (out : List α), ∃ k, (takeL one n s out).1.1 = s.1.drop k := by
  induction n with
  | zero => intro s out; exact ⟨0, rfl⟩
  | succ n ih =>
    intro s out
    rw [takeL]
    split
    · obtain ⟨k1, h1⟩ := hs s
      obtain ⟨k2, h2⟩ := ih (one s).1 (out ++ [(one s).2])
      exact ⟨k1 + k2, by rw [h2, h1, List.drop_drop]⟩
    · exact ⟨0, rfl⟩
theorem grown_below {A B : World} {p n₀ : Nat} (h : A.grownBy B (some p)) (hp : n₀ ≤ p) (hA : n₀ ≤ A.heap.size) : Below n₀ A B := ⟨h.os, h.tape, h.output, h.size, fun b hb => h.block b (by omega) (by simp; omega)⟩

set_option maxRecDepth 100000 in
set_option maxHeartbeats 4000000 in
theorem all_any (W : World) (bs : List Int) (A : Option Addr) (c : Nat) (hx : (Kd.int .u8).C W A bs.length bs) (hA0 : A = none → c = 0) (hb : ∀ x ∈ bs, 0 ≤ x ∧ x < 256) (hl : bs.length ≤ 1099511627776) (one : St → St × Int) (F : Nat) (lb : Array Value) (hO : OneT evN one F lb) (most : Int) (hm : most ≤ 1073741824) :
    Calls Try.prog 71 #[.slice A bs.length c, .int .i64 most, .func (.func F) #[] lb] W fun e w' => ∃ v, e = .returned (.tuple #[v, .int .i64 (allN one bs most).2]) ∧ w'.ownsRow W.heap.size 2 1 v (allN one bs most).1.length (cellsOf cvN (allN one bs most).1) ∧ Below W.heap.size W w' := by
  obtain ⟨R, hR⟩ : ∃ R, allN one bs most = R := ⟨_, rfl⟩
  rw [hR]
  have HR := Lib.hid hR; clear hR
  go_enter Try.func71, Try.ntmps71
  go_wp2_with fail
  refine (from_any W bs A c hx hA0 hl).mono ?_; rintro e w1 ⟨p, hp, rfl, hM1, hB1⟩
  have hz1 := hB1.size
  go_wp2_with fail
  refine (take_any w1 _ p (bs, 0) one F lb hO most hb hl hM1 hm).mono ?_; rintro e w2 ⟨v, rfl, hR2, hM2, hg2⟩
  obtain ⟨T, hT⟩ : ∃ T, takeN one (bs, 0) most = T := ⟨_, rfl⟩
  rw [hT] at hR2 hM2
  have HT := Lib.hid hT; clear hT
  obtain ⟨⟨t, x⟩, out⟩ := T
  dsimp only at hR2 hM2
  obtain ⟨va, vc, rfl⟩ := own_slice hR2
  have hB2 : Below W.heap.size W w2 := hB1.trans (grown_below hg2 hp hz1)
  have hR3 := own_weaken hR2 hz1
  go_wp2_with fail
  refine (in_err w2 _ p _ hM2).mono ?_; rintro e w3 ⟨rfl, rfl⟩
  by_cases hx0 : x = 0
  · subst hx0
    go_wp2_with fail
    refine (in_left w2 _ p _ hM2).mono ?_; rintro e w3 ⟨rfl, rfl⟩
    dsimp only
    by_cases ht : 0 < t.length
    · have ht0 : (0 : Int) < (t.length : Int) := by omega
      have e : R = ([], 20) := by rw [← HR.out]; unfold allN; dsimp only; rw [HT.out]; dsimp only; rw [if_pos rfl, if_pos ht]
      have HE := Lib.hid e; clear e
      go_wp2_with fail
      refine (in_fail w2 _ p _ 20 hM2).mono ?_; rintro e w3 ⟨rfl, hM3, hg3⟩
      go_wp2_with fail
      refine (in_err w3 _ p _ hM3).mono ?_; rintro e w4 ⟨rfl, rfl⟩
      have hF : (failS (t, 0) 20).2 = 20 := by simp [failS]
      rw [hF]
      go_wp2_with fail
      go_ret2
      rw [HE.out]
      exact ⟨_, rfl, World.ownsRow_nil _ _ _ _, hB2.trans (grown_below hg3 hp (by have := hB2.size; omega))⟩
    · have ht0 : t.length = 0 := by omega
      have e : R = (out, 0) := by rw [← HR.out]; unfold allN; dsimp only; rw [HT.out]; dsimp only; rw [if_pos rfl, if_neg ht]
      have HE := Lib.hid e; clear e
      rw [ht0]
      clear ht
      go_wp2_with fail
      refine (in_err w2 _ p _ hM2).mono ?_; rintro e w4 ⟨rfl, rfl⟩
      go_wp2_with fail
      go_ret2
      rw [HE.out]
      exact ⟨_, rfl, hR3, hB2⟩
  · have hxb : (x == 0) = false := by simp [hx0]
    have e : R = ([], x) := by rw [← HR.out]; unfold allN; dsimp only; rw [HT.out]; dsimp only; rw [if_neg hx0]
    have HE := Lib.hid e; clear e
    clear hx0
    go_wp2_with fail
    refine (in_err w2 _ p _ hM2).mono ?_; rintro e w4 ⟨rfl, rfl⟩
    dsimp only
    go_wp2_with fail
    go_ret2
    rw [HE.out]
    exact ⟨_, rfl, World.ownsRow_nil _ _ _ _, hB2⟩

set_option maxRecDepth 100000 in
set_option maxHeartbeats 4000000 in
/-- the statements' 'put' and 'take' -/
theorem putN : OneP evN wrN goodN 54 #[] := by
  refine ⟨enters_of Try.func54 (by kernel_rfl) rfl, fun x W base p v bs hg hl hM => ?_⟩
  show Calls Try.prog 54 #[.pointer (some ⟨p, 0, none⟩), .int .i64 x] W _
  go_enter Try.func54, Try.ntmps54
  go_wp2_with fail
  refine (out_int W base p v bs x hg hl hM).mono ?_; rintro e w1 ⟨rfl, v1, hM1, hF1⟩
  go_wp2_with fail
  go_end0
  exact ⟨rfl, v1, hM1, hF1⟩
set_option maxRecDepth 100000 in
set_option maxHeartbeats 4000000 in
theorem takeN1 : OneT evN takeI 66 #[] where
  enters := enters_of Try.func66 (by kernel_rfl) rfl
  calls W n₀ p s hb hl hM := by
    show Calls Try.prog 66 #[.pointer (some ⟨p, 0, none⟩)] W _
    go_enter Try.func66, Try.ntmps66
    go_wp2_with fail
    refine (in_int W n₀ p s hb hl hM).mono ?_; rintro e w1 ⟨rfl, hM1, hg1⟩
    go_wp2_with fail
    go_ret
    exact ⟨rfl, hM1, hg1⟩
  sub s := takeU_sub

end Go.Proofs.Ytbhpokcnkdgcmaa.Cod
