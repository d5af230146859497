/- LedgerParties. -/
import Derived.Test.YtmdacfgofilbdaaLed10
set_option linter.unusedSimpArgs false
set_option linter.unusedVariables false
namespace Go.Proofs.Ytmdacfgofilbdaa.Led
open Go.RowKit Go.Shelf Go.Proofs.Ytmdacfgofilbdaa.TabL Go.Proofs.YtmdacfgofilbdaaW.PrintWords
attribute [local go_sem] Oper.semAt_some

theorem free_c (W : World) (p r : Int) (h : freeA p = r) : Calls Try.prog 47 #[.int .i64 p] W fun e w' => e = .returned (.int .i64 r) ∧ Below W.heap.size W w' := by rw [← h]; exact free_any W p
theorem hold_c (W : World) (p r : Int) (h : holdA p = r) : Calls Try.prog 48 #[.int .i64 p] W fun e w' => e = .returned (.int .i64 r) ∧ Below W.heap.size W w' := by rw [← h]; exact hold_any W p
theorem right_c (W : World) (p : Int) (hw : w64 p) (r : Bool) (h : rightA p = r) : Calls Try.prog 35 #[.int .i64 p] W fun e w' => e = .returned (.bool r) ∧ Below W.heap.size W w' := by rw [← h]; exact right_any W p hw
theorem partyA_iff {p : Int} : partyA p = true ↔ 2 ≤ p ∧ p ≤ 1000 := by unfold partyA; simp
set_option maxHeartbeats 8000000 in
set_option maxRecDepth 100000 in
theorem parties_walk (W : World) (p : Int) (_ : (Lit.int .i64 p).wf = true) (q : Int) (_ : (Lit.int .i64 q).wf = true) :
    Calls Try.prog 9 #[.int .i64 p, .int .i64 q] W fun e w' => e = .returned (.bool true) ∧ Below W.heap.size W w' := by
  have C := Lib.hid (lalive_any W)
  by_cases hp : 2 ≤ p ∧ p ≤ 1000
  · have f1 : freeA p = 2 * p := by unfold freeA; rw [if_pos (partyA_iff.2 hp)]
    have h1 : holdA p = 2 * p + 1 := by unfold holdA; rw [if_pos (partyA_iff.2 hp)]
    have r1 : rightA (2 * p) = true := by unfold rightA; simp; omega
    have r2 : rightA (2 * p + 1) = true := by unfold rightA; simp; omega
    obtain ⟨hp1, hp2⟩ := hp
    go_enter Try.func9, Try.ntmps9
    go_wp2_with fail
    refine C.out.mono ?_; rintro e w1 ⟨rfl, hb1⟩
    go_wp2_with fail
    refine (free_c w1 p _ f1).mono ?_; rintro e w2 ⟨rfl, hb2⟩
    go_wp2_with fail
    refine (hold_c w2 p _ h1).mono ?_; rintro e w3 ⟨rfl, hb3⟩
    have HB := Lib.hid ((hb1.trans (hb2.mono hb1.size)).trans (hb3.mono (hb1.trans (hb2.mono hb1.size)).size))
    clear hb1 hb2 hb3 C f1 h1
    go_wp2_with fail
    refine (right_c w3 _ ⟨by omega, by omega⟩ _ r1).mono ?_; rintro e w4 ⟨rfl, hb4⟩
    have HB4 := Lib.hid (HB.out.trans (hb4.mono HB.out.size))
    clear hb4 HB r1
    go_wp2_with fail
    refine (right_c w4 _ ⟨by omega, by omega⟩ _ r2).mono ?_; rintro e w5 ⟨rfl, hb5⟩
    have HB5 := Lib.hid (HB4.out.trans (hb5.mono HB4.out.size))
    clear hb5 HB4 r2
    obtain ⟨fq, hfq⟩ : ∃ fq, freeA q = fq := ⟨_, rfl⟩
    obtain ⟨hq, hhq⟩ : ∃ hq, holdA q = hq := ⟨_, rfl⟩
    have k1 : (p = q ∧ fq = 2 * p ∧ hq = 2 * p + 1) ∨ (p ≠ q ∧ fq ≠ 2 * p ∧ hq ≠ 2 * p + 1 ∧ fq ≠ 2 * p + 1) := by
      unfold freeA at hfq
      unfold holdA at hhq
      by_cases hq2 : partyA q = true
      · rw [if_pos hq2] at hfq hhq
        by_cases e : p = q
        · left; exact ⟨e, by omega, by omega⟩
        · right; exact ⟨e, by omega, by omega, by omega⟩
      · rw [if_neg hq2] at hfq hhq
        have : p ≠ q := fun e => by subst e; exact hq2 (partyA_iff.2 ⟨hp1, hp2⟩)
        right; exact ⟨this, by omega, by omega, by omega⟩
    have HFQ := Lib.hid hfq; have HHQ := Lib.hid hhq
    clear hfq hhq
    rcases k1 with ⟨rfl, rfl, rfl⟩ | ⟨n1, n2, n3, n4⟩
    · go_wp2_with fail
      refine (free_c w5 _ _ HFQ.out).mono ?_; rintro e w6 ⟨rfl, hb6⟩
      have HB6 := Lib.hid (HB5.out.trans (hb6.mono HB5.out.size))
      clear hb6 HB5
      go_wp2_with fail
      refine (hold_c w6 _ _ HHQ.out).mono ?_; rintro e w7 ⟨rfl, hb7⟩
      have HB7 := Lib.hid (HB6.out.trans (hb7.mono HB6.out.size))
      clear hb7 HB6
      have e1 : ((2 * p : Int) == 2 * p) = true := by simp
      have e2 : ((p : Int) == p) = true := by simp
      go_wp2_with fail
      refine (free_c w7 _ _ HFQ.out).mono ?_; rintro e w8 ⟨rfl, hb8⟩
      have HB8 := Lib.hid (HB7.out.trans (hb8.mono HB7.out.size))
      clear hb8 HB7
      go_wp2_with fail
      go_ret
      exact ⟨by simp; omega, HB8.out⟩
    · have e1 : (fq == 2 * p) = false := by simp [n2]
      have e2 : (p == q) = false := by simp [n1]
      have e3 : (hq == 2 * p + 1) = false := by simp [n3]
      have e4 : (fq == 2 * p + 1) = false := by simp [n4]
      go_wp2_with fail
      refine (free_c w5 _ _ HFQ.out).mono ?_; rintro e w6 ⟨rfl, hb6⟩
      have HB6 := Lib.hid (HB5.out.trans (hb6.mono HB5.out.size))
      clear hb6 HB5
      go_wp2_with fail
      refine (hold_c w6 _ _ HHQ.out).mono ?_; rintro e w7 ⟨rfl, hb7⟩
      have HB7 := Lib.hid (HB6.out.trans (hb7.mono HB6.out.size))
      clear hb7 HB6
      go_wp2_with fail
      refine (free_c w7 _ _ HFQ.out).mono ?_; rintro e w8 ⟨rfl, hb8⟩
      have HB8 := Lib.hid (HB7.out.trans (hb8.mono HB7.out.size))
      clear hb8 HB7
      go_wp2_with fail
      go_ret
      exact ⟨by simp; omega, HB8.out⟩
  · have hpf : ¬ partyA p = true := fun h => hp (partyA_iff.1 h)
    have f1 : freeA p = -1 := by unfold freeA; rw [if_neg hpf]
    have h1 : holdA p = -1 := by unfold holdA; rw [if_neg hpf]
    have hpc : p < 2 ∨ 1000 < p := by omega
    clear hpf hp
    rcases hpc with h2 | h2
    all_goals
      go_enter Try.func9, Try.ntmps9
      go_wp2_with fail
      refine C.out.mono ?_; rintro e w1 ⟨rfl, hb1⟩
      go_wp2_with fail
      refine (free_c w1 p _ f1).mono ?_; rintro e w2 ⟨rfl, hb2⟩
      go_wp2_with fail
      refine (hold_c w2 p _ h1).mono ?_; rintro e w3 ⟨rfl, hb3⟩
      have HB := Lib.hid ((hb1.trans (hb2.mono hb1.size)).trans (hb3.mono (hb1.trans (hb2.mono hb1.size)).size))
      clear hb1 hb2 hb3
      go_wp2_with fail
      go_ret
      exact ⟨rfl, HB.out⟩
theorem parties_row (p : Int) (hp : (Lit.int .i64 p).wf = true) (q : Int) (hq : (Lit.int .i64 q).wf = true) (W : World) :
    Calls Try.prog 9 #[.int .i64 p, .int .i64 q] W fun e w' => e = .returned (.bool true) ∧ Below W.heap.size W w' := parties_walk W p hp q hq

end Go.Proofs.Ytmdacfgofilbdaa.Led
