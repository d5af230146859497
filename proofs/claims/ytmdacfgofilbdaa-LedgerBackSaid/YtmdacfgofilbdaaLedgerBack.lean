/- LedgerBack. -/
import Derived.Test.YtmdacfgofilbdaaLedPp
set_option linter.unusedSimpArgs false
set_option linter.unusedVariables false
namespace Go.Proofs.Ytmdacfgofilbdaa.Led
open Go.RowKit Go.Proofs.Ytmdacfgofilbdaa.TabL Go.Proofs.YtmdacfgofilbdaaW.PrintWords
open Go.Proofs.Ytmdacfgofilbdaa.TabB (ltI lin getV TMg)
open Go.Proofs.Ytmdacfgofilbdaa.PLedgerPlays (S75 S78 k75 k78)
attribute [local go_sem] Oper.semAt_some

set_option maxHeartbeats 8000000 in
set_option maxRecDepth 100000 in
theorem back_core (W : World) (ops : List S75) (A : Option Addr) (c : Nat) (hc : ops.length ≤ c) (hC : k75.C W A ops.length ops) (hL : ops.length ≤ 9223372036854775807) (hw : ∀ o ∈ ops, ∀ m ∈ ml o, w64 m.1 ∧ w64 m.2.1) (f t n : Int) (hf : w64 f) (ht : w64 t) :
    Calls Try.prog 8 #[.slice A ops.length c, .int .i64 f, .int .i64 t, .int .i64 n] W fun e w' => e = .returned (.bool true) ∧ Below W.heap.size W w' := by
  have HC := Lib.hid hC; have HW := Lib.hid hw
  clear hC hw
  cases hs : lsmB ops with
  | false =>
    go_enter Try.func8, Try.ntmps8
    go_wp2_with fail
    refine (lalive_any _).mono ?_; rintro e w1 ⟨rfl, hb1⟩
    go_wp2_with fail
    refine (lsmall_any w1 A c ops (Kd.C_below HC.out hb1) hc hL).mono ?_; rintro e w2 ⟨rfl, hb2⟩
    rw [hs]
    have HB2 := Lib.hid (hb1.trans (hb2.mono hb1.size))
    clear hb1 hb2
    go_wp2_with fail
    go_ret
    exact ⟨rfl, HB2.out⟩
  | true =>
    go_enter Try.func8, Try.ntmps8
    go_wp2_with fail
    refine (lalive_any _).mono ?_; rintro e w1 ⟨rfl, hb1⟩
    go_wp2_with fail
    refine (lsmall_any w1 A c ops (Kd.C_below HC.out hb1) hc hL).mono ?_; rintro e w2 ⟨rfl, hb2⟩
    rw [hs]
    have HB2 := Lib.hid (hb1.trans (hb2.mono hb1.size))
    have HS := Lib.hid hs
    clear hb1 hb2 hs
    go_wp2_with fail
    refine (play_any w2 A c ops (Kd.C_below HC.out HB2.out) HS.out HW.out).mono ?_; rintro e w3 ⟨v, xs, ms, rfl, hP, hlm⟩
    obtain ⟨p, hp⟩ : ∃ p, w2.heap.size = p := ⟨_, rfl⟩
    have HP := Lib.hid hP; have HPP := Lib.hid hp
    have hB3 := HB2.out.trans (hP.b.mono HB2.out.size)
    have HB3 := Lib.hid hB3
    have hT3 := hP.t
    rw [hp] at hT3 ⊢
    have HT3 := Lib.hid hT3; have HF := Lib.hid hP.fine
    clear hP hB3 hT3 hp HP
    go_wp2_with fail
    refine (clone_any w3 p xs HT3.out).mono ?_; rintro e w4 ⟨pc, rfl, hpc, hC4, hb4⟩
    have HT4 := Lib.hid (HT3.out.below hb4); have HC4 := Lib.hid hC4
    have HB4 := Lib.hid (HB3.out.trans (hb4.mono HB3.out.size))
    have hne : pc ≠ p := by have := HT3.out.lt; omega
    clear hb4 hC4
    obtain ⟨a, ha⟩ : ∃ a, getV xs f = a := ⟨_, rfl⟩
    obtain ⟨b, hb⟩ : ∃ b, getV xs t = b := ⟨_, rfl⟩
    have HA := Lib.hid ha; have HBV := Lib.hid hb
    clear ha hb
    go_wp2_with fail
    refine (balance_c w4 p xs f a (by decide) HT4.out HF.out HA.out).mono ?_; rintro e wx ⟨rfl, rfl⟩
    go_wp2_with fail
    refine (balance_c w4 p xs t b (by decide) HT4.out HF.out HBV.out).mono ?_; rintro e wx ⟨rfl, rfl⟩
    have hpW : W.heap.size ≤ p := by rw [← HPP.out]; exact HB2.out.size
    by_cases h0 : moveE (getV xs) (f, t, n) = 0
    · have HM := Lib.hid (move_c w4 p xs _ f t n 0 (tt := tL) (by decide) HT4.out HF.out hf ht h0 rfl)
      have HF2 := Lib.hid (HF.out.move (f, t, n))
      have HE2 := Lib.hid (back_e HF.out h0); have HL2 := Lib.hid (back_l HF.out h0)
      have g1 := moveL_get h0 f
      have g2 := moveL_get h0 t
      have HNE := Lib.hid (back_ne h0)
      have hz := moveE_zero h0
      have hbf := HF.out.bnd f
      have hbt := HF.out.bnd t
      dsimp only at g1 g2 hz
      rw [if_pos rfl, HBV.out] at g2
      rw [if_neg hz.2.2.1, if_pos rfl, HA.out] at g1
      rw [HA.out] at hbf
      rw [HBV.out] at hbt
      have hrm := hz.2.2.2.1
      unfold rightM at hrm
      simp only [Bool.and_eq_true, decide_eq_true_eq] at hrm
      obtain ⟨ys, hy⟩ : ∃ ys, moveL xs (f, t, n) = ys := ⟨_, rfl⟩
      rw [hy] at HM HF2 HE2 HL2 g1 g2 HNE
      have G1 := Lib.hid g1; have G2 := Lib.hid g2
      clear g1 g2 hy hz h0
      go_wp2_with fail
      refine HM.out.mono ?_; rintro e w5 ⟨rfl, hT5, hg5⟩
      have HC5 := Lib.hid (tm_other (by decide) HC4.out HT4.out hg5 hne)
      have HT5 := Lib.hid hT5
      have HB5 := Lib.hid (HB4.out.grown hg5 HB4.out.size (fun r e => by cases e; exact hpW))
      clear hT5 hg5 HM
      go_wp2_with fail
      refine (balance_c w5 p ys f (a - n) (by decide) HT5.out HF2.out G1.out).mono ?_; rintro e wx ⟨rfl, rfl⟩
      have r1 : -9223372036854775808 ≤ a - n := by omega
      have r2 : a - n ≤ 9223372036854775807 := by omega
      have r3 : -9223372036854775808 ≤ b + n := by omega
      have r4 : b + n ≤ 9223372036854775807 := by omega
      have e1 : (a - n == a - n) = true := by simp
      have e2 : (b + n == b + n) = true := by simp
      go_wp2_with fail
      refine (balance_c w5 p ys t (b + n) (by decide) HT5.out HF2.out G2.out).mono ?_; rintro e wx ⟨rfl, rfl⟩
      go_wp2_with fail
      · have hn0 : n = 0 := by first | assumption | omega
        subst hn0
        have HT := HT5; have HC := HC5; have HB := HB5
        refine (move_c w5 p ys xs t f 0 0 (tt := tL) (by decide) HT.out HF2.out ht hf HE2.out HL2.out).mono ?_; rintro e w7 ⟨rfl, hT7, hg7⟩
        have HC7 := Lib.hid (tm_other (by decide) HC.out HT.out hg7 hne)
        have HT7 := Lib.hid hT7
        have HB7 := Lib.hid (HB.out.grown hg7 HB.out.size (fun r e => by cases e; exact hpW))
        clear hT7 hg7
        go_wp2_with fail
        refine (lsame_refl w7 p pc xs HT7.out HC7.out (by have := HF.out.len; omega)).mono ?_; rintro e w8 ⟨rfl, hb8⟩
        have HB8 := Lib.hid (HB7.out.trans (hb8.mono HB7.out.size))
        clear hb8
        go_wp2_with fail
        go_ret
        exact ⟨rfl, HB8.out⟩
      · refine (lsame_any w5 p pc ys xs HT5.out HC5.out (by have := HF2.out.len; omega) (by have := HF.out.len; omega)).mono ?_; rintro e w6 ⟨rfl, hb6⟩
        rw [decide_eq_false (HNE.out (by assumption))]
        have HT := Lib.hid (HT5.out.below hb6); have HC := Lib.hid (HC5.out.below hb6)
        have HB := Lib.hid (HB5.out.trans (hb6.mono HB5.out.size))
        clear hb6
        go_wp2_with fail
        refine (move_c w6 p ys xs t f n 0 (tt := tL) (by decide) HT.out HF2.out ht hf HE2.out HL2.out).mono ?_; rintro e w7 ⟨rfl, hT7, hg7⟩
        have HC7 := Lib.hid (tm_other (by decide) HC.out HT.out hg7 hne)
        have HT7 := Lib.hid hT7
        have HB7 := Lib.hid (HB.out.grown hg7 HB.out.size (fun r e => by cases e; exact hpW))
        clear hT7 hg7
        go_wp2_with fail
        refine (lsame_refl w7 p pc xs HT7.out HC7.out (by have := HF.out.len; omega)).mono ?_; rintro e w8 ⟨rfl, hb8⟩
        have HB8 := Lib.hid (HB7.out.trans (hb8.mono HB7.out.size))
        clear hb8
        go_wp2_with fail
        go_ret
        exact ⟨rfl, HB8.out⟩
    · have HM := Lib.hid (move_c w4 p xs xs f t n _ (tt := tL) (by decide) HT4.out HF.out hf ht rfl (by unfold moveL; rw [if_neg h0]))
      obtain ⟨ev, hev⟩ : ∃ ev, moveE (getV xs) (f, t, n) = ev := ⟨_, rfl⟩
      rw [hev] at h0 HM
      have heb : (ev == 0) = false := by simp [h0]
      clear hev
      go_wp2_with fail
      refine HM.out.mono ?_; rintro e w5 ⟨rfl, hT5, hg5⟩
      have HC5 := Lib.hid (tm_other (by decide) HC4.out HT4.out hg5 hne)
      have HT5 := Lib.hid hT5
      have HB5 := Lib.hid (HB4.out.grown hg5 HB4.out.size (fun r e => by cases e; exact hpW))
      clear hT5 hg5 HM
      go_wp2_with fail
      refine (lsame_refl w5 p pc xs HT5.out HC5.out (by have := HF.out.len; omega)).mono ?_; rintro e w6 ⟨rfl, hb6⟩
      have HB6 := Lib.hid (HB5.out.trans (hb6.mono HB5.out.size))
      clear hb6
      go_wp2_with fail
      go_ret
      exact ⟨rfl, HB6.out⟩

def goodOp (o : S75) : Prop := True ∧ (o.f1.length ≤ maxLen ∧ ∀ y ∈ o.f1, (Lit.int .i64 y.f0).wf = true ∧ (Lit.int .i64 y.f1).wf = true ∧ (Lit.int .i64 y.f2).wf = true)
theorem w64_of {x : Int} (h : (Lit.int .i64 x).wf = true) : w64 x := by
  unfold Lit.wf at h
  rw [Bool.and_eq_true, decide_eq_true_eq, decide_eq_true_eq] at h
  exact h
theorem goodOp.w {ops : List S75} (h : ∀ o ∈ ops, goodOp o) : ∀ o ∈ ops, ∀ m ∈ ml o, w64 m.1 ∧ w64 m.2.1 := by
  intro o ho m hm
  obtain ⟨y, hy, rfl⟩ := List.mem_map.1 hm
  exact ⟨w64_of ((h o ho).2.2 y hy).1, w64_of ((h o ho).2.2 y hy).2.1⟩
theorem back_row (W : World) (ops : List S75) (A : Option Addr) (c : Nat) (hc : ops.length ≤ c) (_ : A = none → c = 0) (hC : k75.C W A ops.length ops) (hL : ops.length ≤ maxLen) (hG : ∀ o ∈ ops, goodOp o) (f : Int) (hf : (Lit.int .i64 f).wf = true) (t : Int) (ht : (Lit.int .i64 t).wf = true) (n : Int) (_ : (Lit.int .i64 n).wf = true) :
    Calls Try.prog 8 #[.slice A ops.length c, .int .i64 f, .int .i64 t, .int .i64 n] W fun e w' => e = .returned (.bool true) ∧ Below W.heap.size W w' :=
  back_core W ops A c hc hC (by unfold maxLen at hL; omega) (goodOp.w hG) f t n (w64_of hf) (w64_of ht)

end Go.Proofs.Ytmdacfgofilbdaa.Led
