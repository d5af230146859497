/- hold: the document's answer in plain words. -/
import Derived.Test.YtmdacfgofilbdaaHold3
import Derived.Test.YtmdacfgofilbdaaPHoldPlaysx2
import Derived.Test.YtmdacfgofilbdaaPHoldPlaysx3
import Derived.Test.YtmdacfgofilbdaaWKept
import Derived.BigQuiet
import Derived.Maps.AppendAt
set_option linter.unusedSimpArgs false
set_option linter.unusedVariables false
namespace Go.Proofs.Ytmdacfgofilbdaa.Led
open Go.RowKit Go.Proofs.Ytmdacfgofilbdaa.TabL Go.Proofs.YtmdacfgofilbdaaW.PrintWords Go.Proofs.Ytmdacfgofilbdaa.PHoldPlays
open Go.Proofs.Ytmdacfgofilbdaa.TabB (ltI lin getV TMg)

theorem wrap_id {i : Int} (h : -9223372036854775808 ≤ i) (h2 : i ≤ 9223372036854775807) : wrap64 i = i := by unfold wrap64; omega
def toV (m : Mv) : S90 := ⟨m.1, m.2.1, m.2.2⟩
theorem rdV (l : List Mv) {i : Nat} (hi : i < l.length) : rd_T90 (l.map toV) (i : Int) = toV l[i] := by simp [rd_T90, hi]
theorem Good.take {ms : List Mv} (h : Good ms) : ∀ i, Good (ms.take i) := by
  induction h with
  | nil => intro i; simp; exact Good.nil
  | snoc hg he ih =>
    rename_i ms m
    intro i
    by_cases hi : i ≤ ms.length
    · rw [List.take_append_of_le_length hi]; exact ih i
    · rw [List.take_of_length_le (by simp; omega)]; exact Good.snoc hg he
theorem Good.ne {ms : List Mv} (h : Good ms) : ∀ m ∈ ms, m.1 ≠ m.2.1 := by
  induction h with
  | nil => intro m hm; cases hm
  | snoc hg he ih =>
    intro x hx
    rcases List.mem_append.1 hx with hx | hx
    · exact ih x hx
    · rw [List.mem_singleton.1 hx]; exact (moveE_zero he).2.2.1
theorem bal_ev (ms : List Mv) (a : Int) (hg : Good ms) (hl : ms.length ≤ 1099511627776) : Ev (fun n => saleroomref17_Balance.f n (ms.map toV) a) (bal ms a) := by
  have key : ∀ e i, i + e = ms.length → Ev (fun n => saleroomref17_Balance.l0 n (ms.map toV) a (bal (ms.take i) a) (i : Int)) (bal ms a) := by
    intro e
    induction e with
    | zero =>
      intro i hi
      rw [List.take_of_length_le (by omega)]
      refine Ev.step (f := fun _ => some (bal ms a)) (fun n => ?_) (Ev.now _)
      simp only [saleroomref17_Balance.l0, List.length_map]
      rw [if_neg (by omega)]
    | succ e ih =>
      intro i hi
      have hil : i < ms.length := by omega
      refine Ev.step (f := fun n => saleroomref17_Balance.l0 n (ms.map toV) a (bal (ms.take (i + 1)) a) ((i + 1 : Nat) : Int)) (fun n => ?_) (ih (i + 1) (by omega))
      have hs : bal (ms.take (i + 1)) a = bal (ms.take i) a + part ms[i] a := by rw [List.take_succ_eq_append_getElem hil, bal_snoc]
      have hb := (hg.take (i + 1)).bnd a
      have hne := hg.ne ms[i] (List.getElem_mem hil)
      simp only [saleroomref17_Balance.l0, List.length_map]
      rw [if_pos (by omega), if_pos (by omega), rdV ms hil, wrap_id (i := (i : Int) + 1) (by omega) (by omega)]
      unfold part at hs
      unfold toV
      dsimp only
      by_cases h1 : ms[i].1 = a
      · have h2 : ms[i].2.1 ≠ a := fun e => hne (h1.trans e.symm)
        rw [if_pos h1, if_neg h2] at hs
        rw [if_pos h1, if_neg h2, wrap_id (by omega) (by omega)]
        congr 1
        omega
      · rw [if_neg h1] at hs
        rw [if_neg h1]
        by_cases h2 : ms[i].2.1 = a
        · rw [if_pos h2] at hs
          rw [if_pos h2, wrap_id (by omega) (by omega)]
          congr 1
          omega
        · rw [if_neg h2] at hs
          rw [if_neg h2]
          congr 1
          omega
  have h2 : Ev (fun n => saleroomref17_Balance.l0 n (ms.map toV) a 0 0) (bal ms a) := by simpa [bal] using key ms.length 0 (by omega)
  exact h2
theorem rright_f (a : Int) : saleroomref17_Right.f a = some (rightA a) := by
  unfold saleroomref17_Right.f rightA
  by_cases h0 : a = 0
  · subst h0; rfl
  · rw [if_neg h0]
    by_cases h1 : a = 1
    · subst h1; rfl
    · rw [if_neg h1]
      by_cases h2 : a ≥ 4
      · rw [if_pos h2, decide_eq_true (show 4 ≤ a from h2), decide_eq_false h0, decide_eq_false h1]; simp
      · rw [if_neg h2, decide_eq_false (show ¬ 4 ≤ a from h2), decide_eq_false h0, decide_eq_false h1]; simp
theorem rrightM_f (n : Int) : saleroomref01_Right.f n = some (rightM n) := by
  unfold saleroomref01_Right.f rightM
  by_cases h : n ≥ 0
  · rw [if_pos h, decide_eq_true (show 0 ≤ n from h), Bool.true_and]
  · rw [if_neg h, decide_eq_false (show ¬ 0 ≤ n from h), Bool.false_and]
theorem try_copy (ms : List Mv) (f t n : Int) (hl : ms.length ≤ 1099511627776) : Ev (fun k => saleroomref17_Try.l0 k (ms.map toV) [] 0 f t n) ((ms ++ [(f, t, n)]).map toV, 0) := by
  have key : ∀ e i, i + e = ms.length → Ev (fun k => saleroomref17_Try.l0 k (ms.map toV) ((ms.take i).map toV) (i : Int) f t n) ((ms ++ [(f, t, n)]).map toV, 0) := by
    intro e
    induction e with
    | zero =>
      intro i hi
      rw [List.take_of_length_le (by omega)]
      refine Ev.step (f := fun _ => some ((ms ++ [(f, t, n)]).map toV, 0)) (fun k => ?_) (Ev.now _)
      simp only [saleroomref17_Try.l0, List.length_map]
      rw [if_neg (by omega), if_pos (by omega), List.map_append]
      rfl
    | succ e ih =>
      intro i hi
      have hil : i < ms.length := by omega
      refine Ev.step (f := fun k => saleroomref17_Try.l0 k (ms.map toV) ((ms.take (i + 1)).map toV) ((i + 1 : Nat) : Int) f t n) (fun k => ?_) (ih (i + 1) (by omega))
      simp only [saleroomref17_Try.l0, List.length_map]
      rw [if_pos (by omega), if_pos (by omega), if_pos (by rw [List.length_take]; omega), rdV ms hil, wrap_id (i := (i : Int) + 1) (by omega) (by omega), List.take_succ_eq_append_getElem hil, List.map_append]
      rfl
  simpa using key ms.length 0 (by omega)
theorem tryL_map (ms : List Mv) (m : Mv) : tryL ms m = if moveE (bal ms) m = 0 then ms ++ [m] else ms := rfl
theorem try_ev (ms : List Mv) (f t n : Int) (hg : Good ms) (hl : ms.length ≤ 1099511627776) : Ev (fun k => saleroomref17_Try.f k (ms.map toV) f t n) ((tryL ms (f, t, n)).map toV, moveE (bal ms) (f, t, n)) := by
  have hone : moveE (bal ms) (f, t, n) = 1 → Ev (fun k => saleroomref17_Try.j0 k (ms.map toV) true f t n) ((tryL ms (f, t, n)).map toV, moveE (bal ms) (f, t, n)) := fun he => by
    rw [tryL_map, he, if_neg (by decide)]
    refine Ev.step (f := fun _ => some (ms.map toV, 1)) (fun k => ?_) (Ev.now _)
    simp only [saleroomref17_Try.j0, if_true]
  unfold saleroomref17_Try.f
  simp only [rright_f, rrightM_f, Option.bind_some]
  cases h1 : rightA f with
  | false =>
    simp only [Bool.false_eq_true, if_false]
    exact hone (by unfold moveE; rw [if_pos (.inl h1)])
  | true =>
    simp only [if_true]
    cases h2 : rightA t with
    | false =>
      simp only [Bool.false_eq_true, if_false]
      exact hone (by unfold moveE; rw [if_pos (.inr (.inl h2))])
    | true =>
      simp only [if_true]
      by_cases h3 : f = t
      · simp only [h3, if_true]
        rw [h3] at hone
        exact hone (by unfold moveE; rw [if_pos (.inr (.inr (.inl rfl)))])
      · simp only [if_neg h3]
        cases h4 : rightM n with
        | false =>
          exact hone (by unfold moveE; rw [if_pos (.inr (.inr (.inr h4)))])
        | true =>
          have hc : ¬ (rightA f = false ∨ rightA t = false ∨ f = t ∨ rightM n = false) := by rw [h1, h2, h4]; simp [h3]
          have hn : 0 ≤ n ∧ n ≤ 1099511627776 := by unfold rightM at h4; simpa using h4
          have hbf := hg.bnd f
          have hbt := hg.bnd t
          have hE : moveE (bal ms) (f, t, n) = if f ≠ 0 ∧ bal ms f - n < 0 then 40 else if bal ms f - n < -70368744177664 ∨ 70368744177664 < bal ms t + n then 2 else 0 := by unfold moveE; rw [if_neg hc]
          have e1 := wrap_id (i := bal ms f - n) (by omega) (by omega)
          have e2 := wrap_id (i := bal ms t + n) (by omega) (by omega)
          have j2 : ∀ b, b = decide (bal ms f - n < -70368744177664 ∨ 70368744177664 < bal ms t + n) → ¬ (f ≠ 0 ∧ bal ms f - n < 0) → Ev (fun k => saleroomref17_Try.j2 k (ms.map toV) b f t n) ((tryL ms (f, t, n)).map toV, moveE (bal ms) (f, t, n)) := fun b hb h40 => by
            rw [tryL_map, hE, if_neg h40]
            by_cases h5 : bal ms f - n < -70368744177664 ∨ 70368744177664 < bal ms t + n
            · rw [hb, decide_eq_true h5, if_pos h5, if_neg (by decide)]
              refine Ev.step (f := fun _ => some (ms.map toV, 2)) (fun k => ?_) (Ev.now _)
              simp only [saleroomref17_Try.j2, if_true]
            · rw [hb, decide_eq_false h5, if_neg h5, if_pos rfl]
              refine Ev.step (f := fun k => saleroomref17_Try.l0 k (ms.map toV) [] 0 f t n) (fun k => ?_) (try_copy ms f t n hl)
              simp only [saleroomref17_Try.j2, Bool.false_eq_true, if_false]
          have j1 : ∀ b, b = decide (f ≠ 0 ∧ bal ms f - n < 0) → Ev (fun k => saleroomref17_Try.j1 k (ms.map toV) (bal ms f - n) (bal ms t + n) b f t n) ((tryL ms (f, t, n)).map toV, moveE (bal ms) (f, t, n)) := fun b hb => by
            by_cases h40 : f ≠ 0 ∧ bal ms f - n < 0
            · rw [hb, decide_eq_true h40, tryL_map, hE, if_pos h40, if_neg (by decide)]
              refine Ev.step (f := fun _ => some (ms.map toV, 40)) (fun k => ?_) (Ev.now _)
              simp only [saleroomref17_Try.j1, if_true]
            · rw [hb, decide_eq_false h40]
              by_cases h5 : bal ms f - n < -70368744177664
              · refine Ev.step (f := fun k => saleroomref17_Try.j2 k (ms.map toV) true f t n) (fun k => ?_) (j2 true (decide_eq_true (.inl h5)).symm h40)
                simp only [saleroomref17_Try.j1, Bool.false_eq_true, if_false]
                rw [if_pos h5]
              · refine Ev.step (f := fun k => saleroomref17_Try.j2 k (ms.map toV) (decide (bal ms t + n > 70368744177664)) f t n) (fun k => ?_) (j2 _ (decide_eq_decide.2 (by constructor; exact fun h => .inr h; exact fun h => h.resolve_left h5)) h40)
                simp only [saleroomref17_Try.j1, Bool.false_eq_true, if_false]
                rw [if_neg h5]
          refine Ev.step (f := fun k => (saleroomref17_Balance.f k (ms.map toV) f).bind fun t118 => (saleroomref17_Balance.f k (ms.map toV) t).bind fun t119 => if f = 0 then saleroomref17_Try.j1 k (ms.map toV) (wrap64 (t118 - n)) (wrap64 (t119 + n)) false f t n else saleroomref17_Try.j1 k (ms.map toV) (wrap64 (t118 - n)) (wrap64 (t119 + n)) (decide (wrap64 (t118 - n) < 0)) f t n) (fun k => ?_) ?_
          · simp only [saleroomref17_Try.j0, Bool.not_true, Bool.false_eq_true, if_false]
          · refine Ev.bind (bal_ev ms f hg hl) (Ev.bind (bal_ev ms t hg hl) ?_)
            rw [e1, e2]
            by_cases h0 : f = 0
            · simp only [if_pos h0]
              exact j1 false (decide_eq_false (fun h => h.1 h0)).symm
            · simp only [if_neg h0]
              exact j1 _ (decide_eq_decide.2 ⟨fun h => ⟨h0, h⟩, fun h => h.2⟩)

end Go.Proofs.Ytmdacfgofilbdaa.Led

/- hold: the document's purse functions. -/
set_option linter.unusedSimpArgs false
set_option linter.unusedVariables false
namespace Go.Proofs.Ytmdacfgofilbdaa.Led
open Go.RowKit Go.Proofs.Ytmdacfgofilbdaa.TabL Go.Proofs.YtmdacfgofilbdaaW.PrintWords Go.Proofs.YtmdacfgofilbdaaW.PrintLast Go.Proofs.YtmdacfgofilbdaaW.PrintMore Go.Proofs.Ytmdacfgofilbdaa.PHoldPlays
open Go.Proofs.Ytmdacfgofilbdaa.TabB (ltI lin getV TMg)

theorem rparty_f (p : Int) : saleroomref18_party.f p = some (partyA p) := by
  unfold saleroomref18_party.f partyA
  by_cases h : p ≥ 2
  · rw [if_pos h, decide_eq_true (show 2 ≤ p from h), Bool.true_and]
  · rw [if_neg h, decide_eq_false (show ¬ 2 ≤ p from h), Bool.false_and]
theorem go_ev (ms : List Mv) (f t n : Int) (hg : Good ms) (hl : ms.length ≤ 1099511627776) : Ev (fun k => saleroomref18_Go.f k (ms.map toV) f t n) ((tryL ms (f, t, n)).map toV, moveE (bal ms) (f, t, n)) := by
  unfold saleroomref18_Go.f
  exact Ev.bind (try_ev ms f t n hg hl) (Ev.now _)
theorem rightA_neg : rightA (-1) = false := by decide
theorem moveE_l {b : Int → Int} {t n : Int} : moveE b (-1, t, n) = 1 := by unfold moveE; rw [if_pos (.inl rightA_neg)]
theorem moveE_r {b : Int → Int} {f n : Int} : moveE b (f, -1, n) = 1 := by
  unfold moveE
  rw [if_pos (.inr (.inl rightA_neg))]
theorem tryL_one {ms : List Mv} {m : Mv} (h : moveE (bal ms) m = 1) : tryL ms m = ms := by unfold tryL; rw [h]; rfl
theorem Good.zero {ms : List Mv} (h : Good ms) {a : Int} (ha : rightA a = false) : bal ms a = 0 := by
  induction h with
  | nil => rfl
  | snoc hg he ih =>
    rename_i ms m
    obtain ⟨h1, h2, _⟩ := moveE_zero he
    rw [bal_snoc, ih]
    unfold part
    rw [if_neg (fun e => by rw [e, ha] at h1; cases h1), if_neg (fun e => by rw [e, ha] at h2; cases h2)]
    rfl
theorem Good.nonneg {ms : List Mv} (h : Good ms) {a : Int} (ha : a ≠ 0) : 0 ≤ bal ms a := by
  induction h with
  | nil => exact Int.le_refl _
  | snoc hg he ih =>
    rename_i ms m
    obtain ⟨_, _, hne, hr, h1, _⟩ := moveE_zero he
    unfold rightM at hr
    simp only [Bool.and_eq_true, decide_eq_true_eq] at hr
    rw [bal_snoc]
    unfold part
    by_cases e1 : m.1 = a
    · subst e1
      rw [if_pos rfl, if_neg (Ne.symm hne)]
      have := h1 ha
      omega
    · rw [if_neg e1]
      by_cases e2 : m.2.1 = a
      · rw [if_pos e2]; omega
      · rw [if_neg e2]; omega
theorem free_ev (ms : List Mv) (who : Int) (hg : Good ms) (hl : ms.length ≤ 1099511627776) : Ev (fun k => saleroomref18_Free.f k (ms.map toV) who) (bal ms (freeA who)) := by
  unfold saleroomref18_Free.f freeA
  simp only [rparty_f, Option.bind_some]
  cases hp : partyA who with
  | false =>
    simp only [Bool.false_eq_true, if_false]
    rw [hg.zero rightA_neg]
    exact Ev.now _
  | true =>
    have := party_bnd hp
    simp only [if_true]
    rw [wrap_id (i := 2 * who) (by omega) (by omega)]
    exact Ev.bind (bal_ev ms _ hg hl) (Ev.now _)
theorem held_ev (ms : List Mv) (who : Int) (hg : Good ms) (hl : ms.length ≤ 1099511627776) : Ev (fun k => saleroomref18_Held.f k (ms.map toV) who) (bal ms (holdA who)) := by
  unfold saleroomref18_Held.f holdA
  simp only [rparty_f, Option.bind_some]
  cases hp : partyA who with
  | false =>
    simp only [Bool.false_eq_true, if_false]
    rw [hg.zero rightA_neg]
    exact Ev.now _
  | true =>
    have := party_bnd hp
    simp only [if_true]
    rw [wrap_id (i := 2 * who) (by omega) (by omega), wrap_id (i := 2 * who + 1) (by omega) (by omega)]
    exact Ev.bind (bal_ev ms _ hg hl) (Ev.now _)
theorem deposit_ev (ms : List Mv) (who n : Int) (hg : Good ms) (hl : ms.length ≤ 1099511627776) : Ev (fun k => saleroomref18_Deposit.f k (ms.map toV) who n) ((tryL ms (0, freeA who, n)).map toV, moveE (bal ms) (0, freeA who, n)) := by
  unfold saleroomref18_Deposit.f freeA
  simp only [rparty_f, Option.bind_some]
  cases hp : partyA who with
  | false =>
    simp only [Bool.false_eq_true, if_false]
    rw [tryL_one moveE_r, moveE_r]
    exact Ev.now _
  | true =>
    have := party_bnd hp
    simp only [if_true]
    rw [wrap_id (i := 2 * who) (by omega) (by omega)]
    exact Ev.bind (go_ev ms _ _ n hg hl) (Ev.now _)
theorem withdraw_ev (ms : List Mv) (who n : Int) (hg : Good ms) (hl : ms.length ≤ 1099511627776) : Ev (fun k => saleroomref18_Withdraw.f k (ms.map toV) who n) ((tryL ms (freeA who, 0, n)).map toV, moveE (bal ms) (freeA who, 0, n)) := by
  unfold saleroomref18_Withdraw.f freeA
  simp only [rparty_f, Option.bind_some]
  cases hp : partyA who with
  | false =>
    simp only [Bool.false_eq_true, if_false]
    rw [tryL_one moveE_l, moveE_l]
    exact Ev.now _
  | true =>
    have := party_bnd hp
    simp only [if_true]
    rw [wrap_id (i := 2 * who) (by omega) (by omega)]
    exact Ev.bind (go_ev ms _ _ n hg hl) (Ev.now _)
theorem pay_ev (ms : List Mv) (who n : Int) (hg : Good ms) (hl : ms.length ≤ 1099511627776) : Ev (fun k => saleroomref18_Pay.f k (ms.map toV) who n) ((tryL ms (holdA who, 1, n)).map toV, moveE (bal ms) (holdA who, 1, n)) := by
  unfold saleroomref18_Pay.f holdA
  simp only [rparty_f, Option.bind_some]
  cases hp : partyA who with
  | false =>
    simp only [Bool.false_eq_true, if_false]
    rw [tryL_one moveE_l, moveE_l]
    exact Ev.now _
  | true =>
    have := party_bnd hp
    simp only [if_true]
    rw [wrap_id (i := 2 * who) (by omega) (by omega), wrap_id (i := 2 * who + 1) (by omega) (by omega)]
    exact Ev.bind (go_ev ms _ _ n hg hl) (Ev.now _)
/-- what Set lets go, over balances -/
def setMb (b : Int → Int) (who n : Int) : Mv := if 0 ≤ n - b (holdA who) then (freeA who, holdA who, n - b (holdA who)) else (holdA who, freeA who, -(n - b (holdA who)))
def rsetL (ms : List Mv) (who n : Int) : List Mv := if partyA who = false ∨ rightM n = false then ms else tryL ms (setMb (bal ms) who n)
def rsetE (ms : List Mv) (who n : Int) : Int := if partyA who = false ∨ rightM n = false then 1 else moveE (bal ms) (setMb (bal ms) who n)
theorem set_ev (ms : List Mv) (who n : Int) (hg : Good ms) (hl : ms.length ≤ 1099511627776) : Ev (fun k => saleroomref18_Set.f k (ms.map toV) who n) ((rsetL ms who n).map toV, rsetE ms who n) := by
  have hone : (partyA who = false ∨ rightM n = false) → Ev (fun k => saleroomref18_Set.j0 k who n true (ms.map toV)) ((rsetL ms who n).map toV, rsetE ms who n) := fun h => by
    unfold rsetL rsetE
    rw [if_pos h, if_pos h]
    refine Ev.step (f := fun _ => some (ms.map toV, 1)) (fun k => ?_) (Ev.now _)
    simp only [saleroomref18_Set.j0, if_true]
  unfold saleroomref18_Set.f
  simp only [rparty_f, rrightM_f, Option.bind_some]
  cases hp : partyA who with
  | false =>
    simp only [Bool.false_eq_true, if_false]
    exact hone (.inl hp)
  | true =>
    simp only [if_true]
    cases hr : rightM n with
    | false => exact hone (.inr hr)
    | true =>
      have hpb := party_bnd hp
      have hn : 0 ≤ n ∧ n ≤ 1099511627776 := by unfold rightM at hr; simpa using hr
      have hc : ¬ (partyA who = false ∨ rightM n = false) := by rw [hp, hr]; simp
      have hfa : freeA who = 2 * who := by unfold freeA; rw [if_pos hp]
      have hha : holdA who = 2 * who + 1 := by unfold holdA; rw [if_pos hp]
      have hbh := hg.bnd (holdA who)
      have hbf := hg.bnd (freeA who)
      have hnh := hg.nonneg (a := holdA who) (by omega)
      have e1 : rsetL ms who n = tryL ms (setMb (bal ms) who n) := by unfold rsetL; rw [if_neg hc]
      have e2 : rsetE ms who n = moveE (bal ms) (setMb (bal ms) who n) := by unfold rsetE; rw [if_neg hc]
      rw [e1, e2]
      clear hone e1 e2
      obtain ⟨bh, hbhe⟩ : ∃ bh, bal ms (holdA who) = bh := ⟨_, rfl⟩
      obtain ⟨bf, hbfe⟩ : ∃ bf, bal ms (freeA who) = bf := ⟨_, rfl⟩
      have HH := held_ev ms who hg hl
      have HF := free_ev ms who hg hl
      rw [hbhe] at HH hbh hnh
      rw [hbfe] at HF hbf
      have j1 : ∀ b, b = decide (bh < n ∧ bf < n - bh) → Ev (fun k => saleroomref18_Set.j1 k who n bh b (ms.map toV)) ((tryL ms (setMb (bal ms) who n)).map toV, moveE (bal ms) (setMb (bal ms) who n)) := fun b hb => by
        have hw1 := wrap_id (i := 2 * who) (by omega) (by omega)
        have hw2 := wrap_id (i := 2 * who + 1) (by omega) (by omega)
        by_cases h40 : bh < n ∧ bf < n - bh
        · have hM : setMb (bal ms) who n = (freeA who, holdA who, n - bh) := by unfold setMb; rw [hbhe, if_pos (by omega)]
          have hE : moveE (bal ms) (freeA who, holdA who, n - bh) = 40 := by
            unfold moveE
            dsimp only
            have r1 : rightA (freeA who) = true := by
              rw [hfa]; unfold rightA
              rw [decide_eq_true (show 4 ≤ 2 * who by omega), decide_eq_true (show 2 * who ≤ 2001 by omega)]; simp
            have r2 : rightA (holdA who) = true := by
              rw [hha]; unfold rightA
              rw [decide_eq_true (show 4 ≤ 2 * who + 1 by omega), decide_eq_true (show 2 * who + 1 ≤ 2001 by omega)]; simp
            have r3 : rightM (n - bh) = true := by
              unfold rightM
              rw [decide_eq_true (show 0 ≤ n - bh by omega), decide_eq_true (show n - bh ≤ 1099511627776 by omega)]; rfl
            rw [if_neg (by rw [r1, r2, r3]; simp; omega), if_pos ⟨by omega, by rw [hbfe]; omega⟩]
          rw [hb, decide_eq_true h40, hM, hE]
          rw [show tryL ms (freeA who, holdA who, n - bh) = ms from by unfold tryL; rw [hE]; rfl]
          refine Ev.step (f := fun _ => some (ms.map toV, 40)) (fun k => ?_) (Ev.now _)
          simp only [saleroomref18_Set.j1, if_true]
        · rw [hb, decide_eq_false h40]
          by_cases hge : n ≥ bh
          · have hM : setMb (bal ms) who n = (2 * who, 2 * who + 1, n - bh) := by unfold setMb; rw [hbhe, if_pos (by omega), hfa, hha]
            rw [hM]
            refine Ev.step (f := fun k => (saleroomref18_Go.f k (ms.map toV) (2 * who) (2 * who + 1) (n - bh)).bind fun bt => some (bt.1, bt.2)) (fun k => ?_) (Ev.bind (go_ev ms _ _ _ hg hl) (Ev.now _))
            simp only [saleroomref18_Set.j1, Bool.false_eq_true, if_false]
            rw [if_pos hge, hw1, hw2, wrap_id (i := n - bh) (by omega) (by omega)]
          · have hM : setMb (bal ms) who n = (2 * who + 1, 2 * who, bh - n) := by unfold setMb; rw [hbhe, if_neg (by omega), hfa, hha]; congr 2; omega
            rw [hM]
            refine Ev.step (f := fun k => (saleroomref18_Go.f k (ms.map toV) (2 * who + 1) (2 * who) (bh - n)).bind fun bt => some (bt.1, bt.2)) (fun k => ?_) (Ev.bind (go_ev ms _ _ _ hg hl) (Ev.now _))
            simp only [saleroomref18_Set.j1, Bool.false_eq_true, if_false]
            rw [if_neg hge, hw1, hw2, wrap_id (i := bh - n) (by omega) (by omega)]
      refine Ev.step (f := fun k => (saleroomref18_Held.f k (ms.map toV) who).bind fun t160 => if n > t160 then (saleroomref18_Free.f k (ms.map toV) who).bind fun t161 => saleroomref18_Set.j1 k who n t160 (decide (wrap64 (n - t160) > t161)) (ms.map toV) else saleroomref18_Set.j1 k who n t160 false (ms.map toV)) (fun k => ?_) ?_
      · simp only [saleroomref18_Set.j0, Bool.not_true, Bool.false_eq_true, if_false]
      · refine Ev.bind HH ?_
        by_cases hgt : n > bh
        · simp only [if_pos hgt]
          refine Ev.bind HF ?_
          rw [wrap_id (i := n - bh) (by omega) (by omega)]
          exact j1 _ (decide_eq_decide.2 ⟨fun h => ⟨hgt, h⟩, fun h => h.2⟩)
        · simp only [if_neg hgt]
          exact j1 false (decide_eq_false (fun h => hgt h.1)).symm

end Go.Proofs.Ytmdacfgofilbdaa.Led

/- hold: the document's moves and purse, walked: nothing that was there is turned. -/
set_option linter.unusedSimpArgs false
set_option linter.unusedVariables false
namespace Go.Proofs.Ytmdacfgofilbdaa.Led
open Go.RowKit Go.Proofs.Ytmdacfgofilbdaa.TabL Go.Proofs.YtmdacfgofilbdaaW.PrintWords Go.Proofs.Ytmdacfgofilbdaa.PHoldPlays
open Go.Proofs.Ytmdacfgofilbdaa.TabB (ltI lin getV TMg)

abbrev tRM : TypeId := 90
theorem infoR : (Try.prog.info? 90).map (fun i => (i.zero, i.size, i.bytes)) = some (some (.agg #[.int .i64 0, .int .i64 0, .int .i64 0]), 3, 24) := by kernel_rfl
/-- the slice v reads as the moves ms -/
def PM (W : World) (v : Value) (ms : List Mv) : Prop := ∃ A c, v = .slice A ms.length c ∧ ms.length ≤ c ∧ Kd.C k90 W A ms.length (ms.map toV)
theorem PM.below {W W' : World} {v : Value} {l : List Mv} (h : PM W v l) (hb : Below W.heap.size W W') : PM W' v l := by
  obtain ⟨A, c, rfl, h1, h2⟩ := h
  exact ⟨A, c, rfl, h1, Kd.C_below h2 hb⟩
theorem pm_nil (W : World) : PM W (.slice none 0 0) [] := ⟨none, 0, rfl, Nat.le_refl _, rfl, by simp, fun h => absurd h (by simp)⟩
theorem addr_add (b off i : Nat) : (⟨b, off, none⟩ : Addr).add i = ⟨b, off + i, none⟩ := by
  unfold Addr.add
  by_cases h : i = 0 <;> simp [h]
theorem cell_spot {w : World} {a : Addr} {v : Value} (h : w.cell? a = some v) : a = ⟨a.block, a.off, none⟩ ∧ a.block < w.heap.size := by
  unfold World.cell? at h
  cases hb : w.heap[a.block]? with
  | none => rw [hb] at h; simp at h
  | some o =>
    refine ⟨?_, (Array.getElem?_eq_some_iff.1 hb).1⟩
    rw [hb] at h
    obtain ⟨b, off, s⟩ := a
    cases s with
    | none => rfl
    | some s => cases o <;> simp at h
theorem pm_own {W : World} {base : Nat} {v : Value} {zs : List Mv} (hl : zs.length ≤ 1099511627776) (h : W.ownsRow base tRM 3 v zs.length (cellsOf cM zs)) : PM W v zs := by
  have h0 := h
  rcases h0.2 with ⟨rfl, hz⟩ | ⟨g, cap, cur, rfl, hb, hg, hc, hlc, _⟩
  · obtain rfl := List.eq_nil_of_length_eq_zero hz
    exact pm_nil W
  · refine ⟨_, cap, rfl, own_le h, by simp, by omega, fun hpos => ⟨_, rfl, fun j x hx => ⟨[.int .i64 x.f0, .int .i64 x.f1, .int .i64 x.f2], rfl, k90_mk W x, fun i u hu => ?_⟩⟩⟩
    rw [List.getElem?_map] at hx
    cases hq : zs[j]? with
    | none => rw [hq] at hx; simp at hx
    | some q =>
      rw [hq] at hx
      have hj : j < zs.length := (List.getElem?_eq_some_iff.1 hq).1
      have hi : i < 3 := by have := (List.getElem?_eq_some_iff.1 hu).1; simpa using this
      rw [show j * k90.sz + i = j * 3 + i from rfl, addr_add, Nat.zero_add, h.cellAt (j * 3 + i) (by omega), cellsOf_at cM_length zs (0, 0, 0) hj hi, List.getD_eq_getElem?_getD, hq]
      obtain rfl : toV q = x := by simpa using hx
      exact hu
theorem PM.at {W : World} {v : Value} {l : List Mv} {j : Nat} {q : Mv} (h : PM W v l) (hj : l[j]? = some q) : ∃ b off c, v = .slice (some ⟨b, off, none⟩) l.length c ∧ W.cell? ⟨b, off + j * 3, none⟩ = some (.int .i64 q.1) ∧ W.cell? ⟨b, off + j * 3 + 1, none⟩ = some (.int .i64 q.2.1) ∧ W.cell? ⟨b, off + j * 3 + 2, none⟩ = some (.int .i64 q.2.2) := by
  obtain ⟨A, c, rfl, h1, h2⟩ := h
  have hlt := (List.getElem?_eq_some_iff.1 hj).1
  obtain ⟨a, rfl, hr⟩ := h2.2.2 (by omega)
  have hjq : (l.map toV)[j]? = some (toV q) := by rw [List.getElem?_map, hj]; rfl
  have hz : (l.map toV)[0]? = some (toV (l[0]'(by omega))) := by rw [List.getElem?_map, List.getElem?_eq_getElem (by omega)]; rfl
  obtain ⟨cs0, _, hk0, hc0⟩ := hr 0 _ hz
  obtain rfl := k90_open hk0
  have hsp := cell_spot (by simpa [Addr.add] using hc0 0 _ rfl)
  obtain ⟨b, off, s⟩ := a
  obtain rfl : s = none := by injection hsp.1
  obtain ⟨cs, _, hk, hc⟩ := hr j _ hjq
  obtain rfl := k90_open hk
  have h3 := hc 0 _ rfl
  have h4 := hc 1 _ rfl
  have h5 := hc 2 _ rfl
  rw [addr_add] at h3 h4 h5
  exact ⟨b, off, c, rfl, h3, h4, h5⟩
theorem rright_any (W : World) (a : Int) : Calls Try.prog 36 #[.int .i64 a] W fun e w' => e = .returned (.bool (rightA a)) ∧ Below W.heap.size W w' :=
  (saleroomref17_Right.calls a _ W (rright_f a)).mono fun _ _ ⟨x, y⟩ => ⟨x, y.below⟩
theorem rrightM_any (W : World) (n : Int) : Calls Try.prog 81 #[.int .i64 n] W fun e w' => e = .returned (.bool (rightM n)) ∧ Below W.heap.size W w' :=
  (saleroomref01_Right.calls n _ W (rrightM_f n)).mono fun _ _ ⟨x, y⟩ => ⟨x, y.below⟩
theorem rparty_any (W : World) (p : Int) : Calls Try.prog 83 #[.int .i64 p] W fun e w' => e = .returned (.bool (partyA p)) ∧ Below W.heap.size W w' :=
  (saleroomref18_party.calls p _ W (rparty_f p)).mono fun _ _ ⟨x, y⟩ => ⟨x, y.below⟩
theorem rbal_any (W : World) (v : Value) (ms : List Mv) (a : Int) (h : PM W v ms) (hg : Good ms) (hl : ms.length ≤ 1099511627776) : Calls Try.prog 38 #[v, .int .i64 a] W fun e w' => e = .returned (.int .i64 (bal ms a)) ∧ Below W.heap.size W w' := by
  obtain ⟨A, c, rfl, h1, h2⟩ := h
  obtain ⟨k, hk⟩ := (bal_ev ms a hg hl).rounds
  have := saleroomref17_Balance.calls k A c (ms.map toV) a _ W (by rw [List.length_map]; exact h2) (by rw [List.length_map]; exact h1) hk
  rw [List.length_map] at this
  exact this.mono fun _ _ ⟨x, y⟩ => ⟨x, y.below⟩
theorem rfree_any (W : World) (v : Value) (ms : List Mv) (who : Int) (h : PM W v ms) (hg : Good ms) (hl : ms.length ≤ 1099511627776) : Calls Try.prog 60 #[.agg #[v], .int .i64 who] W fun e w' => e = .returned (.int .i64 (bal ms (freeA who))) ∧ Below W.heap.size W w' := by
  obtain ⟨A, c, rfl, h1, h2⟩ := h
  obtain ⟨k, hk⟩ := (free_ev ms who hg hl).rounds
  have := saleroomref18_Free.calls k A c (ms.map toV) who _ W (by rw [List.length_map]; exact h2) (by rw [List.length_map]; exact h1) hk
  rw [List.length_map] at this
  exact this
theorem rheld_any (W : World) (v : Value) (ms : List Mv) (who : Int) (h : PM W v ms) (hg : Good ms) (hl : ms.length ≤ 1099511627776) : Calls Try.prog 61 #[.agg #[v], .int .i64 who] W fun e w' => e = .returned (.int .i64 (bal ms (holdA who))) ∧ Below W.heap.size W w' := by
  obtain ⟨A, c, rfl, h1, h2⟩ := h
  obtain ⟨k, hk⟩ := (held_ev ms who hg hl).rounds
  have := saleroomref18_Held.calls k A c (ms.map toV) who _ W (by rw [List.length_map]; exact h2) (by rw [List.length_map]; exact h1) hk
  rw [List.length_map] at this
  exact this

end Go.Proofs.Ytmdacfgofilbdaa.Led
