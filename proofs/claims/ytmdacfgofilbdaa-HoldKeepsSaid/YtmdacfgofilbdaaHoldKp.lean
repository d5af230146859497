/- hold: what each step turns, in plain words. -/
import Derived.Test.YtmdacfgofilbdaaHoldSp
set_option linter.unusedSimpArgs false
set_option linter.unusedVariables false
namespace Go.Proofs.Ytmdacfgofilbdaa.Led
open Go.RowKit Go.Proofs.Ytmdacfgofilbdaa.TabL
open Go.Proofs.Ytmdacfgofilbdaa.TabB (ltI lin getV)

theorem rightA_neg1 : rightA (-1) = false := by decide
theorem party_of_free {p : Int} (h : rightA (freeA p) = true) : partyA p = true := by
  cases hp : partyA p with
  | true => rfl
  | false =>
    unfold freeA at h
    rw [if_neg (by rw [hp]; decide), rightA_neg1] at h
    cases h
theorem party_of_hold {p : Int} (h : rightA (holdA p) = true) : partyA p = true := by
  cases hp : partyA p with
  | true => rfl
  | false =>
    unfold holdA at h
    rw [if_neg (by rw [hp]; decide), rightA_neg1] at h
    cases h
theorem fh_of {p : Int} (hp : partyA p = true) : freeA p = 2 * p ∧ holdA p = 2 * p + 1 ∧ 2 ≤ p := by
  have := party_bnd hp
  refine ⟨by unfold freeA; rw [hp]; rfl, by unfold holdA; rw [hp]; rfl, this.1⟩
theorem dep_ok {xs : Bs} {p n : Int} (h : moveE (getV xs) (0, freeA p, n) = 0) : getV (moveL xs (0, freeA p, n)) (freeA p) = getV xs (freeA p) + n ∧ getV (moveL xs (0, freeA p, n)) (holdA p) = getV xs (holdA p) ∧ getV (moveL xs (0, freeA p, n)) 0 = getV xs 0 - n ∧ 0 ≤ n ∧ n ≤ 1099511627776 := by
  obtain ⟨_, h1, _, h2, _⟩ := moveE_zero h
  obtain ⟨ef, eh, h3⟩ := fh_of (party_of_free h1)
  refine ⟨?_, ?_, ?_, rightM_le h2⟩
  · rw [getV_moveL h, if_pos rfl]
  · rw [getV_moveL h]; dsimp only; rw [ef, eh, if_neg (by omega), if_neg (by omega)]
  · rw [getV_moveL h]; dsimp only; rw [ef, if_neg (by omega), if_pos rfl]
theorem wit_ok {xs : Bs} {p n : Int} (h : moveE (getV xs) (freeA p, 0, n) = 0) : getV (moveL xs (freeA p, 0, n)) (freeA p) = getV xs (freeA p) - n ∧ getV (moveL xs (freeA p, 0, n)) (holdA p) = getV xs (holdA p) ∧ getV (moveL xs (freeA p, 0, n)) 0 = getV xs 0 + n ∧ 0 ≤ n ∧ n ≤ 1099511627776 := by
  obtain ⟨h1, _, _, h2, _⟩ := moveE_zero h
  obtain ⟨ef, eh, h3⟩ := fh_of (party_of_free h1)
  refine ⟨?_, ?_, ?_, rightM_le h2⟩
  · rw [getV_moveL h]; dsimp only; rw [ef, if_neg (by omega), if_pos rfl]
  · rw [getV_moveL h]; dsimp only; rw [ef, eh, if_neg (by omega), if_neg (by omega)]
  · rw [getV_moveL h, if_pos rfl]
theorem pay_ok {xs : Bs} {p n : Int} (h : moveE (getV xs) (holdA p, 1, n) = 0) : getV (moveL xs (holdA p, 1, n)) (holdA p) = getV xs (holdA p) - n ∧ getV (moveL xs (holdA p, 1, n)) (freeA p) = getV xs (freeA p) ∧ getV (moveL xs (holdA p, 1, n)) 1 = getV xs 1 + n ∧ getV (moveL xs (holdA p, 1, n)) 0 = getV xs 0 ∧ 0 ≤ n ∧ n ≤ 1099511627776 := by
  obtain ⟨h1, _, _, h2, _⟩ := moveE_zero h
  obtain ⟨ef, eh, h3⟩ := fh_of (party_of_hold h1)
  refine ⟨?_, ?_, ?_, ?_, rightM_le h2⟩
  · rw [getV_moveL h]; dsimp only; rw [eh, if_neg (by omega), if_pos rfl]
  · rw [getV_moveL h]; dsimp only; rw [ef, eh, if_neg (by omega), if_neg (by omega)]
  · rw [getV_moveL h, if_pos rfl]
  · rw [getV_moveL h]; dsimp only; rw [eh, if_neg (by omega), if_neg (by omega)]
theorem ref_ok {xs : Bs} {p : Int} (h : moveE (getV xs) (refM xs p) = 0) : getV (moveL xs (refM xs p)) (holdA p) = 0 ∧ getV (moveL xs (refM xs p)) (freeA p) = getV xs (freeA p) + getV xs (holdA p) ∧ getV (moveL xs (refM xs p)) 0 = getV xs 0 := by
  have h' := h
  unfold refM at h'
  obtain ⟨h1, _, _, h2, _⟩ := moveE_zero h'
  obtain ⟨ef, eh, h3⟩ := fh_of (party_of_hold h1)
  unfold refM at h ⊢
  refine ⟨?_, ?_, ?_⟩
  · rw [getV_moveL h]; dsimp only; rw [ef, eh, if_neg (by omega), if_pos rfl]; omega
  · rw [getV_moveL h, if_pos rfl]
  · rw [getV_moveL h]; dsimp only; rw [ef, eh, if_neg (by omega), if_neg (by omega)]
theorem setF_ok {xs : Bs} {ms : List Mv} (hR : Rel xs ms) (hH : HeldOk xs) {p n : Int} (h : setE xs p n = 0) : getV (setB xs p n) (holdA p) = n ∧ getV (setB xs p n) (freeA p) = getV xs (freeA p) + getV xs (holdA p) - n ∧ getV (setB xs p n) 0 = getV xs 0 ∧ 0 ≤ n ∧ n ≤ 1099511627776 := by
  cases hp : partyA p with
  | false => rw [(set_no (.inl hp)).1] at h; cases h
  | true =>
    cases hm : rightM n with
    | false => rw [(set_no (.inr hm)).1] at h; cases h
    | true =>
      obtain ⟨ef, eh, h3⟩ := fh_of hp
      have hs := set_ok hR hH hp hm
      by_cases hlt : getV xs (2 * p) + getV xs (2 * p + 1) < n
      · rw [(hs.1 hlt).1] at h; cases h
      · have h2 := (hs.2 (by omega)).2
        rw [ef, eh]
        refine ⟨?_, ?_, ?_, rightM_le hm⟩
        · rw [h2, if_pos rfl]
        · rw [h2, if_neg (by omega), if_pos rfl]
        · rw [h2, if_neg (by omega), if_neg (by omega)]
theorem setF_no {xs : Bs} {p n : Int} (h : setE xs p n ≠ 0) : setB xs p n = xs := by
  unfold setE at h
  unfold setB
  by_cases hc : partyA p = false ∨ rightM n = false
  · rw [if_pos hc]
  · rw [if_neg hc] at h ⊢
    exact moveL_no h
def sumB (bills : List (Int × Int)) : Int := bills.foldl (fun s b => s + b.2) 0
theorem sumB_snoc (l : List (Int × Int)) (b : Int × Int) : sumB (l ++ [b]) = sumB l + b.2 := by unfold sumB; rw [List.foldl_append]; rfl
theorem sumB_cons (b : Int × Int) (l : List (Int × Int)) : sumB (b :: l) = b.2 + sumB l := by
  have key : ∀ (l : List (Int × Int)) (s : Int), l.foldl (fun s b => s + b.2) s = s + l.foldl (fun s b => s + b.2) 0 := fun l => by
    induction l with
    | nil => intro s; simp
    | cons q l ih => intro s; rw [List.foldl_cons, List.foldl_cons, ih (s + q.2), ih (0 + q.2)]; omega
  unfold sumB
  rw [List.foldl_cons, key l (0 + b.2)]
  omega
/-- what all bills paid turn -/
theorem bills_ok : ∀ (bills : List (Int × Int)) {xs : Bs}, (movesL xs (bms bills)).1 = 0 → getV (movesL xs (bms bills)).2 1 = getV xs 1 + sumB bills ∧ getV (movesL xs (bms bills)).2 0 = getV xs 0 ∧ ∀ b ∈ bills, 0 ≤ b.2 ∧ b.2 ≤ 1099511627776
  | [], xs, _ => ⟨by simp [bms, movesL, sumB], rfl, by simp⟩
  | b :: r, xs, h => by
    have e : bms (b :: r) = (holdA b.1, 1, b.2) :: bms r := rfl
    rw [e] at h ⊢
    unfold movesL at h ⊢
    by_cases h0 : moveE (getV xs) (holdA b.1, 1, b.2) = 0
    · rw [if_pos h0] at h ⊢
      obtain ⟨_, _, p1, p0, p2, p3⟩ := pay_ok h0
      obtain ⟨i1, i2, i3⟩ := bills_ok r h
      refine ⟨by rw [i1, p1, sumB_cons]; omega, by rw [i2, p0], fun b' hb => ?_⟩
      rcases List.mem_cons.1 hb with rfl | hb
      · exact ⟨p2, p3⟩
      · exact i3 b' hb
    · rw [if_neg h0] at h
      exact absurd h h0
theorem all_ok {bills : List (Int × Int)} {xs : Bs} (h : (movesL xs (bms bills)).1 = 0) : getV (allL xs (bms bills)) 1 = getV xs 1 + sumB bills ∧ getV (allL xs (bms bills)) 0 = getV xs 0 ∧ ∀ b ∈ bills, 0 ≤ b.2 ∧ b.2 ≤ 1099511627776 := by
  unfold allL
  rw [if_pos h]
  exact bills_ok bills h
theorem all_no {l : List Mv} {xs : Bs} (h : (movesL xs l).1 ≠ 0) : allL xs l = xs := by unfold allL; rw [if_neg h]
theorem sumB_bnd {bills : List (Int × Int)} (h : ∀ b ∈ bills, 0 ≤ b.2 ∧ b.2 ≤ 1099511627776) : ∀ k, k ≤ bills.length → 0 ≤ sumB (bills.take k) ∧ sumB (bills.take k) ≤ 1099511627776 * (k : Int) := fun k => by
  induction k with
  | zero => intro _; simp [sumB]
  | succ k ih =>
    intro hk
    have h1 := ih (by omega)
    have h2 := h _ (List.getElem_mem (l := bills) (n := k) (by omega))
    rw [List.take_succ_eq_append_getElem (by omega), sumB_snoc]
    omega

end Go.Proofs.Ytmdacfgofilbdaa.Led
