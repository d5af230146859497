/- hold: what Set does, in plain words. -/
import Derived.Test.YtmdacfgofilbdaaHoldPl
set_option linter.unusedSimpArgs false
set_option linter.unusedVariables false
namespace Go.Proofs.Ytmdacfgofilbdaa.Led
open Go.RowKit Go.Proofs.Ytmdacfgofilbdaa.TabL
open Go.Proofs.Ytmdacfgofilbdaa.TabB (ltI lin getV)

theorem sumL_nonneg {xs : Bs} (h : ∀ q ∈ xs, 0 ≤ q.2) : 0 ≤ sumL xs := by
  induction xs with
  | nil => exact Int.le_refl _
  | cons p r ih =>
    rw [sumL_cons]
    have h1 := h p (List.mem_cons_self ..)
    have h2 := ih (fun q hq => h q (List.mem_cons_of_mem _ hq))
    omega
theorem getV_dropL (xs : Bs) (k j : Int) : getV (dropL ltI xs k) j = if j = k then 0 else getV xs j := by
  unfold getV
  rw [getL_dropL lin]
  by_cases hj : j = k
  · rw [if_pos hj, if_pos hj]
  · rw [if_neg hj, if_neg hj]
theorem mem_drop {xs : Bs} {k : Int} {q : Int × Int} (h : q ∈ dropL ltI xs k) : q ∈ xs ∧ q.1 ≠ k := by
  obtain ⟨h1, h2⟩ := List.mem_filter.1 h
  refine ⟨h1, fun e => ?_⟩
  rw [e] at h2
  simp [ltI] at h2
/-- two accounts have no more than the outside gave -/
theorem two_le {xs : Bs} {ms : List Mv} (hR : Rel xs ms) (hC : Clean xs) {a b : Int} (ha : a ≠ 0) (hb : b ≠ 0) (hab : a ≠ b) : getV xs a + getV xs b ≤ 70368744177664 := by
  have h1 := sumL_drop (k := 0) hC.sd
  have s1 : Sd ltI (dropL ltI xs 0) := dropL_sd hC.sd 0
  have h2 := sumL_drop (k := a) s1
  have s2 : Sd ltI (dropL ltI (dropL ltI xs 0) a) := dropL_sd s1 a
  have h3 := sumL_drop (k := b) s2
  rw [getV_dropL, if_neg ha] at h2
  rw [getV_dropL, if_neg (Ne.symm hab), getV_dropL, if_neg hb] at h3
  have h4 : 0 ≤ sumL (dropL ltI (dropL ltI (dropL ltI xs 0) a) b) := sumL_nonneg (fun q hq => by
    have q1 := mem_drop hq
    have q2 := mem_drop q1.1
    have q3 := mem_drop q2.1
    rw [← getV_mem hC.sd q q3.1, hR.get]
    exact hR.good.nonneg q3.2)
  have h5 := (hR.bnd 0).1
  have h6 := hC.sum
  omega
theorem right_free {p : Int} (hp : partyA p = true) : rightA (2 * p) = true ∧ rightA (2 * p + 1) = true := by
  have := party_bnd hp
  unfold rightA
  refine ⟨?_, ?_⟩
  · rw [decide_eq_true (show 4 ≤ 2 * p by omega), decide_eq_true (show 2 * p ≤ 2001 by omega)]; simp
  · rw [decide_eq_true (show 4 ≤ 2 * p + 1 by omega), decide_eq_true (show 2 * p + 1 ≤ 2001 by omega)]; simp
theorem rightM_mk {n : Int} (h0 : 0 ≤ n) (h1 : n ≤ 1099511627776) : rightM n = true := by unfold rightM; rw [decide_eq_true h0, decide_eq_true h1]; rfl
theorem rightM_le {n : Int} (h : rightM n = true) : 0 ≤ n ∧ n ≤ 1099511627776 := by unfold rightM at h; simpa using h
theorem set_ok {xs : Bs} {ms : List Mv} (hR : Rel xs ms) (hH : HeldOk xs) {p n : Int} (hp : partyA p = true) (hn : rightM n = true) :
    (getV xs (2 * p) + getV xs (2 * p + 1) < n → setE xs p n = 40 ∧ setB xs p n = xs) ∧
    (n ≤ getV xs (2 * p) + getV xs (2 * p + 1) → setE xs p n = 0 ∧ ∀ a, getV (setB xs p n) a = if a = 2 * p + 1 then n else if a = 2 * p then getV xs (2 * p) + getV xs (2 * p + 1) - n else getV xs a) := by
  have hpb := party_bnd hp
  have hnb := rightM_le hn
  obtain ⟨r1, r2⟩ := right_free hp
  have hc : ¬ (partyA p = false ∨ rightM n = false) := by rw [hp, hn]; simp
  have ef : freeA p = 2 * p := by unfold freeA; rw [hp]; rfl
  have eh : holdA p = 2 * p + 1 := by unfold holdA; rw [hp]; rfl
  have hf0 : 0 ≤ getV xs (2 * p) := by rw [hR.get]; exact hR.good.nonneg (by omega)
  have hh0 : 0 ≤ getV xs (2 * p + 1) := by rw [hR.get]; exact hR.good.nonneg (by omega)
  have hh1 := hH.1 p hp
  have hfh := two_le hR hH.2 (a := 2 * p) (b := 2 * p + 1) (by omega) (by omega) (by omega)
  have hE : setE xs p n = moveE (getV xs) (setM xs p n) := by unfold setE; rw [if_neg hc]
  have hB : setB xs p n = moveL xs (setM xs p n) := by unfold setB; rw [if_neg hc]
  have hM : setM xs p n = if 0 ≤ n - getV xs (2 * p + 1) then (2 * p, 2 * p + 1, n - getV xs (2 * p + 1)) else (2 * p + 1, 2 * p, -(n - getV xs (2 * p + 1))) := by unfold setM; rw [ef, eh]
  obtain ⟨f, hf⟩ : ∃ f, getV xs (2 * p) = f := ⟨_, rfl⟩
  obtain ⟨h, hh⟩ : ∃ h, getV xs (2 * p + 1) = h := ⟨_, rfl⟩
  rw [hf] at hf0 hfh ⊢
  rw [hh] at hh0 hh1 hfh hM ⊢
  rw [hE, hB, hM]
  by_cases hge : 0 ≤ n - h
  · rw [if_pos hge]
    have r3 := rightM_mk hge (by omega)
    have e1 : moveE (getV xs) (2 * p, 2 * p + 1, n - h) = if f - (n - h) < 0 then 40 else 0 := by
      unfold moveE
      dsimp only
      rw [if_neg (by rw [r1, r2, r3]; simp; omega), hf, hh]
      by_cases hlt : f - (n - h) < 0
      · rw [if_pos ⟨by omega, hlt⟩, if_pos hlt]
      · rw [if_neg (fun x => hlt x.2), if_neg (by omega), if_neg hlt]
    refine ⟨fun hlt => ?_, fun hle => ?_⟩
    · rw [if_pos (by omega)] at e1
      exact ⟨e1, moveL_no (by rw [e1]; decide)⟩
    · rw [if_neg (by omega)] at e1
      refine ⟨e1, fun a => ?_⟩
      rw [getV_moveL e1]
      dsimp only
      rw [hf, hh]
      by_cases ea : a = 2 * p + 1
      · rw [if_pos ea, if_pos ea]; omega
      · rw [if_neg ea, if_neg ea]
        by_cases eb : a = 2 * p
        · rw [if_pos eb, if_pos eb]; omega
        · rw [if_neg eb, if_neg eb]
  · rw [if_neg hge]
    have r3 := rightM_mk (n := -(n - h)) (by omega) (by omega)
    have e1 : moveE (getV xs) (2 * p + 1, 2 * p, -(n - h)) = 0 := by
      unfold moveE
      dsimp only
      rw [if_neg (by rw [r1, r2, r3]; simp; omega), hf, hh, if_neg (by omega), if_neg (by omega)]
    refine ⟨fun hlt => by omega, fun hle => ⟨e1, fun a => ?_⟩⟩
    rw [getV_moveL e1]
    dsimp only
    rw [hf, hh]
    by_cases ea : a = 2 * p + 1
    · rw [if_pos ea, if_neg (by omega), if_pos ea]; omega
    · rw [if_neg ea]
      by_cases eb : a = 2 * p
      · rw [if_pos eb, if_pos eb]; omega
      · rw [if_neg eb, if_neg ea, if_neg eb]
theorem set_no {xs : Bs} {p n : Int} (h : partyA p = false ∨ rightM n = false) : setE xs p n = 1 ∧ setB xs p n = xs := by
  unfold setE setB
  rw [if_pos h, if_pos h]
  exact ⟨rfl, rfl⟩
/-- what is held is set to any amount that there is, and back -/
theorem set_back {xs : Bs} {ms : List Mv} (hR : Rel xs ms) (hH : HeldOk xs) {p n : Int} (hp : partyA p = true) (hn : rightM n = true) (hle : n ≤ getV xs (2 * p) + getV xs (2 * p + 1)) :
    getV (setB xs p n) (2 * p + 1) = n ∧ getV (setB xs p n) (2 * p) = getV xs (2 * p) + getV xs (2 * p + 1) - n ∧ setE (setB xs p n) p (getV xs (2 * p + 1)) = 0 ∧ setB (setB xs p n) p (getV xs (2 * p + 1)) = xs := by
  have h1 := (set_ok hR hH hp hn).2 hle
  have hR1 := (hR.set p n).2
  have hH1 := hH.set p n
  have e1 := h1.2 (2 * p + 1)
  have e2 := h1.2 (2 * p)
  rw [if_pos rfl] at e1
  rw [if_neg (by omega), if_pos rfl] at e2
  have hh0 : 0 ≤ getV xs (2 * p + 1) := by rw [hR.get]; exact hR.good.nonneg (by have := party_bnd hp; omega)
  have hf0 : 0 ≤ getV xs (2 * p) := by rw [hR.get]; exact hR.good.nonneg (by have := party_bnd hp; omega)
  have h2 := (set_ok hR1 hH1 hp (rightM_mk hh0 (hH.1 p hp))).2 (by rw [e1, e2]; omega)
  refine ⟨e1, e2, h2.1, (hH1.set p _).2.ext hH.2 (fun a => ?_)⟩
  rw [h2.2 a]
  by_cases ea : a = 2 * p + 1
  · rw [if_pos ea, ea]
  · rw [if_neg ea]
    by_cases eb : a = 2 * p
    · rw [if_pos eb, e1, e2, eb]; omega
    · rw [if_neg eb, h1.2 a, if_neg ea, if_neg eb]

end Go.Proofs.Ytmdacfgofilbdaa.Led
