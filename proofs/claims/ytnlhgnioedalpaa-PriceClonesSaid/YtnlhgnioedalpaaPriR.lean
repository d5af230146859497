/- price: the document's functions in plain words. -/
import Derived.Test.YtnlhgnioedalpaaPriV
import Derived.Test.YtnlhgnioedalpaaPPricePlaysx5
import Derived.Test.YtnlhgnioedalpaaPPricePlaysx6
set_option linter.unusedSimpArgs false
set_option linter.unusedVariables false
namespace Go.Proofs.Ytnlhgnioedalpaa.Pri
open Go.RowKit Go.Proofs.YtnlhgnioedalpaaW.PrintWords Go.Proofs.Ytnlhgnioedalpaa.PPricePlays
attribute [local go_sem] Oper.semAt_some

theorem rsame_ev (l m : List En) (hl : l.length ≤ 1099511627776) : Ev (fun k => saleroomref11_Same.f k (l.map toE) (m.map toE)) (decide (l = m)) := by
  have key : l.length = m.length → ∀ e i, i + e = l.length → Ev (fun k => saleroomref11_Same.l0 k (l.map toE) (m.map toE) (i : Int)) (decide (l.drop i = m.drop i)) := by
    intro he e
    induction e with
    | zero =>
      intro i hi
      rw [List.drop_eq_nil_of_le (show l.length ≤ i by omega), List.drop_eq_nil_of_le (show m.length ≤ i by omega), decide_eq_true rfl]
      refine Ev.step (f := fun _ => some true) (fun k => ?_) (Ev.now _)
      simp only [saleroomref11_Same.l0, List.length_map]
      rw [if_neg (by omega)]
    | succ e ih =>
      intro i hi
      have hil : i < l.length := by omega
      have him : i < m.length := by omega
      have e1 : l.drop i = l[i] :: l.drop (i + 1) := (List.getElem_cons_drop ..).symm
      have e2 : m.drop i = m[i] :: m.drop (i + 1) := (List.getElem_cons_drop ..).symm
      by_cases h : l[i] = m[i]
      · have hd : decide (l.drop i = m.drop i) = decide (l.drop (i + 1) = m.drop (i + 1)) := decide_eq_decide.2 (by rw [e1, e2, h]; exact ⟨fun q => (List.cons.inj q).2, fun q => by rw [q]⟩)
        rw [hd]
        refine Ev.step (f := fun k => saleroomref11_Same.l0 k (l.map toE) (m.map toE) ((i + 1 : Nat) : Int)) (fun k => ?_) (ih (i + 1) (by omega))
        simp only [saleroomref11_Same.l0, List.length_map]
        rw [if_pos (by omega), if_pos (by omega), if_pos (by omega), rdE l hil, rdE m him, h, if_neg (by simp), wrap_succ (by omega)]
      · have hd : decide (l.drop i = m.drop i) = false := by rw [e1, e2]; exact decide_eq_false (fun q => h (List.cons.inj q).1)
        rw [hd]
        refine Ev.step (f := fun _ => some false) (fun k => ?_) (Ev.now _)
        simp only [saleroomref11_Same.l0, List.length_map]
        rw [if_pos (by omega), if_pos (by omega), if_pos (by omega), rdE l hil, rdE m him, if_pos]
        have : ¬ (l[i].1 = m[i].1 ∧ l[i].2 = m[i].2) := fun hh => h (Prod.ext hh.1 hh.2)
        simp only [toE]
        by_cases h1 : l[i].1 = m[i].1
        · have h2 : ¬ l[i].2 = m[i].2 := fun hh => this ⟨h1, hh⟩
          simp [h1, h2]
        · simp [h1]
  by_cases he : l.length = m.length
  · refine Ev.congr (fun k => ?_) (key he l.length 0 (by omega))
    simp only [saleroomref11_Same.f, List.length_map]
    rw [if_pos (by omega)]
    rfl
  · have hd : decide (l = m) = false := by simp; intro h; exact he (congrArg List.length h)
    rw [hd]
    refine Ev.congr (fun k => ?_) (Ev.now (r := false))
    simp only [saleroomref11_Same.f, List.length_map]
    rw [if_neg (by omega)]

/-! the contracts -/
theorem rsame_any (W : World) (v u : Value) (l m : List En) (h : PE W v l) (k : PE W u m) (hl : l.length ≤ 1099511627776) :
    Calls Try.prog 16 #[v, u] W fun e w' => e = .returned (.bool (decide (l = m))) ∧ Below W.heap.size W w' := by
  obtain ⟨A, c, rfl, h1, _, h2⟩ := h
  obtain ⟨B, d, rfl, k1, _, k2⟩ := k
  obtain ⟨n, hn⟩ := (rsame_ev l m hl).rounds
  have := saleroomref11_Same.calls n A c (l.map toE) B d (m.map toE) (decide (l = m)) W (by rw [List.length_map]; exact h2) (by rw [List.length_map]; exact h1) (by rw [List.length_map]; exact k2) (by rw [List.length_map]; exact k1) hn
  rw [List.length_map, List.length_map] at this
  exact this.mono fun e w' ⟨x, y⟩ => ⟨x, y.below⟩
end Go.Proofs.Ytnlhgnioedalpaa.Pri
