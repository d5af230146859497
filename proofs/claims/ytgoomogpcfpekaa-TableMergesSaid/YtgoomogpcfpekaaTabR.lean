/- the document's answer for tables, as the print tells it, in plain words. -/
import Derived.Test.YtgoomogpcfpekaaTabN11
import Derived.Test.YtgoomogpcfpekaaPTablePlaysx1
import Derived.Test.YtgoomogpcfpekaaPTablePlaysx2
import Derived.Test.YtgoomogpcfpekaaPTablePlaysx3
set_option linter.unusedSimpArgs false
set_option linter.unusedVariables false
namespace Go.Proofs.Ytgoomogpcfpekaa.TabR
open Go.RowKit Go.Proofs.YtgoomogpcfpekaaW.PrintWords Go.Proofs.Ytgoomogpcfpekaa.TabL Go.Proofs.Ytgoomogpcfpekaa.PTablePlays
open Go.Proofs.Ytgoomogpcfpekaa.TabN (ltI belowL)

theorem wrap_succ {i : Nat} (h : i < 9223372036854775807) : wrap64 ((i : Int) + 1) = ((i + 1 : Nat) : Int) := by unfold wrap64; omega
def toS (p : Int × Int) : S41 := ⟨p.1, p.2⟩
theorem rdS (l : List (Int × Int)) {i : Nat} (hi : i < l.length) : rd_T41 (l.map toS) (i : Int) = toS l[i] := by simp [rd_T41, hi]
def gv (xs : List (Int × Int)) (k : Int) : Int × Bool := match getL ltI xs k with | none => (0, false) | some v => (v, true)
theorem get_ev (l : List (Int × Int)) (k : Int) (hl : l.length ≤ 1099511627776) : Ev (fun n => saleroomref08_Get.f n (l.map toS) k) (gv l k) := by
  have key : ∀ e i, i + e = l.length → Ev (fun n => saleroomref08_Get.l0 n (l.map toS) k (i : Int)) (gv (l.drop i) k) := by
    intro e
    induction e with
    | zero =>
      intro i hi
      rw [List.drop_eq_nil_of_le (by omega)]
      refine Ev.step (f := fun _ => some (0, false)) (fun n => ?_) (Ev.now _)
      simp only [saleroomref08_Get.l0, List.length_map]
      rw [if_neg (by omega)]
    | succ e ih =>
      intro i hi
      have hil : i < l.length := by omega
      have e1 : l.drop i = l[i] :: l.drop (i + 1) := (List.getElem_cons_drop ..).symm
      rw [e1]
      by_cases hq : l[i].1 = k
      · have hg : gv (l[i] :: l.drop (i + 1)) k = (l[i].2, true) := by unfold gv getL; simp [ltI, hq]
        rw [hg]
        refine Ev.step (f := fun _ => some (l[i].2, true)) (fun n => ?_) (Ev.now _)
        simp only [saleroomref08_Get.l0, List.length_map]
        rw [if_pos (by omega), if_pos (by omega), rdS l hil, if_pos (by exact hq)]
        rfl
      · have hg : gv (l[i] :: l.drop (i + 1)) k = gv (l.drop (i + 1)) k := by
          unfold gv
          rw [getL, if_pos (by simp [ltI]; omega)]
        rw [hg]
        refine Ev.step (f := fun n => saleroomref08_Get.l0 n (l.map toS) k ((i + 1 : Nat) : Int)) (fun n => ?_) (ih (i + 1) (by omega))
        simp only [saleroomref08_Get.l0, List.length_map]
        rw [if_pos (by omega), if_pos (by omega), rdS l hil, if_neg (by exact hq), wrap_succ (by omega)]
  have h2 : Ev (fun n => saleroomref08_Get.l0 n (l.map toS) k 0) (gv l k) := by simpa using key l.length 0 (by omega)
  exact h2
theorem drop_ev (l : List (Int × Int)) (k : Int) (hl : l.length ≤ 1099511627776) : Ev (fun n => saleroomref08_Drop.f n (l.map toS) k) ((dropL ltI l k).map toS) := by
  have key : ∀ e i (out : List (Int × Int)), i + e = l.length → out.length + e ≤ 1099511627776 → Ev (fun n => saleroomref08_Drop.l0 n (l.map toS) k (out.map toS) (i : Int)) ((out ++ dropL ltI (l.drop i) k).map toS) := by
    intro e
    induction e with
    | zero =>
      intro i out hi ho
      rw [List.drop_eq_nil_of_le (by omega)]
      refine Ev.step (f := fun _ => some (out.map toS)) (fun n => ?_) (by simpa [dropL] using Ev.now _)
      simp only [saleroomref08_Drop.l0, List.length_map]
      rw [if_neg (by omega)]
    | succ e ih =>
      intro i out hi ho
      have hil : i < l.length := by omega
      have e1 : l.drop i = l[i] :: l.drop (i + 1) := (List.getElem_cons_drop ..).symm
      rw [e1]
      by_cases hq : l[i].1 = k
      · have hg : dropL ltI (l[i] :: l.drop (i + 1)) k = dropL ltI (l.drop (i + 1)) k := by unfold dropL; rw [List.filter_cons, if_neg (by simp [ltI, hq])]
        rw [hg]
        refine Ev.step (f := fun n => saleroomref08_Drop.l0 n (l.map toS) k (out.map toS) ((i + 1 : Nat) : Int)) (fun n => ?_) (ih (i + 1) out (by omega) (by omega))
        simp only [saleroomref08_Drop.l0, List.length_map]
        rw [if_pos (by omega), if_pos (by omega), rdS l hil, if_pos (by exact hq), wrap_succ (by omega)]
      · have hg : dropL ltI (l[i] :: l.drop (i + 1)) k = l[i] :: dropL ltI (l.drop (i + 1)) k := by
          unfold dropL
          rw [List.filter_cons, if_pos (by simp [ltI]; omega)]
        rw [hg]
        have := ih (i + 1) (out ++ [l[i]]) (by omega) (by simp; omega)
        rw [show out ++ l[i] :: dropL ltI (l.drop (i + 1)) k = out ++ [l[i]] ++ dropL ltI (l.drop (i + 1)) k from by simp]
        refine Ev.step (f := fun n => saleroomref08_Drop.l0 n (l.map toS) k ((out ++ [l[i]]).map toS) ((i + 1 : Nat) : Int)) (fun n => ?_) this
        simp only [saleroomref08_Drop.l0, List.length_map]
        rw [if_pos (by omega), if_pos (by omega), rdS l hil, if_neg (by exact hq), if_pos (by omega), wrap_succ (by omega), List.map_append]
        rfl
  have h2 : Ev (fun n => saleroomref08_Drop.l0 n (l.map toS) k [] 0) ((dropL ltI l k).map toS) := by simpa using key l.length 0 [] (by omega) (by simp; omega)
  exact h2

theorem from_ev (l : List (Int × Int)) (k : Int) (hl : l.length ≤ 1099511627776) : Ev (fun n => saleroomref08_From.f n (l.map toS) k) ((fromL ltI l k).map toS) := by
  have key : ∀ e i (out : List (Int × Int)), i + e = l.length → out.length + e ≤ 1099511627776 → Ev (fun n => saleroomref08_From.l0 n (l.map toS) k (out.map toS) (i : Int)) ((out ++ fromL ltI (l.drop i) k).map toS) := by
    intro e
    induction e with
    | zero =>
      intro i out hi ho
      rw [List.drop_eq_nil_of_le (by omega)]
      refine Ev.step (f := fun _ => some (out.map toS)) (fun n => ?_) (by simpa [fromL] using Ev.now _)
      simp only [saleroomref08_From.l0, List.length_map]
      rw [if_neg (by omega)]
    | succ e ih =>
      intro i out hi ho
      have hil : i < l.length := by omega
      have e1 : l.drop i = l[i] :: l.drop (i + 1) := (List.getElem_cons_drop ..).symm
      rw [e1]
      by_cases hq : l[i].1 ≥ k
      · have hg : fromL ltI (l[i] :: l.drop (i + 1)) k = l[i] :: fromL ltI (l.drop (i + 1)) k := by
          unfold fromL
          rw [List.filter_cons, if_pos (by simp [ltI]; omega)]
        rw [hg]
        have := ih (i + 1) (out ++ [l[i]]) (by omega) (by simp; omega)
        rw [show out ++ l[i] :: fromL ltI (l.drop (i + 1)) k = out ++ [l[i]] ++ fromL ltI (l.drop (i + 1)) k from by simp]
        refine Ev.step (f := fun n => saleroomref08_From.l0 n (l.map toS) k ((out ++ [l[i]]).map toS) ((i + 1 : Nat) : Int)) (fun n => ?_) this
        simp only [saleroomref08_From.l0, List.length_map]
        rw [if_pos (by omega), if_pos (by omega), rdS l hil, if_pos (by exact hq), if_pos (by omega), wrap_succ (by omega), List.map_append]
        rfl
      · have hg : fromL ltI (l[i] :: l.drop (i + 1)) k = fromL ltI (l.drop (i + 1)) k := by unfold fromL; rw [List.filter_cons, if_neg (by simp [ltI]; omega)]
        rw [hg]
        refine Ev.step (f := fun n => saleroomref08_From.l0 n (l.map toS) k (out.map toS) ((i + 1 : Nat) : Int)) (fun n => ?_) (ih (i + 1) out (by omega) (by omega))
        simp only [saleroomref08_From.l0, List.length_map]
        rw [if_pos (by omega), if_pos (by omega), rdS l hil, if_neg (by exact hq), wrap_succ (by omega)]
  have h2 : Ev (fun n => saleroomref08_From.l0 n (l.map toS) k [] 0) ((fromL ltI l k).map toS) := by simpa using key l.length 0 [] (by omega) (by simp; omega)
  exact h2
theorem same_ev (l m : List (Int × Int)) (hl : l.length ≤ 1099511627776) : Ev (fun n => saleroomref08_Same.f n (l.map toS) (m.map toS)) (decide (l = m)) := by
  by_cases hlen : l.length = m.length
  · have key : ∀ e i, i + e = l.length → Ev (fun n => saleroomref08_Same.l0 n (l.map toS) (m.map toS) (i : Int)) (decide (l.drop i = m.drop i)) := by
      intro e
      induction e with
      | zero =>
        intro i hi
        rw [List.drop_eq_nil_of_le (by omega), List.drop_eq_nil_of_le (by omega)]
        refine Ev.step (f := fun _ => some true) (fun n => ?_) (Ev.now _)
        simp only [saleroomref08_Same.l0, List.length_map]
        rw [if_neg (by omega)]
      | succ e ih =>
        intro i hi
        have hil : i < l.length := by omega
        have him : i < m.length := by omega
        have e1 : l.drop i = l[i] :: l.drop (i + 1) := (List.getElem_cons_drop ..).symm
        have e2 : m.drop i = m[i] :: m.drop (i + 1) := (List.getElem_cons_drop ..).symm
        rw [e1, e2]
        by_cases hq : l[i] = m[i]
        · have hg : decide (l[i] :: l.drop (i + 1) = m[i] :: m.drop (i + 1)) = decide (l.drop (i + 1) = m.drop (i + 1)) := by rw [hq]; exact decide_eq_decide.2 ⟨fun h => (List.cons.inj h).2, fun h => by rw [h]⟩
          rw [hg]
          refine Ev.step (f := fun n => saleroomref08_Same.l0 n (l.map toS) (m.map toS) ((i + 1 : Nat) : Int)) (fun n => ?_) (ih (i + 1) (by omega))
          simp only [saleroomref08_Same.l0, List.length_map]
          rw [if_pos (by omega), if_pos (by omega), if_pos (by omega), rdS l hil, rdS m him, hq, if_neg (by simp), wrap_succ (by omega)]
        · have hg : decide (l[i] :: l.drop (i + 1) = m[i] :: m.drop (i + 1)) = false := decide_eq_false (fun h => hq (List.cons.inj h).1)
          rw [hg]
          refine Ev.step (f := fun _ => some false) (fun n => ?_) (Ev.now _)
          simp only [saleroomref08_Same.l0, List.length_map]
          rw [if_pos (by omega), if_pos (by omega), if_pos (by omega), rdS l hil, rdS m him, if_pos]
          have h3 : ¬ (l[i].1 = m[i].1 ∧ l[i].2 = m[i].2) := fun h => hq (Prod.ext h.1 h.2)
          simp only [toS]
          by_cases h4 : l[i].1 = m[i].1
          · have h5 : ¬ l[i].2 = m[i].2 := fun h => h3 ⟨h4, h⟩
            simp [h5]
          · simp [h4]
    have h2 : Ev (fun n => saleroomref08_Same.l0 n (l.map toS) (m.map toS) 0) (decide (l = m)) := by simpa using key l.length 0 (by omega)
    refine Ev.congr (fun n => ?_) h2
    simp only [saleroomref08_Same.f, List.length_map]
    rw [if_pos (by omega)]
  · have hg : decide (l = m) = false := by simp; intro h; exact hlen (by rw [h])
    rw [hg]
    refine Ev.congr (f := fun _ => some false) (fun n => ?_) (Ev.now _)
    simp only [saleroomref08_Same.f, List.length_map]
    rw [if_neg (by omega)]

theorem below_cons (x : Int × Int) (r : List (Int × Int)) (k : Int) : belowL (x :: r) k = if x.1 < k then (belowL r k).or (some x.1) else belowL r k := by
  unfold belowL
  rw [List.filter_cons]
  by_cases h : x.1 < k
  · rw [if_pos (by simpa [ltI] using h), if_pos h, List.getLast?_cons]
    cases (r.filter (fun p => ltI p.1 k)).getLast? <;> simp
  · rw [if_neg (by simpa [ltI] using h), if_neg h]
theorem below_ev (l : List (Int × Int)) (k : Int) (hl : l.length ≤ 1099511627776) : Ev (fun n => saleroomref08_Below.f n (l.map toS) k) ((belowL l k).getD 0, (belowL l k).isSome) := by
  have key : ∀ e i (cur : Option Int), i + e = l.length → Ev (fun n => saleroomref08_Below.l0 n (l.map toS) k (cur.getD 0) cur.isSome (i : Int)) (((belowL (l.drop i) k).or cur).getD 0, ((belowL (l.drop i) k).or cur).isSome) := by
    intro e
    induction e with
    | zero =>
      intro i cur hi
      rw [List.drop_eq_nil_of_le (by omega), show belowL [] k = none from rfl, Option.none_or]
      refine Ev.step (f := fun _ => some (cur.getD 0, cur.isSome)) (fun n => ?_) (Ev.now _)
      simp only [saleroomref08_Below.l0, List.length_map]
      rw [if_neg (by omega)]
    | succ e ih =>
      intro i cur hi
      have hil : i < l.length := by omega
      have e1 : l.drop i = l[i] :: l.drop (i + 1) := (List.getElem_cons_drop ..).symm
      rw [e1, below_cons]
      by_cases hq : l[i].1 < k
      · rw [if_pos hq, Option.or_assoc, Option.some_or]
        refine Ev.step (f := fun n => saleroomref08_Below.l0 n (l.map toS) k ((some l[i].1).getD 0) (some l[i].1).isSome ((i + 1 : Nat) : Int)) (fun n => ?_) (ih (i + 1) (some l[i].1) (by omega))
        simp only [saleroomref08_Below.l0, List.length_map]
        rw [if_pos (by omega), if_pos (by omega), rdS l hil, if_pos (by exact hq), wrap_succ (by omega)]
        rfl
      · rw [if_neg hq]
        refine Ev.step (f := fun n => saleroomref08_Below.l0 n (l.map toS) k (cur.getD 0) cur.isSome ((i + 1 : Nat) : Int)) (fun n => ?_) (ih (i + 1) cur (by omega))
        simp only [saleroomref08_Below.l0, List.length_map]
        rw [if_pos (by omega), if_pos (by omega), rdS l hil, if_neg (by exact hq), wrap_succ (by omega)]
  have h2 : Ev (fun n => saleroomref08_Below.l0 n (l.map toS) k 0 false 0) ((belowL l k).getD 0, (belowL l k).isSome) := by simpa using key l.length 0 none (by omega)
  exact h2
theorem back_ev (l : List (Int × Int)) (hl : l.length ≤ 1099511627776) : Ev (fun n => saleroomref08_Back.f n (l.map toS)) (l.reverse.map toS) := by
  have key : ∀ i (out : List (Int × Int)), i ≤ l.length → out.length + i ≤ 1099511627776 → Ev (fun n => saleroomref08_Back.l0 n (l.map toS) (out.map toS) ((i : Int) - 1)) ((out ++ (l.take i).reverse).map toS) := by
    intro i
    induction i with
    | zero =>
      intro out hi ho
      refine Ev.step (f := fun _ => some (out.map toS)) (fun n => ?_) (by simpa using Ev.now _)
      simp only [saleroomref08_Back.l0]
      rw [if_neg (by omega)]
    | succ i ih =>
      intro out hi ho
      have hil : i < l.length := by omega
      have e1 : (l.take (i + 1)).reverse = l[i] :: (l.take i).reverse := by rw [List.take_succ_eq_append_getElem hil]; simp
      have e2 : ((i + 1 : Nat) : Int) - 1 = (i : Int) := by omega
      have := ih (out ++ [l[i]]) (by omega) (by simp; omega)
      rw [e1, e2, show out ++ l[i] :: (l.take i).reverse = out ++ [l[i]] ++ (l.take i).reverse from by simp]
      refine Ev.step (f := fun n => saleroomref08_Back.l0 n (l.map toS) ((out ++ [l[i]]).map toS) ((i : Int) - 1)) (fun n => ?_) this
      simp only [saleroomref08_Back.l0, List.length_map]
      rw [if_pos (by omega), if_pos (by omega), if_pos (by omega), if_pos (by omega), rdS l hil, List.map_append, show wrap64 ((i : Int) - 1) = (i : Int) - 1 from by unfold wrap64; omega]
      rfl
  have h1 := key l.length [] (Nat.le_refl _) (by simp; omega)
  have h2 : Ev (fun n => saleroomref08_Back.l0 n (l.map toS) [] (wrap64 (((l.map toS).length : Int) - 1))) (l.reverse.map toS) := by
    rw [List.length_map, show wrap64 ((l.length : Int) - 1) = (l.length : Int) - 1 from by unfold wrap64; omega]
    simpa using h1
  exact h2

theorem put_done (l : List (Int × Int)) (k v : Int) (hl : l.length ≤ 1099511627776) : ∀ e i (out : List (Int × Int)), i + e = l.length → out.length + e ≤ 2199023255552 → Ev (fun n => saleroomref08_Put.l0 n (l.map toS) k v (out.map toS) true (i : Int)) ((out ++ dropL ltI (l.drop i) k).map toS) := by
  intro e
  induction e with
  | zero =>
    intro i out hi ho
    rw [List.drop_eq_nil_of_le (by omega)]
    refine Ev.step (f := fun _ => some (out.map toS)) (fun n => ?_) (by simpa [dropL] using Ev.now _)
    simp only [saleroomref08_Put.l0, List.length_map]
    rw [if_neg (by omega), if_pos trivial]
  | succ e ih =>
    intro i out hi ho
    have hil : i < l.length := by omega
    have e1 : l.drop i = l[i] :: l.drop (i + 1) := (List.getElem_cons_drop ..).symm
    rw [e1]
    refine Ev.step (f := fun n => saleroomref08_Put.j1 n (l.map toS) k v (out.map toS) true (i : Int) false) (fun n => ?_) ?_
    · simp only [saleroomref08_Put.l0, List.length_map]
      rw [if_pos (by omega), if_pos trivial]
    by_cases hq : l[i].1 = k
    · have hg : dropL ltI (l[i] :: l.drop (i + 1)) k = dropL ltI (l.drop (i + 1)) k := by unfold dropL; rw [List.filter_cons, if_neg (by simp [ltI, hq])]
      rw [hg]
      refine Ev.step (f := fun n => saleroomref08_Put.l0 n (l.map toS) k v (out.map toS) true ((i + 1 : Nat) : Int)) (fun n => ?_) (ih (i + 1) out (by omega) (by omega))
      simp only [saleroomref08_Put.j1, List.length_map]
      rw [if_neg (by simp), if_pos (by omega), if_pos (by omega), rdS l hil, if_pos (by exact hq), wrap_succ (by omega)]
    · have hg : dropL ltI (l[i] :: l.drop (i + 1)) k = l[i] :: dropL ltI (l.drop (i + 1)) k := by
        unfold dropL
        rw [List.filter_cons, if_pos (by simp [ltI]; omega)]
      rw [hg, show out ++ l[i] :: dropL ltI (l.drop (i + 1)) k = out ++ [l[i]] ++ dropL ltI (l.drop (i + 1)) k from by simp]
      refine Ev.step (f := fun n => saleroomref08_Put.l0 n (l.map toS) k v ((out ++ [l[i]]).map toS) true ((i + 1 : Nat) : Int)) (fun n => ?_) (ih (i + 1) (out ++ [l[i]]) (by omega) (by simp; omega))
      simp only [saleroomref08_Put.j1, List.length_map]
      rw [if_neg (by simp), if_pos (by omega), if_pos (by omega), rdS l hil, if_neg (by exact hq), if_pos (by omega), wrap_succ (by omega), List.map_append]
      rfl
theorem put_ev (l : List (Int × Int)) (k v : Int) (hs : Sd ltI l) (hl : l.length ≤ 1099511627776) : Ev (fun n => saleroomref08_Put.f n (l.map toS) k v) ((putL ltI l k v).map toS) := by
  have key : ∀ e i (out : List (Int × Int)), i + e = l.length → out.length + e ≤ 1099511627776 → Ev (fun n => saleroomref08_Put.l0 n (l.map toS) k v (out.map toS) false (i : Int)) ((out ++ putL ltI (l.drop i) k v).map toS) := by
    intro e
    induction e with
    | zero =>
      intro i out hi ho
      rw [List.drop_eq_nil_of_le (by omega)]
      refine Ev.step (f := fun _ => some ((out ++ [(k, v)]).map toS)) (fun n => ?_) (by simpa [putL] using Ev.now _)
      simp only [saleroomref08_Put.l0, List.length_map]
      rw [if_neg (by omega), if_neg (by simp), if_pos (by omega), List.map_append]
      rfl
    | succ e ih =>
      intro i out hi ho
      have hil : i < l.length := by omega
      have e1 : l.drop i = l[i] :: l.drop (i + 1) := (List.getElem_cons_drop ..).symm
      have hsi : Sd ltI (l.drop i) := List.Pairwise.sublist (List.drop_sublist _ _) hs
      rw [e1] at hsi
      have hgt := (List.pairwise_cons.1 hsi).1
      rw [e1]
      refine Ev.step (f := fun n => saleroomref08_Put.j1 n (l.map toS) k v (out.map toS) false (i : Int) (decide (l[i].1 ≥ k))) (fun n => ?_) ?_
      · simp only [saleroomref08_Put.l0, List.length_map]
        rw [if_pos (by omega), if_neg (by simp), if_pos (by omega), rdS l hil]
        rfl
      by_cases hq : l[i].1 ≥ k
      · rw [decide_eq_true hq]
        have hall : dropL ltI (l.drop (i + 1)) k = l.drop (i + 1) := dropL_all (fun q hq2 => .inr (by have := hgt q hq2; simp [ltI] at this ⊢; omega))
        by_cases hk : l[i].1 = k
        · have hg : putL ltI (l[i] :: l.drop (i + 1)) k v = (k, v) :: l.drop (i + 1) := by rw [putL, if_neg (by simp [ltI]; omega), if_neg (by simp [ltI]; omega)]
          have h3 := put_done l k v hl e (i + 1) (out ++ [(k, v)]) (by omega) (by simp; omega)
          rw [hall, show out ++ [(k, v)] ++ l.drop (i + 1) = out ++ (k, v) :: l.drop (i + 1) from by simp] at h3
          rw [hg]
          refine Ev.step (f := fun n => saleroomref08_Put.l0 n (l.map toS) k v ((out ++ [(k, v)]).map toS) true ((i + 1 : Nat) : Int)) (fun n => ?_) h3
          simp only [saleroomref08_Put.j1, List.length_map, Option.bind_some]
          rw [if_pos (by simp), if_pos (by omega), if_pos (by omega), if_pos (by omega), rdS l hil, if_pos (by exact hk), wrap_succ (by omega), List.map_append]
          rfl
        · have hg : putL ltI (l[i] :: l.drop (i + 1)) k v = (k, v) :: l[i] :: l.drop (i + 1) := by rw [putL, if_pos (by simp [ltI]; omega)]
          have h3 := put_done l k v hl e (i + 1) (out ++ [(k, v)] ++ [l[i]]) (by omega) (by simp; omega)
          rw [hall, show out ++ [(k, v)] ++ [l[i]] ++ l.drop (i + 1) = out ++ (k, v) :: l[i] :: l.drop (i + 1) from by simp] at h3
          rw [hg]
          refine Ev.step (f := fun n => saleroomref08_Put.l0 n (l.map toS) k v ((out ++ [(k, v)] ++ [l[i]]).map toS) true ((i + 1 : Nat) : Int)) (fun n => ?_) h3
          simp only [saleroomref08_Put.j1, List.length_map, Option.bind_some]
          rw [if_pos (by simp), if_pos (by omega), if_pos (by omega), if_pos (by omega), rdS l hil, if_neg (by exact hk), if_pos (by simp; omega), wrap_succ (by omega), List.map_append, List.map_append]
          rfl
      · have hk3 : ¬ l[i].1 = k := by omega
        rw [decide_eq_false hq]
        have hg : putL ltI (l[i] :: l.drop (i + 1)) k v = l[i] :: putL ltI (l.drop (i + 1)) k v := by rw [putL, if_neg (by simp [ltI]; omega), if_pos (by simp [ltI]; omega)]
        rw [hg, show out ++ l[i] :: putL ltI (l.drop (i + 1)) k v = out ++ [l[i]] ++ putL ltI (l.drop (i + 1)) k v from by simp]
        refine Ev.step (f := fun n => saleroomref08_Put.l0 n (l.map toS) k v ((out ++ [l[i]]).map toS) false ((i + 1 : Nat) : Int)) (fun n => ?_) (ih (i + 1) (out ++ [l[i]]) (by omega) (by simp; omega))
        simp only [saleroomref08_Put.j1, List.length_map]
        rw [if_neg (by simp), if_pos (by omega), if_pos (by omega), rdS l hil, if_neg (by exact hk3), if_pos (by omega), wrap_succ (by omega), List.map_append]
        rfl
  have h2 : Ev (fun n => saleroomref08_Put.l0 n (l.map toS) k v [] false 0) ((putL ltI l k v).map toS) := by simpa using key l.length 0 [] (by omega) (by simp; omega)
  exact h2

end Go.Proofs.Ytgoomogpcfpekaa.TabR
