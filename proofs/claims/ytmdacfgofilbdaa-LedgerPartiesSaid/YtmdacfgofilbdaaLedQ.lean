/- ledger, in plain words: what a list of balances is told by; what all add up to. -/
import Derived.Test.YtmdacfgofilbdaaLed3
set_option linter.unusedSimpArgs false
set_option linter.unusedVariables false
namespace Go.Proofs.Ytmdacfgofilbdaa.Led
open Go.RowKit Go.Proofs.Ytmdacfgofilbdaa.TabL
open Go.Proofs.Ytmdacfgofilbdaa.TabB (ltI lin getV)

theorem getV_cons (p : Int × Int) (r : Bs) (a : Int) : getV (p :: r) a = if a = p.1 then p.2 else getV r a := by
  unfold getV
  rw [getL]
  by_cases h : a = p.1
  · subst h; simp [ltI]
  · have : (ltI p.1 a || ltI a p.1) = true := by unfold ltI; simp; omega
    rw [if_pos this, if_neg h]
theorem getV_above {xs : Bs} {a : Int} (h : ∀ q ∈ xs, a < q.1) : getV xs a = 0 := by
  induction xs with
  | nil => rfl
  | cons p r ih =>
    rw [getV_cons, if_neg (by have := h p (List.mem_cons_self ..); omega)]
    exact ih (fun q hq => h q (List.mem_cons_of_mem _ hq))
theorem Sd.head {p : Int × Int} {r : Bs} (h : Sd ltI (p :: r)) : ∀ q ∈ r, p.1 < q.1 := fun q hq => by
  have := (List.pairwise_cons.1 h).1 q hq
  simpa [ltI] using this
theorem Sd.tail {p : Int × Int} {r : Bs} (h : Sd ltI (p :: r)) : Sd ltI r := (List.pairwise_cons.1 h).2
theorem getV_mem {xs : Bs} (h : Sd ltI xs) : ∀ q ∈ xs, getV xs q.1 = q.2 := by
  induction xs with
  | nil => simp
  | cons p r ih =>
    intro q hq
    rw [getV_cons]
    rcases List.mem_cons.1 hq with rfl | hq
    · rw [if_pos rfl]
    · rw [if_neg (by have := Sd.head h q hq; omega)]
      exact ih (Sd.tail h) q hq
def NZ (xs : Bs) : Prop := ∀ q ∈ xs, q.2 ≠ 0
theorem sd_ext : ∀ {xs ys : Bs}, Sd ltI xs → Sd ltI ys → NZ xs → NZ ys → (∀ a, getV xs a = getV ys a) → xs = ys
  | [], [], _, _, _, _, _ => rfl
  | [], q :: s, _, _, _, h, e => by
    have := e q.1
    rw [getV_cons, if_pos rfl] at this
    exact absurd this.symm (h q (List.mem_cons_self ..))
  | p :: r, [], _, _, h, _, e => by
    have := e p.1
    rw [getV_cons, if_pos rfl] at this
    exact absurd this (h p (List.mem_cons_self ..))
  | p :: r, q :: s, h1, h2, n1, n2, e => by
    have hk : p.1 = q.1 := by
      rcases Int.lt_trichotomy p.1 q.1 with h | h | h
      · have := e p.1
        rw [getV_cons, if_pos rfl, getV_above (xs := q :: s) (fun x hx => by
          rcases List.mem_cons.1 hx with rfl | hx
          · exact h
          · have := Sd.head h2 x hx; omega)] at this
        exact absurd this (n1 p (List.mem_cons_self ..))
      · exact h
      · have := e q.1
        rw [getV_cons q, if_pos rfl, getV_above (xs := p :: r) (fun x hx => by
          rcases List.mem_cons.1 hx with rfl | hx
          · exact h
          · have := Sd.head h1 x hx; omega)] at this
        exact absurd this.symm (n2 q (List.mem_cons_self ..))
    have hv : p.2 = q.2 := by
      have := e p.1
      rw [getV_cons, if_pos rfl, getV_cons, if_pos hk] at this
      exact this
    have hr : r = s := sd_ext (Sd.tail h1) (Sd.tail h2) (fun x hx => n1 x (List.mem_cons_of_mem _ hx)) (fun x hx => n2 x (List.mem_cons_of_mem _ hx)) (fun a => by
      by_cases ha : a = p.1
      · rw [getV_above (xs := r) (fun x hx => by have := Sd.head h1 x hx; omega), getV_above (xs := s) (fun x hx => by have := Sd.head h2 x hx; omega)]
      · have := e a
        rw [getV_cons, if_neg ha, getV_cons, if_neg (by omega)] at this
        exact this)
    rw [hr]
    congr 1
    exact Prod.ext hk hv
theorem putL_mem' {xs : Bs} {k n : Int} {q : Int × Int} (h : q ∈ putL ltI xs k n) : q = (k, n) ∨ q ∈ xs := putL_mem h
theorem NZ.setL {xs : Bs} (h : NZ xs) (k n : Int) : NZ (setL xs k n) := by
  unfold Led.setL
  by_cases hn : n = 0
  · rw [if_pos hn]
    exact fun q hq => h q (List.mem_filter.1 hq).1
  · rw [if_neg hn]
    intro q hq
    rcases putL_mem hq with rfl | hq
    · exact hn
    · exact h q hq
theorem NZ.moveL {xs : Bs} (h : NZ xs) (m : Mv) : NZ (moveL xs m) := by
  unfold Led.moveL
  split
  · exact (h.setL _ _).setL _ _
  · exact h
theorem sumL_cons (p : Int × Int) (r : Bs) : sumL (p :: r) = p.2 + sumL r := by
  have key : ∀ (l : Bs) (s : Int), l.foldl (fun s q => s + q.2) s = s + l.foldl (fun s q => s + q.2) 0 := fun l => by
    induction l with
    | nil => intro s; simp
    | cons q l ih => intro s; rw [List.foldl_cons, List.foldl_cons, ih (s + q.2), ih (0 + q.2)]; omega
  unfold sumL
  rw [List.foldl_cons, key r (0 + p.2)]
  omega
theorem sumL_put {k n : Int} : ∀ {xs : Bs}, Sd ltI xs → sumL (putL ltI xs k n) = sumL xs - getV xs k + n
  | [], _ => by unfold putL; rw [sumL_cons]; unfold getV getL sumL; simp
  | p :: r, h => by
    unfold putL
    rcases Int.lt_trichotomy k p.1 with h1 | h1 | h1
    · rw [if_pos (by simpa [ltI] using h1), sumL_cons, getV_above (xs := p :: r) (fun x hx => by
        rcases List.mem_cons.1 hx with rfl | hx
        · exact h1
        · have := Sd.head h x hx; omega)]
      dsimp only
      omega
    · subst h1
      rw [if_neg (by simp [ltI]), if_neg (by simp [ltI]), sumL_cons, sumL_cons, getV_cons, if_pos rfl]
      dsimp only
      omega
    · rw [if_neg (by simp [ltI]; omega), if_pos (by simpa [ltI] using h1), sumL_cons, sumL_cons, sumL_put (Sd.tail h), getV_cons, if_neg (by omega)]
      omega
theorem dropL_above {r : Bs} {k : Int} (h : ∀ q ∈ r, k < q.1) : dropL ltI r k = r := dropL_all (fun q hq => .inr (by simpa [ltI] using h q hq))
theorem sumL_drop {k : Int} : ∀ {xs : Bs}, Sd ltI xs → sumL (dropL ltI xs k) = sumL xs - getV xs k
  | [], _ => by unfold dropL getV getL sumL; simp
  | p :: r, h => by
    have e : dropL ltI (p :: r) k = if (ltI p.1 k || ltI k p.1) = true then p :: dropL ltI r k else dropL ltI r k := by unfold dropL; rw [List.filter_cons]
    rw [e]
    by_cases hk : k = p.1
    · subst hk
      rw [if_neg (by simp [ltI]), dropL_above (Sd.head h), sumL_cons, getV_cons, if_pos rfl]
      omega
    · rw [if_pos (by simp [ltI]; omega), sumL_cons, sumL_cons, sumL_drop (Sd.tail h), getV_cons, if_neg hk]
      omega
theorem sumL_set {xs : Bs} (h : Sd ltI xs) (k n : Int) : sumL (setL xs k n) = sumL xs - getV xs k + n := by
  unfold setL
  by_cases hn : n = 0
  · rw [if_pos hn, sumL_drop h]; omega
  · rw [if_neg hn, sumL_put h]
theorem sumL_move {xs : Bs} (h : Sd ltI xs) (m : Mv) : sumL (moveL xs m) = sumL xs := by
  unfold moveL
  by_cases h0 : moveE (getV xs) m = 0
  · rw [if_pos h0]
    obtain ⟨_, _, hne, _⟩ := moveE_zero h0
    rw [sumL_set (setL_sd h _ _), sumL_set h, getV_setL, if_neg (Ne.symm hne)]
    omega
  · rw [if_neg h0]
theorem inB_of {xs : Bs} (h : Sd ltI xs) (hb : Bnd xs) : InB xs := fun q hq => by
  rw [← getV_mem h q hq]
  exact hb _
/-- a ledger that came of moves alone: rising, nothing of it 0, all of it 0 together -/
structure Clean (xs : Bs) : Prop where
  sd : Sd ltI xs
  nz : NZ xs
  sum : sumL xs = 0
theorem Clean.nil : Clean [] := ⟨List.Pairwise.nil, fun q hq => by simp at hq, rfl⟩
theorem Clean.move {xs : Bs} (h : Clean xs) (m : Mv) : Clean (moveL xs m) := ⟨moveL_sd h.sd m, h.nz.moveL m, by rw [sumL_move h.sd]; exact h.sum⟩
theorem Clean.ext {xs ys : Bs} (h : Clean xs) (k : Clean ys) (e : ∀ a, getV xs a = getV ys a) : xs = ys := sd_ext h.sd k.sd h.nz k.nz e

end Go.Proofs.Ytmdacfgofilbdaa.Led
