/- heaps as lists: plain lemmas, no program in sight. -/
namespace Go.Proofs.Ytbhpokcnkdgcmaa.HeapL

variable {E : Type}

/-- 'stands before': a strict order whose negation goes on -/
structure Ord (f : E → E → Bool) : Prop where
  asym : ∀ a b, f a b = true → f b a = false
  tr : ∀ a b c, f b a = false → f c b = false → f c a = false

/-- the thing at a place -/
def gt (z : E) (l : List E) (i : Nat) : E := l.getD i z
theorem gt_of_lt {z : E} {l : List E} {i : Nat} (h : i < l.length) : gt z l i = l[i] := by simp [gt, h]
theorem gt_append_left {z : E} {l r : List E} {i : Nat} (h : i < l.length) : gt z (l ++ r) i = gt z l i := by simp [gt, List.getElem?_append_left h]
theorem gt_append_last {z e : E} {l : List E} : gt z (l ++ [e]) l.length = e := by simp [gt]

/-- two change their places -/
def swp (z : E) (l : List E) (i k : Nat) : List E := (l.set i (gt z l k)).set k (gt z l i)
theorem swp_length (z : E) (l : List E) (i k : Nat) : (swp z l i k).length = l.length := by simp [swp]
theorem gt_set (z : E) (l : List E) (i j : Nat) (x : E) (hi : i < l.length) : gt z (l.set i x) j = if j = i then x else gt z l j := by
  unfold gt
  by_cases h : j = i
  · subst h; simp [hi]
  · simp [h, Ne.symm h]
theorem gt_swp (z : E) (l : List E) (i k j : Nat) (hi : i < l.length) (hk : k < l.length) : gt z (swp z l i k) j = if j = k then gt z l i else if j = i then gt z l k else gt z l j := by
  unfold swp
  rw [gt_set _ _ _ _ _ (by simpa using hk), gt_set _ _ _ _ _ hi]
theorem swp_perm (z : E) (l : List E) (i k : Nat) (hi : i < l.length) (hk : k < l.length) : (swp z l i k).Perm l := by
  have h := Array.swap_perm (xs := l.toArray) (i := i) (j := k) (by simpa using hi) (by simpa using hk)
  rw [Array.perm_iff_toList_perm] at h
  have e : (l.toArray.swap i k (by simpa using hi) (by simpa using hk)).toList = swp z l i k := by
    rw [Array.swap_def]
    simp [swp, gt, hi, hk]
  rw [e] at h
  exact h

variable (f : E → E → Bool) (z : E)

def le (a b : E) : Prop := f b a = false

def Heap (l : List E) : Prop := ∀ k, 0 < k → k < l.length → le f (gt z l ((k - 1) / 2)) (gt z l k)
def UpInv (l : List E) (i : Nat) : Prop :=
  i < l.length ∧ (∀ k, 0 < k → k < l.length → k ≠ i → le f (gt z l ((k - 1) / 2)) (gt z l k)) ∧
  (∀ k, 0 < k → k < l.length → (k - 1) / 2 = i → 0 < i → le f (gt z l ((i - 1) / 2)) (gt z l k))
def DownInv (l : List E) (i : Nat) : Prop :=
  (∀ k, 0 < k → k < l.length → (k - 1) / 2 ≠ i → le f (gt z l ((k - 1) / 2)) (gt z l k)) ∧
  (∀ k, 0 < k → k < l.length → (k - 1) / 2 = i → 0 < i → le f (gt z l ((i - 1) / 2)) (gt z l k))

variable {f z}
theorem le_refl (ho : Ord f) (a : E) : le f a a := by
  unfold le
  cases h : f a a
  · rfl
  · have := ho.asym a a h; rw [h] at this; cases this
theorem le_trans (ho : Ord f) {a b c : E} (h : le f a b) (k : le f b c) : le f a c := ho.tr a b c h k
theorem le_of (ho : Ord f) {a b : E} (h : f a b = true) : le f a b := ho.asym a b h

theorem up_start {l : List E} (h : Heap f z l) (e : E) : UpInv f z (l ++ [e]) l.length := by
  refine ⟨by simp, fun k h0 hk hne => ?_, fun k h0 hk he hi => ?_⟩
  · have hk' : k < l.length := by simp at hk; omega
    rw [gt_append_left hk', gt_append_left (by omega)]
    exact h k h0 hk'
  · simp at hk; omega
theorem up_zero {l : List E} (h : UpInv f z l 0) : Heap f z l := fun k h0 hk => h.2.1 k h0 hk (by omega)
theorem up_stop {l : List E} {i : Nat} (h : UpInv f z l i) (hf : f (gt z l i) (gt z l ((i - 1) / 2)) = false) : Heap f z l := fun k h0 hk => by
  by_cases e : k = i
  · subst e; exact hf
  · exact h.2.1 k h0 hk e
theorem up_step (ho : Ord f) {l : List E} {i : Nat} (h : UpInv f z l i) (hi : 0 < i) (hf : f (gt z l i) (gt z l ((i - 1) / 2)) = true) : UpInv f z (swp z l i ((i - 1) / 2)) ((i - 1) / 2) := by
  obtain ⟨hl, h1, h2⟩ := h
  have hp : (i - 1) / 2 < l.length := by omega
  generalize hpp : (i - 1) / 2 = p at *
  refine ⟨by rw [swp_length]; exact hp, fun k h0 hk hne => ?_, fun k h0 hk he hp0 => ?_⟩
  · rw [swp_length] at hk
    rw [gt_swp _ _ _ _ _ hl hp, gt_swp _ _ _ _ _ hl hp]
    by_cases e : k = i
    · subst e
      rw [hpp]
      simp [hne]
      exact le_of ho hf
    · simp [hne, e]
      by_cases e2 : (k - 1) / 2 = p
      · rw [if_pos e2]
        have a := h1 k h0 hk e
        rw [e2] at a
        exact le_trans ho (le_of ho hf) a
      · rw [if_neg e2]
        by_cases e3 : (k - 1) / 2 = i
        · rw [if_pos e3]
          have a := h2 k h0 hk e3 hi
          exact a
        · rw [if_neg e3]
          exact h1 k h0 hk e
  · rw [swp_length] at hk
    rw [gt_swp _ _ _ _ _ hl hp, gt_swp _ _ _ _ _ hl hp]
    have hpar := h1 p hp0 hp (by omega)
    rw [if_neg (by omega), if_neg (by omega)]
    rw [if_neg (by omega)]
    by_cases e : k = i
    · rw [if_pos e]; exact hpar
    · rw [if_neg e]
      have a := h1 k h0 hk e
      rw [he] at a
      exact le_trans ho hpar a

/-- the best of a place and the first j of the two below it -/
def best (f : E → E → Bool) (z : E) (l : List E) (i : Nat) : Nat → Nat
  | 0 => i
  | j + 1 => if 2 * i + 1 + j < l.length ∧ f (gt z l (2 * i + 1 + j)) (gt z l (best f z l i j)) = true then 2 * i + 1 + j else best f z l i j
theorem best_lt {l : List E} {i : Nat} (hi : i < l.length) : ∀ j, best f z l i j < l.length
  | 0 => hi
  | j + 1 => by
    unfold best
    split
    · rename_i h; exact h.1
    · exact best_lt hi j
theorem best_out {l : List E} {i j : Nat} (h : l.length ≤ 2 * i + 1 + j) : ∀ d, best f z l i (j + d) = best f z l i j
  | 0 => rfl
  | d + 1 => by
    have e : best f z l i (j + d + 1) = if 2 * i + 1 + (j + d) < l.length ∧ f (gt z l (2 * i + 1 + (j + d))) (gt z l (best f z l i (j + d))) = true then 2 * i + 1 + (j + d) else best f z l i (j + d) := rfl
    show best f z l i (j + d + 1) = _
    rw [e, if_neg (by omega)]
    exact best_out h d
theorem best_cases {l : List E} {i : Nat} : ∀ j, best f z l i j = i ∨ ∃ m, m < j ∧ best f z l i j = 2 * i + 1 + m
  | 0 => .inl rfl
  | j + 1 => by
    unfold best
    split
    · exact .inr ⟨j, by omega, rfl⟩
    · rcases best_cases j with h | ⟨m, hm, h⟩
      · exact .inl h
      · exact .inr ⟨m, by omega, h⟩
theorem best_le (ho : Ord f) {l : List E} {i : Nat} : ∀ j, le f (gt z l (best f z l i j)) (gt z l i) ∧ ∀ m, m < j → 2 * i + 1 + m < l.length → le f (gt z l (best f z l i j)) (gt z l (2 * i + 1 + m))
  | 0 => ⟨le_refl ho _, fun m hm => by omega⟩
  | j + 1 => by
    obtain ⟨h1, h2⟩ := best_le ho (l := l) (i := i) j
    unfold best
    split
    · rename_i h
      have hb := le_of ho h.2
      refine ⟨le_trans ho hb h1, fun m hm hl => ?_⟩
      by_cases e : m = j
      · subst e; exact le_refl ho _
      · exact le_trans ho hb (h2 m (by omega) hl)
    · rename_i h
      refine ⟨h1, fun m hm hl => ?_⟩
      by_cases e : m = j
      · subst e
        unfold le
        cases hq : f (gt z l (2 * i + 1 + m)) (gt z l (best f z l i m))
        · rfl
        · exact absurd ⟨hl, hq⟩ h
      · exact h2 m (by omega) hl
theorem best_strict (ho : Ord f) {l : List E} {i : Nat} : ∀ j, best f z l i j ≠ i → f (gt z l (best f z l i j)) (gt z l i) = true
  | 0 => fun h => absurd rfl h
  | j + 1 => by
    have hle := (best_le ho (l := l) (i := i) (z := z) j).1
    unfold best
    split
    · rename_i h
      intro _
      by_cases e : best f z l i j = i
      · rw [e] at h; exact h.2
      · have hs := best_strict ho (l := l) (i := i) j e
        cases hq : f (gt z l (2 * i + 1 + j)) (gt z l i)
        · have := ho.tr _ _ _ (le_of ho hs) hq
          have h3 := ho.tr (gt z l (best f z l i j)) (gt z l i) (gt z l (2 * i + 1 + j)) (le_of ho hs) hq
          rw [h.2] at h3; cases h3
        · rfl
    · exact best_strict ho j

theorem down_stop (ho : Ord f) {l : List E} {i : Nat} (h : DownInv f z l i) (hb : best f z l i 2 = i) : Heap f z l := fun k h0 hk => by
  by_cases e : (k - 1) / 2 = i
  · have a := (best_le ho (l := l) (i := i) (z := z) 2).2 (k - (2 * i + 1)) (by omega) (by omega)
    rw [hb, show 2 * i + 1 + (k - (2 * i + 1)) = k from by omega] at a
    rw [e]
    exact a
  · exact h.1 k h0 hk e
theorem down_step (ho : Ord f) {l : List E} {i : Nat} (hi : i < l.length) (h : DownInv f z l i) (hb : best f z l i 2 ≠ i) : DownInv f z (swp z l i (best f z l i 2)) (best f z l i 2) := by
  have hlt := best_lt (f := f) (z := z) hi 2
  have hle := best_le ho (l := l) (i := i) (z := z) 2
  have hst := best_strict ho (l := l) (i := i) (z := z) 2 hb
  have hc : (best f z l i 2 - 1) / 2 = i ∧ 0 < best f z l i 2 := by
    rcases best_cases (f := f) (z := z) (l := l) (i := i) 2 with e | ⟨m, hm, e⟩
    · exact absurd e hb
    · rw [e]; omega
  generalize best f z l i 2 = b at *
  obtain ⟨hcp, hb0⟩ := hc
  refine ⟨fun k h0 hk hne => ?_, fun k h0 hk he hbp => ?_⟩
  · rw [swp_length] at hk
    rw [gt_swp _ _ _ _ _ hi hlt, gt_swp _ _ _ _ _ hi hlt]
    rw [if_neg hne]
    by_cases e : k = b
    · subst e
      rw [if_pos rfl, if_pos hcp]
      exact le_of ho hst
    · rw [if_neg e]
      by_cases e2 : (k - 1) / 2 = i
      · rw [if_pos e2, if_neg (by omega)]
        have a := hle.2 (k - (2 * i + 1)) (by omega) (by omega)
        rw [show 2 * i + 1 + (k - (2 * i + 1)) = k from by omega] at a
        exact a
      · rw [if_neg e2]
        by_cases e3 : k = i
        · rw [if_pos e3]
          have a := h.2 b hb0 hlt hcp (by omega)
          rw [e3]
          exact a
        · rw [if_neg e3]
          exact h.1 k h0 hk e2
  · rw [swp_length] at hk
    rw [gt_swp _ _ _ _ _ hi hlt, gt_swp _ _ _ _ _ hi hlt]
    rw [if_neg (by omega), hcp, if_pos rfl, if_neg (by omega), if_neg (by omega)]
    have a := h.1 k h0 hk (by omega)
    rw [he] at a
    exact a
theorem heap_min (ho : Ord f) {l : List E} (h : Heap f z l) : ∀ k, k < l.length → le f (gt z l 0) (gt z l k) := fun k => by
  induction k using Nat.strongRecOn with
  | _ k ih =>
    intro hk
    by_cases e : k = 0
    · subst e; exact le_refl ho _
    · exact le_trans ho (ih ((k - 1) / 2) (by omega) (by omega)) (h k (by omega) hk)
theorem heap_nil : Heap f z ([] : List E) := fun k _ hk => by simp at hk

end Go.Proofs.Ytbhpokcnkdgcmaa.HeapL
