/- HeapL, HeapM1, laid together. -/
import Derived.Test.YtbhpokcnkdgcmaaGr01
import Derived.Test.YtbhpokcnkdgcmaaRows
import Derived.Deep.RegionHeld3
import Derived.WalkSpells
import Derived.WalkLawsBesides

/- heaps as lists: plain lemmas, no program in sight. -/
namespace Go.Proofs.Ytbhpokcnkdgcmaa.HeapL

variable {E : Type}

/-- 'stands before': a strict order whose negation goes on -/
structure Ord (f : E → E → Bool) : Prop where
  asym : ∀ a b, f a b = true → f b a = false
  tr : ∀ a b c, f b a = false → f c b = false → f c a = false

/-- the thing at a place -/
def gt (z : E) (l : List E) (i : Nat) : E := l.getD i z
theorem gt_of_lt {z : E} {l : List E} {i : Nat} (h : i < l.length) : gt z l i = l[i] := by simp [gt, h]
theorem gt_append_left {z : E} {l r : List E} {i : Nat} (h : i < l.length) : gt z (l ++ r) i = gt z l i := by simp [gt, List.getElem?_append_left h]
/-- two change their places -/
def swp (z : E) (l : List E) (i k : Nat) : List E := (l.set i (gt z l k)).set k (gt z l i)
theorem swp_length (z : E) (l : List E) (i k : Nat) : (swp z l i k).length = l.length := by simp [swp]
theorem gt_set (z : E) (l : List E) (i j : Nat) (x : E) (hi : i < l.length) : gt z (l.set i x) j = if j = i then x else gt z l j := by
  unfold gt
  by_cases h : j = i
  · subst h; simp [hi]
  · simp [h, Ne.symm h]
theorem gt_swp (z : E) (l : List E) (i k j : Nat) (hi : i < l.length) (hk : k < l.length) : gt z (swp z l i k) j = if j = k then gt z l i else if j = i then gt z l k else gt z l j := by
  unfold swp
  rw [gt_set _ _ _ _ _ (by simpa using hk), gt_set _ _ _ _ _ hi]
theorem swp_perm (z : E) (l : List E) (i k : Nat) (hi : i < l.length) (hk : k < l.length) : (swp z l i k).Perm l := by
  have h := Array.swap_perm (xs := l.toArray) (i := i) (j := k) (by simpa using hi) (by simpa using hk)
  rw [Array.perm_iff_toList_perm] at h
  have e : (l.toArray.swap i k (by simpa using hi) (by simpa using hk)).toList = swp z l i k := by
    rw [Array.swap_def]
    simp [swp, gt, hi, hk]
  rw [e] at h
  exact h

variable (f : E → E → Bool) (z : E)

def le (a b : E) : Prop := f b a = false

def Heap (l : List E) : Prop := ∀ k, 0 < k → k < l.length → le f (gt z l ((k - 1) / 2)) (gt z l k)
def UpInv (l : List E) (i : Nat) : Prop :=
  i < l.length ∧ (∀ k, 0 < k → k < l.length → k ≠ i → le f (gt z l ((k - 1) / 2)) (gt z l k)) ∧
  (∀ k, 0 < k → k < l.length → (k - 1) / 2 = i → 0 < i → le f (gt z l ((i - 1) / 2)) (gt z l k))
def DownInv (l : List E) (i : Nat) : Prop :=
  (∀ k, 0 < k → k < l.length → (k - 1) / 2 ≠ i → le f (gt z l ((k - 1) / 2)) (gt z l k)) ∧
  (∀ k, 0 < k → k < l.length → (k - 1) / 2 = i → 0 < i → le f (gt z l ((i - 1) / 2)) (gt z l k))

variable {f z}
theorem le_refl (ho : Ord f) (a : E) : le f a a := by
  unfold le
  cases h : f a a
  · rfl
  · have := ho.asym a a h; rw [h] at this; cases this
theorem le_trans (ho : Ord f) {a b c : E} (h : le f a b) (k : le f b c) : le f a c := ho.tr a b c h k
theorem le_of (ho : Ord f) {a b : E} (h : f a b = true) : le f a b := ho.asym a b h

theorem up_start {l : List E} (h : Heap f z l) (e : E) : UpInv f z (l ++ [e]) l.length := by
  refine ⟨by simp, fun k h0 hk hne => ?_, fun k h0 hk he hi => ?_⟩
  · have hk' : k < l.length := by simp at hk; omega
    rw [gt_append_left hk', gt_append_left (by omega)]
    exact h k h0 hk'
  · simp at hk; omega
theorem up_zero {l : List E} (h : UpInv f z l 0) : Heap f z l := fun k h0 hk => h.2.1 k h0 hk (by omega)
theorem up_stop {l : List E} {i : Nat} (h : UpInv f z l i) (hf : f (gt z l i) (gt z l ((i - 1) / 2)) = false) : Heap f z l := fun k h0 hk => by
  by_cases e : k = i
  · subst e; exact hf
  · exact h.2.1 k h0 hk e
theorem up_step (ho : Ord f) {l : List E} {i : Nat} (h : UpInv f z l i) (hi : 0 < i) (hf : f (gt z l i) (gt z l ((i - 1) / 2)) = true) : UpInv f z (swp z l i ((i - 1) / 2)) ((i - 1) / 2) := by
  obtain ⟨hl, h1, h2⟩ := h
  have hp : (i - 1) / 2 < l.length := by omega
  generalize hpp : (i - 1) / 2 = p at *
  refine ⟨by rw [swp_length]; exact hp, fun k h0 hk hne => ?_, fun k h0 hk he hp0 => ?_⟩
  · rw [swp_length] at hk
    rw [gt_swp _ _ _ _ _ hl hp, gt_swp _ _ _ _ _ hl hp]
    by_cases e : k = i
    · subst e
      rw [hpp]
      simp [hne]
      exact le_of ho hf
    · simp [hne, e]
      by_cases e2 : (k - 1) / 2 = p
      · rw [if_pos e2]
        have a := h1 k h0 hk e
        rw [e2] at a
        exact le_trans ho (le_of ho hf) a
      · rw [if_neg e2]
        by_cases e3 : (k - 1) / 2 = i
        · rw [if_pos e3]
          have a := h2 k h0 hk e3 hi
          exact a
        · rw [if_neg e3]
          exact h1 k h0 hk e
  · rw [swp_length] at hk
    rw [gt_swp _ _ _ _ _ hl hp, gt_swp _ _ _ _ _ hl hp]
    have hpar := h1 p hp0 hp (by omega)
    rw [if_neg (by omega), if_neg (by omega)]
    rw [if_neg (by omega)]
    by_cases e : k = i
    · rw [if_pos e]; exact hpar
    · rw [if_neg e]
      have a := h1 k h0 hk e
      rw [he] at a
      exact le_trans ho hpar a

/-- the best of a place and the first j of the two below it -/
def best (f : E → E → Bool) (z : E) (l : List E) (i : Nat) : Nat → Nat
  | 0 => i
  | j + 1 => if 2 * i + 1 + j < l.length ∧ f (gt z l (2 * i + 1 + j)) (gt z l (best f z l i j)) = true then 2 * i + 1 + j else best f z l i j
theorem best_lt {l : List E} {i : Nat} (hi : i < l.length) : ∀ j, best f z l i j < l.length
  | 0 => hi
  | j + 1 => by
    unfold best
    split
    · rename_i h; exact h.1
    · exact best_lt hi j
theorem best_out {l : List E} {i j : Nat} (h : l.length ≤ 2 * i + 1 + j) : ∀ d, best f z l i (j + d) = best f z l i j
  | 0 => rfl
  | d + 1 => by
    have e : best f z l i (j + d + 1) = if 2 * i + 1 + (j + d) < l.length ∧ f (gt z l (2 * i + 1 + (j + d))) (gt z l (best f z l i (j + d))) = true then 2 * i + 1 + (j + d) else best f z l i (j + d) := rfl
    show best f z l i (j + d + 1) = _
    rw [e, if_neg (by omega)]
    exact best_out h d
theorem best_cases {l : List E} {i : Nat} : ∀ j, best f z l i j = i ∨ ∃ m, m < j ∧ best f z l i j = 2 * i + 1 + m
  | 0 => .inl rfl
  | j + 1 => by
    unfold best
    split
    · exact .inr ⟨j, by omega, rfl⟩
    · rcases best_cases j with h | ⟨m, hm, h⟩
      · exact .inl h
      · exact .inr ⟨m, by omega, h⟩
theorem best_le (ho : Ord f) {l : List E} {i : Nat} : ∀ j, le f (gt z l (best f z l i j)) (gt z l i) ∧ ∀ m, m < j → 2 * i + 1 + m < l.length → le f (gt z l (best f z l i j)) (gt z l (2 * i + 1 + m))
  | 0 => ⟨le_refl ho _, fun m hm => by omega⟩
  | j + 1 => by
    obtain ⟨h1, h2⟩ := best_le ho (l := l) (i := i) j
    unfold best
    split
    · rename_i h
      have hb := le_of ho h.2
      refine ⟨le_trans ho hb h1, fun m hm hl => ?_⟩
      by_cases e : m = j
      · subst e; exact le_refl ho _
      · exact le_trans ho hb (h2 m (by omega) hl)
    · rename_i h
      refine ⟨h1, fun m hm hl => ?_⟩
      by_cases e : m = j
      · subst e
        unfold le
        cases hq : f (gt z l (2 * i + 1 + m)) (gt z l (best f z l i m))
        · rfl
        · exact absurd ⟨hl, hq⟩ h
      · exact h2 m (by omega) hl
theorem best_strict (ho : Ord f) {l : List E} {i : Nat} : ∀ j, best f z l i j ≠ i → f (gt z l (best f z l i j)) (gt z l i) = true
  | 0 => fun h => absurd rfl h
  | j + 1 => by
    have hle := (best_le ho (l := l) (i := i) (z := z) j).1
    unfold best
    split
    · rename_i h
      intro _
      by_cases e : best f z l i j = i
      · rw [e] at h; exact h.2
      · have hs := best_strict ho (l := l) (i := i) j e
        cases hq : f (gt z l (2 * i + 1 + j)) (gt z l i)
        · have := ho.tr _ _ _ (le_of ho hs) hq
          have h3 := ho.tr (gt z l (best f z l i j)) (gt z l i) (gt z l (2 * i + 1 + j)) (le_of ho hs) hq
          rw [h.2] at h3; cases h3
        · rfl
    · exact best_strict ho j

theorem down_stop (ho : Ord f) {l : List E} {i : Nat} (h : DownInv f z l i) (hb : best f z l i 2 = i) : Heap f z l := fun k h0 hk => by
  by_cases e : (k - 1) / 2 = i
  · have a := (best_le ho (l := l) (i := i) (z := z) 2).2 (k - (2 * i + 1)) (by omega) (by omega)
    rw [hb, show 2 * i + 1 + (k - (2 * i + 1)) = k from by omega] at a
    rw [e]
    exact a
  · exact h.1 k h0 hk e
theorem down_step (ho : Ord f) {l : List E} {i : Nat} (hi : i < l.length) (h : DownInv f z l i) (hb : best f z l i 2 ≠ i) : DownInv f z (swp z l i (best f z l i 2)) (best f z l i 2) := by
  have hlt := best_lt (f := f) (z := z) hi 2
  have hle := best_le ho (l := l) (i := i) (z := z) 2
  have hst := best_strict ho (l := l) (i := i) (z := z) 2 hb
  have hc : (best f z l i 2 - 1) / 2 = i ∧ 0 < best f z l i 2 := by
    rcases best_cases (f := f) (z := z) (l := l) (i := i) 2 with e | ⟨m, hm, e⟩
    · exact absurd e hb
    · rw [e]; omega
  generalize best f z l i 2 = b at *
  obtain ⟨hcp, hb0⟩ := hc
  refine ⟨fun k h0 hk hne => ?_, fun k h0 hk he hbp => ?_⟩
  · rw [swp_length] at hk
    rw [gt_swp _ _ _ _ _ hi hlt, gt_swp _ _ _ _ _ hi hlt]
    rw [if_neg hne]
    by_cases e : k = b
    · subst e
      rw [if_pos rfl, if_pos hcp]
      exact le_of ho hst
    · rw [if_neg e]
      by_cases e2 : (k - 1) / 2 = i
      · rw [if_pos e2, if_neg (by omega)]
        have a := hle.2 (k - (2 * i + 1)) (by omega) (by omega)
        rw [show 2 * i + 1 + (k - (2 * i + 1)) = k from by omega] at a
        exact a
      · rw [if_neg e2]
        by_cases e3 : k = i
        · rw [if_pos e3]
          have a := h.2 b hb0 hlt hcp (by omega)
          rw [e3]
          exact a
        · rw [if_neg e3]
          exact h.1 k h0 hk e2
  · rw [swp_length] at hk
    rw [gt_swp _ _ _ _ _ hi hlt, gt_swp _ _ _ _ _ hi hlt]
    rw [if_neg (by omega), hcp, if_pos rfl, if_neg (by omega), if_neg (by omega)]
    have a := h.1 k h0 hk (by omega)
    rw [he] at a
    exact a
theorem heap_min (ho : Ord f) {l : List E} (h : Heap f z l) : ∀ k, k < l.length → le f (gt z l 0) (gt z l k) := fun k => by
  induction k using Nat.strongRecOn with
  | _ k ih =>
    intro hk
    by_cases e : k = 0
    · subst e; exact le_refl ho _
    · exact le_trans ho (ih ((k - 1) / 2) (by omega) (by omega)) (h k (by omega) hk)
theorem heap_nil : Heap f z ([] : List E) := fun k _ hk => by simp at hk

end Go.Proofs.Ytbhpokcnkdgcmaa.HeapL

/- heap M: the memory of a heap; which of two stands first. -/
set_option linter.unusedSimpArgs false
set_option linter.unusedVariables false
namespace Go.Proofs.Ytbhpokcnkdgcmaa.HeapM
open Go.RowKit Go.Proofs.Ytbhpokcnkdgcmaa.HeapL

abbrev El := (Int × Int × Int × Option Addr × Nat × Nat) × Nat
def zE : El := (((0, 0, 0, none, 0, 0) : Int × Int × Int × Option Addr × Nat × Nat), 0)
def ev (x : (Int × Int × Int × Option Addr × Nat × Nat)) : Value := .agg #[.int .i64 x.1, .int .i64 x.2.1, .int .i64 x.2.2.1, .slice x.2.2.2.1 x.2.2.2.2.1 x.2.2.2.2.2]
def ec (e : El) : List Value := [.int .i64 e.1.1, .int .i64 e.1.2.1, .int .i64 e.1.2.2.1, .slice e.1.2.2.2.1 e.1.2.2.2.2.1 e.1.2.2.2.2.2, .int .i64 e.2]
theorem ec_length (e : El) : (ec e).length = 5 := rfl

/-- which of two entries stands first -/
def fst (lt : (Int × Int × Int × Option Addr × Nat × Nat) → (Int × Int × Int × Option Addr × Nat × Nat) → Bool) (a b : El) : Bool := lt a.1 b.1 || (!lt b.1 a.1 && decide (a.2 < b.2))

/-- the memory of a heap: the object at p, the row of its entries -/
def HM (W : World) (base p : Nat) (bf : Value) (es : List El) (T : Nat) : Prop :=
  base ≤ p ∧ ∃ v, Blk W p 158 [bf, v, .int .i64 (T : Int)] ∧ W.ownsRow base 160 5 v es.length (cellsOf ec es)

/-- the function that compares, at any later world -/
def BF (lt : (Int × Int × Int × Option Addr × Nat × Nat) → (Int × Int × Int × Option Addr × Nat × Nat) → Bool) (base p : Nat) (W : World) (F : Nat) (lb : Array Value) : Prop :=
  (∀ args w, (callFunc F args).run Try.prog w = .ok (.enter F args) w) ∧ ∀ x y W', FrC base p 160 W W' → Calls Try.prog F (#[ev x, ev y] ++ lb) W' fun e w' => e = .returned (.bool (lt x y)) ∧ Below W'.heap.size W' w'
theorem BF.stepC {lt : (Int × Int × Int × Option Addr × Nat × Nat) → (Int × Int × Int × Option Addr × Nat × Nat) → Bool} {base p : Nat} {W W1 : World} {F : Nat} {lb : Array Value} (h : BF lt base p W F lb) (hf : FrC base p 160 W W1) : BF lt base p W1 F lb :=
  ⟨h.1, fun x y W' h' => h.2 x y W' (hf.trans h')⟩
theorem BF.step {lt : (Int × Int × Int × Option Addr × Nat × Nat) → (Int × Int × Int × Option Addr × Nat × Nat) → Bool} {base p : Nat} {W W1 : World} {F : Nat} {lb : Array Value} (h : BF lt base p W F lb) (hf : Fr base p 160 W W1) : BF lt base p W1 F lb :=
  h.stepC hf.c

theorem HM.row {W : World} {base p : Nat} {bf : Value} {es : List El} {T : Nat} (h : HM W base p bf es T) (hn : 0 < es.length) :
    ∃ g cap, base ≤ g ∧ g < W.heap.size ∧ g ≠ p ∧ es.length ≤ cap ∧ cap ≤ maxLen ∧ Blk W p 158 [bf, .slice (some ⟨g, 0, none⟩) es.length cap, .int .i64 (T : Int)] ∧ W.ownsRow base 160 5 (.slice (some ⟨g, 0, none⟩) es.length cap) es.length (cellsOf ec es) ∧ ∃ cs, W.heap[g]? = some (.cells cs 160 (0, 0)) := by
  obtain ⟨_, v, hb, ho⟩ := h
  have ho2 := ho
  obtain ⟨_, h2⟩ := ho2
  rcases h2 with ⟨_, h0⟩ | ⟨g, cap, cur, rfl, hg, hgg, hc, hm, _, _⟩
  · omega
  · refine ⟨g, cap, hg, (Array.getElem?_eq_some_iff.1 hgg).1, fun e => ?_, hc, hm, hb, ho, cur, hgg⟩
    subst e
    unfold Blk at hb
    rw [hb] at hgg
    simp at hgg
theorem own_at {W : World} {base g n cap : Nat} {es : List El} (h : W.ownsRow base 160 5 (.slice (some ⟨g, 0, none⟩) n cap) n (cellsOf ec es)) (i j : Nat) (hi : i < n) (hj : j < 5) : W.cell? ⟨g, i * 5 + j, none⟩ = (ec (gt zE es i))[j]? := by
  have hl : n = es.length := by
    have := h.1
    rw [cellsOf_length ec_length] at this
    omega
  rw [h.cellAt (i * 5 + j) (by omega), cellsOf_at ec_length es zE (by omega) hj]
  rfl

theorem bel_alloc2 (W : World) (o1 o2 : Obj) : Below W.heap.size W ((W.alloc o1).alloc o2) := ((Below.refl _ W).alloc (Nat.le_refl _) _).alloc (by simp) _

set_option maxRecDepth 100000 in
set_option maxHeartbeats 4000000 in
/-- which of two stands first -/
theorem first_any (lt : (Int × Int × Int × Option Addr × Nat × Nat) → (Int × Int × Int × Option Addr × Nat × Nat) → Bool) (W : World) (base p F : Nat) (lb : Array Value) (es : List El) (T : Nat) (i k : Nat) (hi : i < es.length) (hk : k < es.length)
    (hbs : base ≤ W.heap.size) (hM : HM W base p (.func (.func F) #[] lb) es T) (hB : BF lt base p W F lb) :
    Calls Try.prog 127 #[.pointer (some ⟨p, 0, none⟩), .int .i64 (i : Int), .int .i64 (k : Int)] W fun e w' => e = .returned (.bool (fst lt (gt zE es i) (gt zE es k))) ∧ Below W.heap.size W w' := by
  obtain ⟨g, cap, hbg, hgl, hgp, hlc, hcm, hP, hR, _⟩ := hM.row (by omega)
  have c0 := hP.cell (i := 0) rfl
  have c1 := hP.cell (i := 1) rfl
  obtain ⟨⟨⟨k1, v1, li1, sA1, sn1, sc1⟩, t1⟩, h1⟩ : ∃ q, gt zE es i = q := ⟨_, rfl⟩
  obtain ⟨⟨⟨k2, v2, li2, sA2, sn2, sc2⟩, t2⟩, h2⟩ : ∃ q, gt zE es k = q := ⟨_, rfl⟩
  have a1 : ∀ j, j < 5 → W.cell? ⟨g, i * 5 + j, none⟩ = (ec ((k1, v1, li1, sA1, sn1, sc1), t1))[j]? := fun j hj => by rw [own_at hR i j hi hj, h1]
  have a2 : ∀ j, j < 5 → W.cell? ⟨g, k * 5 + j, none⟩ = (ec ((k2, v2, li2, sA2, sn2, sc2), t2))[j]? := fun j hj => by rw [own_at hR k j hk hj, h2]
  rw [h1, h2]
  obtain ⟨r12, l12⟩ : ∃ r, lt (k1, v1, li1, sA1, sn1, sc1) (k2, v2, li2, sA2, sn2, sc2) = r := ⟨_, rfl⟩
  obtain ⟨r21, l21⟩ : ∃ r, lt (k2, v2, li2, sA2, sn2, sc2) (k1, v1, li1, sA1, sn1, sc1) = r := ⟨_, rfl⟩
  have hfin : fst lt ((k1, v1, li1, sA1, sn1, sc1), t1) ((k2, v2, li2, sA2, sn2, sc2), t2) = (r12 || (!r21 && decide (t1 < t2))) := by unfold fst; rw [l12, l21]
  have H12 := Lib.hid l12; clear l12
  have H21 := Lib.hid l21; clear l21
  have HFIN := Lib.hid hfin; clear hfin
  have q1 : W.cell? ⟨g, i * 5, none⟩ = some (.int .i64 k1) ∧ W.cell? ⟨g, i * 5 + 1, none⟩ = some (.int .i64 v1) ∧ W.cell? ⟨g, i * 5 + 2, none⟩ = some (.int .i64 li1) ∧ W.cell? ⟨g, i * 5 + 3, none⟩ = some (.slice sA1 sn1 sc1) ∧ W.cell? ⟨g, i * 5 + 4, none⟩ = some (.int .i64 (t1 : Int)) := ⟨a1 0 (by decide), a1 1 (by decide), a1 2 (by decide), a1 3 (by decide), a1 4 (by decide)⟩
  have q2 : W.cell? ⟨g, k * 5, none⟩ = some (.int .i64 k2) ∧ W.cell? ⟨g, k * 5 + 1, none⟩ = some (.int .i64 v2) ∧ W.cell? ⟨g, k * 5 + 2, none⟩ = some (.int .i64 li2) ∧ W.cell? ⟨g, k * 5 + 3, none⟩ = some (.slice sA2 sn2 sc2) ∧ W.cell? ⟨g, k * 5 + 4, none⟩ = some (.int .i64 (t2 : Int)) := ⟨a2 0 (by decide), a2 1 (by decide), a2 2 (by decide), a2 3 (by decide), a2 4 (by decide)⟩
  have ib0 : (0 : Int) ≤ (i : Int) := Int.natCast_nonneg _
  have kb0 : (0 : Int) ≤ (k : Int) := Int.natCast_nonneg _
  have ib1 : (i : Int) < (es.length : Int) := by omega
  have kb1 : (k : Int) < (es.length : Int) := by omega
  clear a1 a2
  go_enter Try.func127, Try.ntmps127
  go_wp2_with fail
  go_region_held3 (fun w' => w'.cell? ⟨p, 0, none⟩ = some (.func (.func F) #[] lb) ∧ w'.cell? ⟨p, 1, none⟩ = some (.slice (some ⟨g, 0, none⟩) es.length cap) ∧ (w'.cell? ⟨g, i * 5, none⟩ = some (.int .i64 k1) ∧ w'.cell? ⟨g, i * 5 + 1, none⟩ = some (.int .i64 v1) ∧ w'.cell? ⟨g, i * 5 + 2, none⟩ = some (.int .i64 li1) ∧ w'.cell? ⟨g, i * 5 + 3, none⟩ = some (.slice sA1 sn1 sc1) ∧ w'.cell? ⟨g, i * 5 + 4, none⟩ = some (.int .i64 (t1 : Int))) ∧ (w'.cell? ⟨g, k * 5, none⟩ = some (.int .i64 k2) ∧ w'.cell? ⟨g, k * 5 + 1, none⟩ = some (.int .i64 v2) ∧ w'.cell? ⟨g, k * 5 + 2, none⟩ = some (.int .i64 li2) ∧ w'.cell? ⟨g, k * 5 + 3, none⟩ = some (.slice sA2 sn2 sc2) ∧ w'.cell? ⟨g, k * 5 + 4, none⟩ = some (.int .i64 (t2 : Int)))) (go_keep) (fail)
  · go_wp2_with fail
    obtain ⟨W2, hW2⟩ : ∃ W2, (((W.alloc (.cells #[.int .i64 k1, .int .i64 v1, .int .i64 li1, .slice sA1 sn1 sc1, .int .i64 (t1 : Int)] 160)).alloc (.cells #[.int .i64 k2, .int .i64 v2, .int .i64 li2, .slice sA2 sn2 sc2, .int .i64 (t2 : Int)] 160)).drew) = W2 := ⟨_, rfl⟩
    have hb2 : Below W.heap.size W W2 := by rw [← hW2]; exact (bel_alloc2 W _ _).drew
    have d0 : W2.cell? ⟨p, 0, none⟩ = some (.func (.func F) #[] lb) := by rw [hb2.cell (p := ⟨p, 0, none⟩) hP.lt]; exact c0
    have n1 : Blk W2 W.heap.size 160 [.int .i64 k1, .int .i64 v1, .int .i64 li1, .slice sA1 sn1 sc1, .int .i64 (t1 : Int)] := by rw [← hW2]; exact ((Blk.new W [.int .i64 k1, .int .i64 v1, .int .i64 li1, .slice sA1 sn1 sc1, .int .i64 (t1 : Int)] 160).alloc _).drew
    have n2 : Blk W2 (W.heap.size + 1) 160 [.int .i64 k2, .int .i64 v2, .int .i64 li2, .slice sA2 sn2 sc2, .int .i64 (t2 : Int)] := by rw [← hW2]; have := (Blk.new (W.alloc (.cells #[.int .i64 k1, .int .i64 v1, .int .i64 li1, .slice sA1 sn1 sc1, .int .i64 (t1 : Int)] 160)) [.int .i64 k2, .int .i64 v2, .int .i64 li2, .slice sA2 sn2 sc2, .int .i64 (t2 : Int)] 160).drew; rw [World.size_alloc] at this; exact this
    rw [hW2]
    clear hW2
    have hs2 := hb2.size
    have hz2 : W.heap.size + 1 < W2.heap.size := n2.lt
    have e1 : W2.cell? ⟨W.heap.size, 0, none⟩ = some (.int .i64 k1) ∧ W2.cell? ⟨W.heap.size, 1, none⟩ = some (.int .i64 v1) ∧ W2.cell? ⟨W.heap.size, 2, none⟩ = some (.int .i64 li1) ∧ W2.cell? ⟨W.heap.size, 3, none⟩ = some (.slice sA1 sn1 sc1) ∧ W2.cell? ⟨W.heap.size, 4, none⟩ = some (.int .i64 (t1 : Int)) := ⟨n1.cell (i := 0) rfl, n1.cell (i := 1) rfl, n1.cell (i := 2) rfl, n1.cell (i := 3) rfl, n1.cell (i := 4) rfl⟩
    have e2 : W2.cell? ⟨(W.heap.size + 1), 0, none⟩ = some (.int .i64 k2) ∧ W2.cell? ⟨(W.heap.size + 1), 1, none⟩ = some (.int .i64 v2) ∧ W2.cell? ⟨(W.heap.size + 1), 2, none⟩ = some (.int .i64 li2) ∧ W2.cell? ⟨(W.heap.size + 1), 3, none⟩ = some (.slice sA2 sn2 sc2) ∧ W2.cell? ⟨(W.heap.size + 1), 4, none⟩ = some (.int .i64 (t2 : Int)) := ⟨n2.cell (i := 0) rfl, n2.cell (i := 1) rfl, n2.cell (i := 2) rfl, n2.cell (i := 3) rfl, n2.cell (i := 4) rfl⟩
    have hB2 : BF lt base p W2 F lb := hB.step (Fr.ofB hb2 hbs)
    have hpl := Nat.lt_of_lt_of_le hP.lt hs2
    have hz1 : W.heap.size < W2.heap.size := n1.lt
    have eg := hB2.1
    have hB3 := Lib.hid hB2.2
    clear hB2 hB
    clear c0 c1 q1 q2 hP hR
    go_region_held3 (fun w' => w'.cell? ⟨p, 0, none⟩ = some (.func (.func F) #[] lb) ∧ (w'.cell? ⟨W.heap.size, 0, none⟩ = some (.int .i64 k1) ∧ w'.cell? ⟨W.heap.size, 1, none⟩ = some (.int .i64 v1) ∧ w'.cell? ⟨W.heap.size, 2, none⟩ = some (.int .i64 li1) ∧ w'.cell? ⟨W.heap.size, 3, none⟩ = some (.slice sA1 sn1 sc1) ∧ w'.cell? ⟨W.heap.size, 4, none⟩ = some (.int .i64 (t1 : Int))) ∧ (w'.cell? ⟨(W.heap.size + 1), 0, none⟩ = some (.int .i64 k2) ∧ w'.cell? ⟨(W.heap.size + 1), 1, none⟩ = some (.int .i64 v2) ∧ w'.cell? ⟨(W.heap.size + 1), 2, none⟩ = some (.int .i64 li2) ∧ w'.cell? ⟨(W.heap.size + 1), 3, none⟩ = some (.slice sA2 sn2 sc2) ∧ w'.cell? ⟨(W.heap.size + 1), 4, none⟩ = some (.int .i64 (t2 : Int)))) (go_keep) ((refine (hB3.out (k1, v1, li1, sA1, sn1, sc1) (k2, v2, li2, sA2, sn2, sc2) _ (Fr.c (Fr.ofB ((Below.refl _ _).drew) (by omega)))).mono ?_; rintro e w3 ⟨rfl, hb3'⟩; rw [H12.out]; have hb3 := Below.trans (Below.drew (Below.refl W2.heap.size W2)) hb3'; clear hb3'; obtain ⟨hc3, hf3⟩ := bcell hb3))
    have hs3 := hb3.size
    have hpl3 := Nat.lt_of_lt_of_le hpl hs3
    have hz31 := Nat.lt_of_lt_of_le hz1 hs3
    have hz32 := Nat.lt_of_lt_of_le hz2 hs3
    cases r12
    · go_wp2_with fail
      go_region_held3 (fun w' => w'.cell? ⟨p, 0, none⟩ = some (.func (.func F) #[] lb) ∧ (w'.cell? ⟨W.heap.size, 0, none⟩ = some (.int .i64 k1) ∧ w'.cell? ⟨W.heap.size, 1, none⟩ = some (.int .i64 v1) ∧ w'.cell? ⟨W.heap.size, 2, none⟩ = some (.int .i64 li1) ∧ w'.cell? ⟨W.heap.size, 3, none⟩ = some (.slice sA1 sn1 sc1) ∧ w'.cell? ⟨W.heap.size, 4, none⟩ = some (.int .i64 (t1 : Int))) ∧ (w'.cell? ⟨(W.heap.size + 1), 0, none⟩ = some (.int .i64 k2) ∧ w'.cell? ⟨(W.heap.size + 1), 1, none⟩ = some (.int .i64 v2) ∧ w'.cell? ⟨(W.heap.size + 1), 2, none⟩ = some (.int .i64 li2) ∧ w'.cell? ⟨(W.heap.size + 1), 3, none⟩ = some (.slice sA2 sn2 sc2) ∧ w'.cell? ⟨(W.heap.size + 1), 4, none⟩ = some (.int .i64 (t2 : Int)))) (go_keep) ((refine (hB3.out (k2, v2, li2, sA2, sn2, sc2) (k1, v1, li1, sA1, sn1, sc1) _ (Fr.c (Fr.ofB (hb3.drew) (by omega)))).mono ?_; rintro e w4 ⟨rfl, hb4'⟩; rw [H21.out]; have hb4 := Below.trans (Below.drew (Below.refl w3.heap.size w3)) hb4'; clear hb4'; obtain ⟨hc4, hf4⟩ := bcell hb4))
      have hs4 := hb4.size
      have hz41 := Nat.lt_of_lt_of_le hz31 hs4
      have hz42 := Nat.lt_of_lt_of_le hz32 hs4
      cases r21
      · go_wp2_with fail
        go_ret
        exact ⟨by rw [HFIN.out]; simp, hb2.trans ((hb3.mono hs2).trans (hb4.mono (Nat.le_trans hs2 hs3)))⟩
      · go_wp2_with fail
        go_ret
        exact ⟨by rw [HFIN.out]; simp, hb2.trans ((hb3.mono hs2).trans (hb4.mono (Nat.le_trans hs2 hs3)))⟩
    · go_wp2_with fail
      go_ret
      exact ⟨by rw [HFIN.out]; simp, hb2.trans (hb3.mono hs2)⟩
  · go_wp2_with fail
    obtain ⟨W2, hW2⟩ : ∃ W2, (((W.alloc (.cells #[.int .i64 k2, .int .i64 v2, .int .i64 li2, .slice sA2 sn2 sc2, .int .i64 (t2 : Int)] 160)).alloc (.cells #[.int .i64 k1, .int .i64 v1, .int .i64 li1, .slice sA1 sn1 sc1, .int .i64 (t1 : Int)] 160)).drew) = W2 := ⟨_, rfl⟩
    have hb2 : Below W.heap.size W W2 := by rw [← hW2]; exact (bel_alloc2 W _ _).drew
    have d0 : W2.cell? ⟨p, 0, none⟩ = some (.func (.func F) #[] lb) := by rw [hb2.cell (p := ⟨p, 0, none⟩) hP.lt]; exact c0
    have n1 : Blk W2 W.heap.size 160 [.int .i64 k2, .int .i64 v2, .int .i64 li2, .slice sA2 sn2 sc2, .int .i64 (t2 : Int)] := by rw [← hW2]; exact ((Blk.new W [.int .i64 k2, .int .i64 v2, .int .i64 li2, .slice sA2 sn2 sc2, .int .i64 (t2 : Int)] 160).alloc _).drew
    have n2 : Blk W2 (W.heap.size + 1) 160 [.int .i64 k1, .int .i64 v1, .int .i64 li1, .slice sA1 sn1 sc1, .int .i64 (t1 : Int)] := by rw [← hW2]; have := (Blk.new (W.alloc (.cells #[.int .i64 k2, .int .i64 v2, .int .i64 li2, .slice sA2 sn2 sc2, .int .i64 (t2 : Int)] 160)) [.int .i64 k1, .int .i64 v1, .int .i64 li1, .slice sA1 sn1 sc1, .int .i64 (t1 : Int)] 160).drew; rw [World.size_alloc] at this; exact this
    rw [hW2]
    clear hW2
    have hs2 := hb2.size
    have hz2 : W.heap.size + 1 < W2.heap.size := n2.lt
    have e1 : W2.cell? ⟨(W.heap.size + 1), 0, none⟩ = some (.int .i64 k1) ∧ W2.cell? ⟨(W.heap.size + 1), 1, none⟩ = some (.int .i64 v1) ∧ W2.cell? ⟨(W.heap.size + 1), 2, none⟩ = some (.int .i64 li1) ∧ W2.cell? ⟨(W.heap.size + 1), 3, none⟩ = some (.slice sA1 sn1 sc1) ∧ W2.cell? ⟨(W.heap.size + 1), 4, none⟩ = some (.int .i64 (t1 : Int)) := ⟨n2.cell (i := 0) rfl, n2.cell (i := 1) rfl, n2.cell (i := 2) rfl, n2.cell (i := 3) rfl, n2.cell (i := 4) rfl⟩
    have e2 : W2.cell? ⟨W.heap.size, 0, none⟩ = some (.int .i64 k2) ∧ W2.cell? ⟨W.heap.size, 1, none⟩ = some (.int .i64 v2) ∧ W2.cell? ⟨W.heap.size, 2, none⟩ = some (.int .i64 li2) ∧ W2.cell? ⟨W.heap.size, 3, none⟩ = some (.slice sA2 sn2 sc2) ∧ W2.cell? ⟨W.heap.size, 4, none⟩ = some (.int .i64 (t2 : Int)) := ⟨n1.cell (i := 0) rfl, n1.cell (i := 1) rfl, n1.cell (i := 2) rfl, n1.cell (i := 3) rfl, n1.cell (i := 4) rfl⟩
    have hB2 : BF lt base p W2 F lb := hB.step (Fr.ofB hb2 hbs)
    have hpl := Nat.lt_of_lt_of_le hP.lt hs2
    have hz1 : W.heap.size < W2.heap.size := n1.lt
    have eg := hB2.1
    have hB3 := Lib.hid hB2.2
    clear hB2 hB
    clear c0 c1 q1 q2 hP hR
    go_region_held3 (fun w' => w'.cell? ⟨p, 0, none⟩ = some (.func (.func F) #[] lb) ∧ (w'.cell? ⟨(W.heap.size + 1), 0, none⟩ = some (.int .i64 k1) ∧ w'.cell? ⟨(W.heap.size + 1), 1, none⟩ = some (.int .i64 v1) ∧ w'.cell? ⟨(W.heap.size + 1), 2, none⟩ = some (.int .i64 li1) ∧ w'.cell? ⟨(W.heap.size + 1), 3, none⟩ = some (.slice sA1 sn1 sc1) ∧ w'.cell? ⟨(W.heap.size + 1), 4, none⟩ = some (.int .i64 (t1 : Int))) ∧ (w'.cell? ⟨W.heap.size, 0, none⟩ = some (.int .i64 k2) ∧ w'.cell? ⟨W.heap.size, 1, none⟩ = some (.int .i64 v2) ∧ w'.cell? ⟨W.heap.size, 2, none⟩ = some (.int .i64 li2) ∧ w'.cell? ⟨W.heap.size, 3, none⟩ = some (.slice sA2 sn2 sc2) ∧ w'.cell? ⟨W.heap.size, 4, none⟩ = some (.int .i64 (t2 : Int)))) (go_keep) ((refine (hB3.out (k1, v1, li1, sA1, sn1, sc1) (k2, v2, li2, sA2, sn2, sc2) _ (Fr.c (Fr.ofB ((Below.refl _ _).drew) (by omega)))).mono ?_; rintro e w3 ⟨rfl, hb3'⟩; rw [H12.out]; have hb3 := Below.trans (Below.drew (Below.refl W2.heap.size W2)) hb3'; clear hb3'; obtain ⟨hc3, hf3⟩ := bcell hb3))
    have hs3 := hb3.size
    have hpl3 := Nat.lt_of_lt_of_le hpl hs3
    have hz31 := Nat.lt_of_lt_of_le hz1 hs3
    have hz32 := Nat.lt_of_lt_of_le hz2 hs3
    cases r12
    · go_wp2_with fail
      go_region_held3 (fun w' => w'.cell? ⟨p, 0, none⟩ = some (.func (.func F) #[] lb) ∧ (w'.cell? ⟨(W.heap.size + 1), 0, none⟩ = some (.int .i64 k1) ∧ w'.cell? ⟨(W.heap.size + 1), 1, none⟩ = some (.int .i64 v1) ∧ w'.cell? ⟨(W.heap.size + 1), 2, none⟩ = some (.int .i64 li1) ∧ w'.cell? ⟨(W.heap.size + 1), 3, none⟩ = some (.slice sA1 sn1 sc1) ∧ w'.cell? ⟨(W.heap.size + 1), 4, none⟩ = some (.int .i64 (t1 : Int))) ∧ (w'.cell? ⟨W.heap.size, 0, none⟩ = some (.int .i64 k2) ∧ w'.cell? ⟨W.heap.size, 1, none⟩ = some (.int .i64 v2) ∧ w'.cell? ⟨W.heap.size, 2, none⟩ = some (.int .i64 li2) ∧ w'.cell? ⟨W.heap.size, 3, none⟩ = some (.slice sA2 sn2 sc2) ∧ w'.cell? ⟨W.heap.size, 4, none⟩ = some (.int .i64 (t2 : Int)))) (go_keep) ((refine (hB3.out (k2, v2, li2, sA2, sn2, sc2) (k1, v1, li1, sA1, sn1, sc1) _ (Fr.c (Fr.ofB (hb3.drew) (by omega)))).mono ?_; rintro e w4 ⟨rfl, hb4'⟩; rw [H21.out]; have hb4 := Below.trans (Below.drew (Below.refl w3.heap.size w3)) hb4'; clear hb4'; obtain ⟨hc4, hf4⟩ := bcell hb4))
      have hs4 := hb4.size
      have hz41 := Nat.lt_of_lt_of_le hz31 hs4
      have hz42 := Nat.lt_of_lt_of_le hz32 hs4
      cases r21
      · go_wp2_with fail
        go_ret
        exact ⟨by rw [HFIN.out]; simp, hb2.trans ((hb3.mono hs2).trans (hb4.mono (Nat.le_trans hs2 hs3)))⟩
      · go_wp2_with fail
        go_ret
        exact ⟨by rw [HFIN.out]; simp, hb2.trans ((hb3.mono hs2).trans (hb4.mono (Nat.le_trans hs2 hs3)))⟩
    · go_wp2_with fail
      go_ret
      exact ⟨by rw [HFIN.out]; simp, hb2.trans (hb3.mono hs2)⟩

end Go.Proofs.Ytbhpokcnkdgcmaa.HeapM
