/- layer 8, plain: lists of keys with their values, rising; trees that hold them. -/
import Derived.Test.YtmdacfgofilbdaaOpen
set_option linter.unusedVariables false
namespace Go.Proofs.Ytmdacfgofilbdaa.TabL

/-- an order of all keys -/
structure Lin {K : Type} (lt : K → K → Bool) : Prop where
  irr : ∀ a, lt a a = false
  tr : ∀ {a b c}, lt a b = true → lt b c = true → lt a c = true
  tot : ∀ {a b}, lt a b = false → lt b a = false → a = b
theorem Lin.asym {K : Type} {lt : K → K → Bool} (h : Lin lt) {a b : K} (hab : lt a b = true) : lt b a = false := by
  cases hb : lt b a
  · rfl
  · have := h.tr hab hb; rw [h.irr] at this; cases this
/-- as cmp.Compare tells it -/
def cmpV {K : Type} (lt : K → K → Bool) (a b : K) : Int := if lt a b then -1 else if lt b a then 1 else 0

section
variable {K V : Type} (lt : K → K → Bool)
def Sd (l : List (K × V)) : Prop := l.Pairwise (fun a b => lt a.1 b.1 = true)
def getL (l : List (K × V)) (k : K) : Option V := match l with
  | [] => none
  | p :: r => if lt p.1 k || lt k p.1 then getL r k else some p.2
def putL (l : List (K × V)) (k : K) (v : V) : List (K × V) := match l with
  | [] => [(k, v)]
  | p :: r => if lt k p.1 then (k, v) :: p :: r else if lt p.1 k then p :: putL r k v else (k, v) :: r
def dropL (l : List (K × V)) (k : K) : List (K × V) := l.filter (fun p => lt p.1 k || lt k p.1)
variable {lt}

theorem Sd.parts {L R : List (K × V)} {p : K × V} (h : Sd lt (L ++ p :: R)) : Sd lt L ∧ Sd lt R ∧ (∀ q ∈ L, lt q.1 p.1 = true) ∧ (∀ q ∈ R, lt p.1 q.1 = true) := by
  unfold Sd at *
  rw [List.pairwise_append, List.pairwise_cons] at h
  exact ⟨h.1, h.2.1.2, fun q hq => h.2.2 q hq p List.mem_cons_self, h.2.1.1⟩
theorem putL_mem {l : List (K × V)} {k : K} {v : V} {q : K × V} (h : q ∈ putL lt l k v) : q = (k, v) ∨ q ∈ l := by
  induction l with
  | nil => simp [putL] at h; exact .inl h
  | cons p r ih =>
    unfold putL at h
    split at h
    · rcases List.mem_cons.1 h with h | h
      · exact .inl h
      · exact .inr h
    · split at h
      · rcases List.mem_cons.1 h with h | h
        · exact .inr (h ▸ List.mem_cons_self)
        · rcases ih h with h | h
          · exact .inl h
          · exact .inr (List.mem_cons_of_mem _ h)
      · rcases List.mem_cons.1 h with h | h
        · exact .inl h
        · exact .inr (List.mem_cons_of_mem _ h)
theorem putL_sd (ho : Lin lt) {l : List (K × V)} (h : Sd lt l) (k : K) (v : V) : Sd lt (putL lt l k v) := by
  unfold Sd at *
  induction l with
  | nil => simp [putL]
  | cons p r ih =>
    rw [List.pairwise_cons] at h
    unfold putL
    split
    · rename_i hk
      refine List.pairwise_cons.2 ⟨fun q hq => ?_, List.pairwise_cons.2 h⟩
      rcases List.mem_cons.1 hq with rfl | hq
      · exact hk
      · exact ho.tr hk (h.1 q hq)
    · split
      · rename_i hk
        refine List.pairwise_cons.2 ⟨fun q hq => ?_, ih h.2⟩
        rcases putL_mem hq with rfl | hq
        · exact hk
        · exact h.1 q hq
      · rename_i h1 h2
        have e : k = p.1 := ho.tot (by simpa using h1) (by simpa using h2)
        subst e
        exact List.pairwise_cons.2 ⟨h.1, h.2⟩
theorem dropL_sd {l : List (K × V)} (h : Sd lt l) (k : K) : Sd lt (dropL lt l k) := List.Pairwise.filter _ h
theorem putL_lt (ho : Lin lt) {L R : List (K × V)} {p : K × V} {k : K} {v : V} (hk : lt k p.1 = true) : putL lt (L ++ p :: R) k v = putL lt L k v ++ p :: R := by
  induction L with
  | nil => simp [putL, hk]
  | cons q L ih =>
    rw [List.cons_append, putL, putL]
    split
    · rfl
    · split
      · rw [ih]; rfl
      · rfl
theorem putL_gt (ho : Lin lt) {L R : List (K × V)} {p : K × V} {k : K} {v : V} (hL : ∀ q ∈ L, lt q.1 p.1 = true) (hk : lt p.1 k = true) : putL lt (L ++ p :: R) k v = L ++ p :: putL lt R k v := by
  induction L with
  | nil => simp [putL, hk, ho.asym hk]
  | cons q L ih =>
    have h1 := ho.tr (hL q List.mem_cons_self) hk
    rw [List.cons_append, putL, ho.asym h1, h1, ih (fun x hx => hL x (List.mem_cons_of_mem _ hx))]
    rfl
theorem putL_eq (ho : Lin lt) {L R : List (K × V)} {p : K × V} {v : V} (hL : ∀ q ∈ L, lt q.1 p.1 = true) : putL lt (L ++ p :: R) p.1 v = L ++ (p.1, v) :: R := by
  induction L with
  | nil => simp [putL, ho.irr]
  | cons q L ih =>
    have h1 := hL q List.mem_cons_self
    rw [List.cons_append, putL, ho.asym h1, h1, ih (fun x hx => hL x (List.mem_cons_of_mem _ hx))]
    rfl
theorem getL_lt (ho : Lin lt) {L R : List (K × V)} {p : K × V} {k : K} (hR : ∀ q ∈ R, lt p.1 q.1 = true) (hk : lt k p.1 = true) : getL lt (L ++ p :: R) k = getL lt L k := by
  have h0 : getL lt (p :: R) k = none := by
    have : ∀ R : List (K × V), (∀ q ∈ R, lt k q.1 = true) → getL lt R k = none := by
      intro R
      induction R with
      | nil => intro _; rfl
      | cons q R ih => intro h; rw [getL, h q List.mem_cons_self, Bool.or_true, if_pos rfl]; exact ih (fun x hx => h x (List.mem_cons_of_mem _ hx))
    refine this _ (fun q hq => ?_)
    rcases List.mem_cons.1 hq with rfl | hq
    · exact hk
    · exact ho.tr hk (hR q hq)
  induction L with
  | nil => rw [List.nil_append, h0]; rfl
  | cons q L ih => rw [List.cons_append, getL, getL, ih]
theorem getL_gt (ho : Lin lt) {L R : List (K × V)} {p : K × V} {k : K} (hL : ∀ q ∈ L, lt q.1 p.1 = true) (hk : lt p.1 k = true) : getL lt (L ++ p :: R) k = getL lt R k := by
  induction L with
  | nil => rw [List.nil_append, getL, hk, Bool.true_or, if_pos rfl]
  | cons q L ih =>
    rw [List.cons_append, getL, ho.tr (hL q List.mem_cons_self) hk, Bool.true_or, if_pos rfl]
    exact ih (fun x hx => hL x (List.mem_cons_of_mem _ hx))
theorem getL_eq (ho : Lin lt) {L R : List (K × V)} {p : K × V} (hL : ∀ q ∈ L, lt q.1 p.1 = true) : getL lt (L ++ p :: R) p.1 = some p.2 := by
  induction L with
  | nil => rw [List.nil_append, getL, ho.irr]; rfl
  | cons q L ih =>
    rw [List.cons_append, getL, hL q List.mem_cons_self, Bool.true_or, if_pos rfl]
    exact ih (fun x hx => hL x (List.mem_cons_of_mem _ hx))
theorem dropL_all {l : List (K × V)} {k : K} (h : ∀ q ∈ l, lt q.1 k = true ∨ lt k q.1 = true) : dropL lt l k = l := by
  unfold dropL
  refine List.filter_eq_self.2 (fun q hq => ?_)
  rcases h q hq with h | h <;> simp [h]
theorem dropL_append (A B : List (K × V)) (k : K) : dropL lt (A ++ B) k = dropL lt A k ++ dropL lt B k := by simp [dropL]
theorem dropL_lt (ho : Lin lt) {L R : List (K × V)} {p : K × V} {k : K} (hR : ∀ q ∈ R, lt p.1 q.1 = true) (hk : lt k p.1 = true) : dropL lt (L ++ p :: R) k = dropL lt L k ++ p :: R := by
  rw [dropL_append, dropL_all (l := p :: R) (fun q hq => by
    rcases List.mem_cons.1 hq with rfl | hq
    · exact .inr hk
    · exact .inr (ho.tr hk (hR q hq)))]
theorem dropL_gt (ho : Lin lt) {L R : List (K × V)} {p : K × V} {k : K} (hL : ∀ q ∈ L, lt q.1 p.1 = true) (hk : lt p.1 k = true) : dropL lt (L ++ p :: R) k = L ++ p :: dropL lt R k := by
  rw [dropL_append, dropL_all (l := L) (fun q hq => .inl (ho.tr (hL q hq) hk))]
  congr 1
  simp [dropL, hk]
theorem dropL_eq (ho : Lin lt) {L R : List (K × V)} {p : K × V} (hL : ∀ q ∈ L, lt q.1 p.1 = true) (hR : ∀ q ∈ R, lt p.1 q.1 = true) : dropL lt (L ++ p :: R) p.1 = L ++ R := by
  rw [dropL_append, dropL_all (l := L) (fun q hq => .inl (hL q hq))]
  congr 1
  have : dropL lt (p :: R) p.1 = dropL lt R p.1 := by simp [dropL, ho.irr]
  rw [this]
  exact dropL_all (fun q hq => .inr (hR q hq))
theorem getL_none {l : List (K × V)} {k : K} : getL lt l k = none ↔ dropL lt l k = l := by
  induction l with
  | nil => simp [getL, dropL]
  | cons p r ih =>
    unfold getL
    cases h : (lt p.1 k || lt k p.1)
    · simp only [Bool.false_eq_true, if_false, reduceCtorEq, false_iff]
      intro e
      have h1 : dropL lt (p :: r) k = dropL lt r k := by unfold dropL; rw [List.filter_cons, h]; rfl
      rw [h1] at e
      have h2 : (dropL lt r k).length ≤ r.length := List.length_filter_le _ _
      rw [e] at h2
      simp at h2
      omega
    · rw [if_pos rfl, ih]
      have h1 : dropL lt (p :: r) k = p :: dropL lt r k := by unfold dropL; rw [List.filter_cons, h]; rfl
      rw [h1]
      simp
end

/-- trees -/
inductive BT (K V : Type) where
  | leaf
  | node (l : BT K V) (k : K) (v : V) (r : BT K V)
namespace BT
variable {K V : Type}
def toL : BT K V → List (K × V)
  | .leaf => []
  | .node l k v r => l.toL ++ (k, v) :: r.toL
def ht : BT K V → Nat
  | .leaf => 0
  | .node l _ _ r => max l.ht r.ht + 1
theorem ht_le : ∀ t : BT K V, t.ht ≤ t.toL.length
  | .leaf => Nat.le_refl _
  | .node l k v r => by
    have h1 := ht_le l
    have h2 := ht_le r
    simp only [ht, toL, List.length_append, List.length_cons]
    omega
theorem ht_pos {t : BT K V} (h : 0 < t.ht) : ∃ l k v r, t = .node l k v r := by
  cases t with
  | leaf => simp [ht] at h
  | node l k v r => exact ⟨l, k, v, r, rfl⟩
end BT

end Go.Proofs.Ytmdacfgofilbdaa.TabL

/- layer 8: the memory of trees, at whatever types. -/
set_option linter.unusedVariables false
namespace Go.Proofs.Ytmdacfgofilbdaa.TabL
open Go.RowKit

/-- the heap holds the tree at p: a node (type t): key, value, the sides, height, size -/
def IsT {K V : Type} (t : TypeId) (ek : K → Value) (ev : V → Value) (W : World) : Option Addr → BT K V → Prop
  | p, .leaf => p = none
  | p, .node l k v r => ∃ (b : Nat) (pl pr : Option Addr), p = some ⟨b, 0, none⟩ ∧ Blk W b t [ek k, ev v, .pointer pl, .pointer pr, .int .i64 ((BT.node l k v r).ht : Int), .int .i64 ((BT.node l k v r).toL.length : Int)] ∧ IsT t ek ev W pl l ∧ IsT t ek ev W pr r

/-- what is kept: blocks of cells of a type -/
def KT (t : TypeId) (W W' : World) : Prop := W.heap.size ≤ W'.heap.size ∧ ∀ (b : Nat) cs fr, W.heap[b]? = some (Obj.cells cs t fr) → W'.heap[b]? = some (Obj.cells cs t fr)
namespace KT
variable {t : TypeId} {W W1 W2 : World}
theorem refl (t : TypeId) (W : World) : KT t W W := ⟨Nat.le_refl _, fun _ _ _ h => h⟩
theorem trans (h : KT t W W1) (k : KT t W1 W2) : KT t W W2 := ⟨Nat.le_trans h.1 k.1, fun b cs fr hb => k.2 b cs fr (h.2 b cs fr hb)⟩
theorem below (h : Below W.heap.size W W1) : KT t W W1 := ⟨h.size, fun b cs fr hb => (h.block b (Array.getElem?_eq_some_iff.1 hb).1).trans hb⟩
theorem alloc (W : World) (o : Obj) : KT t W (W.alloc o) := below ((Below.refl _ W).alloc (Nat.le_refl _) o)
theorem grown {row : Option Nat} (h : W.grownBy W1 row) (hr : ∀ r, row = some r → ∃ o, W.heap[r]? = some o ∧ ∀ cs fr, o ≠ .cells cs t fr) : KT t W W1 :=
  ⟨h.size, fun b cs fr hb => (h.block b (Array.getElem?_eq_some_iff.1 hb).1 (fun e => by
    obtain ⟨o, ho, hne⟩ := hr b e.symm
    rw [hb] at ho
    cases ho
    exact hne _ _ rfl)).trans hb⟩
theorem grownP {p : Nat} {u : TypeId} {l : List Value} (h : W.grownBy W1 (some p)) (hP : Blk W p u l) (hne : u ≠ t) : KT t W W1 :=
  grown h (fun r e => by cases e; exact ⟨_, hP, fun cs fr e => by injection e with _ e2 _; exact hne e2⟩)
theorem setOther {p i : Nat} {v : Value} {u : TypeId} {l : List Value} (hP : Blk W p u l) (hne : u ≠ t) : KT t W (W.setCell ⟨p, i, none⟩ v) := grownP (grownBy_setAt W p i v) hP hne
end KT
theorem IsT.kept {K V : Type} {t : TypeId} {ek : K → Value} {ev : V → Value} {A B : World} (h : KT t A B) : ∀ {p : Option Addr} {T : BT K V}, IsT t ek ev A p T → IsT t ek ev B p T
  | _, .leaf, ht => ht
  | _, .node _ _ _ _, ⟨b, pl, pr, hp, hb, hl, hr⟩ => ⟨b, pl, pr, hp, h.2 b _ _ hb, IsT.kept h hl, IsT.kept h hr⟩
theorem IsT.drewN {K V : Type} {t : TypeId} {ek : K → Value} {ev : V → Value} {A : World} {p : Option Addr} {T : BT K V} (h : IsT t ek ev A p T) (n : Nat) : IsT t ek ev (A.drewN n) p T := h.kept (show KT t A (A.drewN n) from ⟨Nat.le_refl _, fun _ _ _ h => h⟩)
theorem IsT.drew {K V : Type} {t : TypeId} {ek : K → Value} {ev : V → Value} {A : World} {p : Option Addr} {T : BT K V} (h : IsT t ek ev A p T) : IsT t ek ev A.drew p T := h.kept (show KT t A A.drew from ⟨Nat.le_refl _, fun _ _ _ h => h⟩)
theorem IsT.below {K V : Type} {t : TypeId} {ek : K → Value} {ev : V → Value} {A B : World} {p : Option Addr} {T : BT K V} (h : IsT t ek ev A p T) (hb : Below A.heap.size A B) : IsT t ek ev B p T := h.kept (KT.below hb)
theorem IsT.nil {K V : Type} {t : TypeId} {ek : K → Value} {ev : V → Value} {W : World} {p : Option Addr} {T : BT K V} (h : IsT t ek ev W p T) : p = none ↔ T = .leaf := by
  cases T with
  | leaf => exact ⟨fun _ => rfl, fun _ => h⟩
  | node l k v r => obtain ⟨b, pl, pr, rfl, _⟩ := h; simp

/-- a table: the object at p; what it holds -/
def TM {K V : Type} (tT tN : TypeId) (ek : K → Value) (ev : V → Value) (W : World) (p : Nat) (xs : List (K × V)) : Prop :=
  ∃ q T, Blk W p tT [.pointer q] ∧ IsT tN ek ev W q T ∧ T.toL = xs
theorem TM.lt {K V : Type} {tT tN : TypeId} {ek : K → Value} {ev : V → Value} {W : World} {p : Nat} {xs : List (K × V)} (h : TM tT tN ek ev W p xs) : p < W.heap.size := by obtain ⟨q, T, h1, _⟩ := h; exact h1.lt
theorem TM.kept {K V : Type} {tT tN : TypeId} {ek : K → Value} {ev : V → Value} {W W' : World} {p : Nat} {xs : List (K × V)} (h : TM tT tN ek ev W p xs) (hN : KT tN W W') (hT : KT tT W W') : TM tT tN ek ev W' p xs := by
  obtain ⟨q, T, h1, h2, h3⟩ := h
  exact ⟨q, T, hT.2 p _ _ h1, h2.kept hN, h3⟩
theorem TM.below {K V : Type} {tT tN : TypeId} {ek : K → Value} {ev : V → Value} {W W' : World} {p : Nat} {xs : List (K × V)} (h : TM tT tN ek ev W p xs) (hb : Below W.heap.size W W') : TM tT tN ek ev W' p xs := h.kept (KT.below hb) (KT.below hb)
/-- another table (or whatever it is) has been written, at block q -/
theorem TM.other {K V : Type} {tT tN u : TypeId} {ek : K → Value} {ev : V → Value} {W W' : World} {p q : Nat} {xs : List (K × V)} {l : List Value} (h : TM tT tN ek ev W p xs) (hg : W.grownBy W' (some q)) (hq : Blk W q u l) (hne : p ≠ q) (hu : u ≠ tN) : TM tT tN ek ev W' p xs := by
  obtain ⟨r, T, h1, h2, h3⟩ := h
  exact ⟨r, T, h1.kept hg (by simpa using hne), h2.kept (KT.grownP hg hq hu), h3⟩

end Go.Proofs.Ytmdacfgofilbdaa.TabL
