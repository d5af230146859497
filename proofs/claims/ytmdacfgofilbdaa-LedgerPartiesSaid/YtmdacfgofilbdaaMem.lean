/- words on memory: a block known whole, a row of elements, what a call turns. -/
import Derived.WalkKit
import Derived.RangeFuncBox
import Derived.RangeFuncOwn
import Derived.Deep.Draws
import Derived.Laws.IdiomCopy
import Derived.Lib.Hide
namespace Go.Proofs.Ytmdacfgofilbdaa
open Go.RowKit

/-- block b holds exactly these cells -/
def Blk (W : World) (b : Nat) (t : TypeId) (l : List Value) : Prop := W.heap[b]? = some (.cells l.toArray t (0, 0))
namespace Blk
variable {W W' : World} {b : Nat} {t : TypeId} {l : List Value}
theorem lt (h : Blk W b t l) : b < W.heap.size := (Array.getElem?_eq_some_iff.1 h).1
theorem cell (h : Blk W b t l) {i : Nat} {v : Value} (hv : l[i]? = some v) : W.cell? ⟨b, i, none⟩ = some v := by
  rw [cell_of_row W b i l.toArray t (0, 0) h]
  simpa using hv
theorem frozen (h : Blk W b t l) (i : Nat) : W.frozen? ⟨b, i, none⟩ = false := frozen_of_row W b i l.toArray t h
theorem new (W : World) (l : List Value) (t : TypeId) : Blk (W.alloc (.cells l.toArray t)) W.heap.size t l := World.alloc_heap_new W _
theorem kept {row : Option Nat} (h : Blk W b t l) (hg : W.grownBy W' row) (hne : some b ≠ row) : Blk W' b t l := (hg.block b h.lt hne).trans h
theorem alloc (h : Blk W b t l) (o : Obj) : Blk (W.alloc o) b t l := h.kept (World.grownBy_alloc W o none) (by simp)
theorem set (h : Blk W b t l) (i : Nat) (v : Value) : Blk (W.setCell ⟨b, i, none⟩ v) b t (l.set i v) := by
  have := heap_setCell_same W b i l.toArray t v h
  unfold Blk
  rw [this]
  simp
theorem other (h : Blk W b t l) {p : Addr} (hne : b ≠ p.block) (v : Value) : Blk (W.setCell p v) b t l := (Below.heap_setCell W p v b hne).trans h
theorem drewN (h : Blk W b t l) (n : Nat) : Blk (W.drewN n) b t l := h
theorem drew (h : Blk W b t l) : Blk W.drew b t l := h
theorem below {B : Nat} (h : Blk W b t l) (hb : Below B W W') (hlt : b < B) : Blk W' b t l := (hb.block b hlt).trans h
theorem belowS (h : Blk W b t l) (hb : Below W.heap.size W W') : Blk W' b t l := h.below hb h.lt
theorem inj {t' : TypeId} {l' : List Value} (h : Blk W b t l) (h' : Blk W b t' l') : t = t' ∧ l = l' := by
  unfold Blk at h h'
  rw [h] at h'
  simp at h'
  exact ⟨h'.2, h'.1⟩
end Blk

theorem bcell {W w1 : World} (hb : Below W.heap.size W w1) : (∀ b o, b < W.heap.size → w1.cell? ⟨b, o, none⟩ = W.cell? ⟨b, o, none⟩) ∧ (∀ b o, b < W.heap.size → w1.frozen? ⟨b, o, none⟩ = W.frozen? ⟨b, o, none⟩) :=
  ⟨fun b o h => hb.cell (p := ⟨b, o, none⟩) h, fun b o h => hb.frozen (p := ⟨b, o, none⟩) h⟩

/-- what is no cells, lies at or beyond base: what a call on an object (block p, rows of element type T) turns -/
structure Fr (base p : Nat) (T : TypeId) (W W' : World) : Prop where
  below : Below base W W'
  keep : ∀ b, b < W.heap.size → b ≠ p → (∀ cs fr, W.heap[b]? ≠ some (.cells cs T fr)) → W'.heap[b]? = W.heap[b]?
namespace Fr
variable {base p : Nat} {T : TypeId} {W W1 W2 : World}
theorem refl (base p : Nat) (T : TypeId) (W : World) : Fr base p T W W := ⟨Below.refl _ _, fun _ _ _ _ => rfl⟩
theorem trans (h : Fr base p T W W1) (k : Fr base p T W1 W2) : Fr base p T W W2 :=
  ⟨h.below.trans k.below, fun b hb hp hT => by
    have e := h.keep b hb hp hT
    rw [k.keep b (Nat.lt_of_lt_of_le hb h.below.size) hp (fun cs fr => by rw [e]; exact hT cs fr), e]⟩
theorem alloc (h : Fr base p T W W1) (hb : base ≤ W1.heap.size) (o : Obj) : Fr base p T W (W1.alloc o) :=
  h.trans ⟨(Below.refl base W1).alloc hb o, fun b hlt _ _ => Below.heap_alloc W1 o b hlt⟩
theorem drewN (h : Fr base p T W W1) (n : Nat) : Fr base p T W (W1.drewN n) := ⟨⟨h.below.os, h.below.tape, h.below.output, h.below.size, h.below.block⟩, h.keep⟩
theorem drew (h : Fr base p T W W1) : Fr base p T W W1.drew := ⟨h.below.drew, h.keep⟩
theorem setP (h : Fr base p T W W1) (hb : base ≤ p) (i : Nat) (v : Value) : Fr base p T W (W1.setCell ⟨p, i, none⟩ v) :=
  h.trans ⟨(Below.refl base W1).setCell (p := ⟨p, i, none⟩) hb v, fun b _ hne _ => Below.heap_setCell W1 _ v b hne⟩
theorem setRow (h : Fr base p T W W1) {g : Nat} (hb : base ≤ g) {cs : Array Value} {fr : Nat × Nat} (hg : W1.heap[g]? = some (.cells cs T fr)) (i : Nat) (v : Value) : Fr base p T W (W1.setCell ⟨g, i, none⟩ v) :=
  h.trans ⟨(Below.refl base W1).setCell (p := ⟨g, i, none⟩) hb v, fun b _ _ hT => Below.heap_setCell W1 _ v b (fun e => by
    have e' : b = g := e
    subst e'
    exact hT _ _ hg)⟩
theorem grown (h : Fr base p T W W1) {row : Option Nat} (hg : W1.grownBy W2 row) (hbs : base ≤ W1.heap.size) (hr : ∀ k, row = some k → base ≤ k ∧ ∃ cs fr, W1.heap[k]? = some (.cells cs T fr)) : Fr base p T W W2 :=
  h.trans ⟨(Below.refl base W1).grown hg hbs (fun k e => (hr k e).1), fun b hb _ hT => hg.block b hb (fun e => by
    obtain ⟨_, cs, fr, hk⟩ := hr b e.symm
    exact hT cs fr hk)⟩
theorem ofBelow (h : Fr base p T W W1) (hb : Below W1.heap.size W1 W2) (hs : base ≤ W1.heap.size) : Fr base p T W W2 :=
  h.trans ⟨hb.mono hs, fun b hlt _ _ => hb.block b hlt⟩
theorem ofB {base p : Nat} {T : TypeId} {W W1 : World} (hb : Below W.heap.size W W1) (hs : base ≤ W.heap.size) : Fr base p T W W1 := (Fr.refl base p T W).ofBelow hb hs
theorem size (h : Fr base p T W W1) : W.heap.size ≤ W1.heap.size := h.below.size
theorem blk (h : Fr base p T W W1) {b : Nat} {t : TypeId} {l : List Value} (hb : Blk W b t l) (hp : b ≠ p) (ht : t ≠ T) : Blk W1 b t l :=
  (h.keep b hb.lt hp (fun cs fr e => by unfold Blk at hb; rw [hb] at e; simp at e; exact ht e.2.1)).trans hb
theorem boxed (h : Fr base p T W W1) {b : Nat} {t : TypeId} {v : Value} (hb : Boxed W b t v) (hp : b ≠ p) (ht : t ≠ T) : Boxed W1 b t v :=
  (h.keep b hb.lt hp (fun cs fr e => by unfold Boxed at hb; rw [hb] at e; simp at e; exact ht e.2.1)).trans hb
theorem own (h : Fr base p T W W1) {b0 size n : Nat} {t : TypeId} {v : Value} {xs : List Value} (ho : W.ownsRow b0 t size v n xs) (hp : v.ownBlock ≠ some p) (ht : t ≠ T) : W1.ownsRow b0 t size v n xs := by
  refine ⟨ho.1, ?_⟩
  rcases ho.2 with hn | ⟨g, cap, cur, rfl, hb, hgg, rest⟩
  · exact .inl hn
  · refine .inr ⟨g, cap, cur, rfl, hb, ?_, rest⟩
    rw [h.keep g (Array.getElem?_eq_some_iff.1 hgg).1 (fun e => hp (by rw [e]; rfl)) (fun cs fr e => by rw [hgg] at e; simp at e; exact ht e.2.1)]
    exact hgg
theorem others (h : Fr base p T W W1) {t : TypeId} {l : List Value} (hp : Blk W p t l) : KeepsOthers W W1 :=
  ⟨h.size, fun k o hk ho => by
    refine (h.keep k (Array.getElem?_eq_some_iff.1 hk).1 (fun e => ?_) (fun cs fr e => ?_)).trans hk
    · subst e
      unfold Blk at hp
      rw [hp] at hk
      simp at hk
      rw [← hk] at ho
      simp [Obj.isCells] at ho
    · rw [e] at hk
      simp at hk
      rw [← hk] at ho
      simp [Obj.isCells] at ho⟩
end Fr

/-- the same of blocks of cells alone -/
structure FrC (base p : Nat) (T : TypeId) (W W' : World) : Prop where
  below : Below base W W'
  keep : ∀ b cs t fr, W.heap[b]? = some (.cells cs t fr) → b ≠ p → t ≠ T → W'.heap[b]? = some (.cells cs t fr)
theorem Fr.c {base p : Nat} {T : TypeId} {W W' : World} (h : Fr base p T W W') : FrC base p T W W' :=
  ⟨h.below, fun b cs t fr hb hp ht => (h.keep b (Array.getElem?_eq_some_iff.1 hb).1 hp (fun cs' fr' e => by rw [hb] at e; simp at e; exact ht e.2.1)).trans hb⟩
theorem FrC.refl (base p : Nat) (T : TypeId) (W : World) : FrC base p T W W := (Fr.refl base p T W).c
theorem FrC.trans {base p : Nat} {T : TypeId} {W W1 W2 : World} (h : FrC base p T W W1) (k : FrC base p T W1 W2) : FrC base p T W W2 :=
  ⟨h.below.trans k.below, fun b cs t fr hb hp ht => k.keep b cs t fr (h.keep b cs t fr hb hp ht) hp ht⟩
theorem FrC.blk {base p : Nat} {T : TypeId} {W W1 : World} (h : FrC base p T W W1) {b : Nat} {t : TypeId} {l : List Value} (hb : Blk W b t l) (hp : b ≠ p) (ht : t ≠ T) : Blk W1 b t l := h.keep b _ _ _ hb hp ht
theorem FrC.own {base p : Nat} {T : TypeId} {W W1 : World} (h : FrC base p T W W1) {b0 size n : Nat} {t : TypeId} {v : Value} {xs : List Value} (ho : W.ownsRow b0 t size v n xs) (hp : v.ownBlock ≠ some p) (ht : t ≠ T) : W1.ownsRow b0 t size v n xs := by
  refine ⟨ho.1, ?_⟩
  rcases ho.2 with hn | ⟨g, cap, cur, rfl, hb, hgg, rest⟩
  · exact .inl hn
  · exact .inr ⟨g, cap, cur, rfl, hb, h.keep g _ _ _ hgg (fun e => hp (by rw [e]; rfl)) ht, rest⟩
/-- what is no cells has turned, from base on: blocks of cells lie as they lay -/
theorem FrC.ofRow {base p : Nat} {T : TypeId} {A B : World} {row : Option Nat} (hg : A.grownBy B row) (hr : ∀ r, row = some r → base ≤ r ∧ ∃ o : Obj, A.heap[r]? = some o ∧ o.isCells = false) (hs : base ≤ A.heap.size) : FrC base p T A B :=
  ⟨(Below.refl base A).grown hg hs (fun k e => (hr k e).1), fun b cs t fr hb _ _ => by
    refine (hg.block b (Array.getElem?_eq_some_iff.1 hb).1 (fun e => ?_)).trans hb
    obtain ⟨_, o, ho, hc⟩ := hr b e.symm
    rw [hb] at ho
    cases ho
    simp [Obj.isCells] at hc⟩

/-- the cells of a list of elements, each of sz cells -/
def cellsOf {α : Type} (ec : α → List Value) (es : List α) : List Value := es.flatMap ec
theorem cellsOf_nil {α : Type} (ec : α → List Value) : cellsOf ec [] = [] := rfl
theorem cellsOf_append {α : Type} (ec : α → List Value) (xs ys : List α) : cellsOf ec (xs ++ ys) = cellsOf ec xs ++ cellsOf ec ys := by simp [cellsOf]
theorem cellsOf_one {α : Type} (ec : α → List Value) (x : α) : cellsOf ec [x] = ec x := by simp [cellsOf]
theorem cellsOf_length {α : Type} {ec : α → List Value} {sz : Nat} (he : ∀ x, (ec x).length = sz) (es : List α) : (cellsOf ec es).length = es.length * sz := by
  induction es with
  | nil => simp [cellsOf]
  | cons x es ih =>
    have : cellsOf ec (x :: es) = ec x ++ cellsOf ec es := by simp [cellsOf]
    rw [this, List.length_append, ih, he, List.length_cons, Nat.add_mul]
    omega
theorem cellsOf_at {α : Type} {ec : α → List Value} {sz : Nat} (he : ∀ x, (ec x).length = sz) (es : List α) (z : α) {i j : Nat} (hi : i < es.length) (hj : j < sz) : (cellsOf ec es)[i * sz + j]? = (ec (es.getD i z))[j]? := by
  induction es generalizing i with
  | nil => simp at hi
  | cons x es ih =>
    have e : cellsOf ec (x :: es) = ec x ++ cellsOf ec es := by simp [cellsOf]
    rw [e]
    cases i with
    | zero =>
      rw [List.getElem?_append_left (by rw [he]; omega)]
      simp
    | succ i =>
      rw [List.getElem?_append_right (by rw [he, Nat.add_mul]; omega), he]
      rw [show (i + 1) * sz + j - sz = i * sz + j from by rw [Nat.add_mul]; omega]
      rw [ih (by simpa using hi)]
      simp
theorem cellsOf_take {α : Type} {ec : α → List Value} {sz : Nat} (he : ∀ x, (ec x).length = sz) (es : List α) (m : Nat) : (cellsOf ec es).take (m * sz) = cellsOf ec (es.take m) := by
  induction es generalizing m with
  | nil => simp [cellsOf]
  | cons x es ih =>
    have e : ∀ l : List α, cellsOf ec (x :: l) = ec x ++ cellsOf ec l := fun l => by simp [cellsOf]
    cases m with
    | zero => simp [cellsOf]
    | succ m =>
      rw [e, List.take_succ_cons, e, Nat.add_mul, Nat.one_mul, Nat.add_comm, ← he x, List.take_length_add_append]
      rw [he x, ih]
theorem cellsOf_set {α : Type} {ec : α → List Value} {sz : Nat} (he : ∀ x, (ec x).length = sz) (es : List α) (i : Nat) (x : α) : cellsOf ec (es.set i x) = (cellsOf ec es).take (i * sz) ++ ((if i < es.length then ec x else []) ++ (cellsOf ec es).drop ((i + 1) * sz)) := by
  induction es generalizing i with
  | nil => simp [cellsOf]
  | cons y es ih =>
    have e : ∀ (y : α) (l : List α), cellsOf ec (y :: l) = ec y ++ cellsOf ec l := fun y l => by simp [cellsOf]
    cases i with
    | zero =>
      rw [List.set_cons_zero, e, e]
      simp [← he y]
    | succ i =>
      rw [List.set_cons_succ, e, ih, e, Nat.add_mul, Nat.one_mul, Nat.add_comm (i * sz) sz, ← he y, List.take_length_add_append]
      rw [Nat.add_mul (i + 1) 1, Nat.one_mul, Nat.add_comm ((i + 1) * (ec y).length) (ec y).length, List.drop_length_add_append]
      simp [he, Nat.add_mul, Nat.add_comm]

/-- a row's cells written from a place on -/
def setL (l : List Value) (o : Nat) : List Value → List Value
  | [] => l
  | v :: vs => setL (l.set o v) (o + 1) vs
theorem setL_length (vs : List Value) : ∀ (l : List Value) (o : Nat), (setL l o vs).length = l.length := by
  induction vs with
  | nil => intro l o; rfl
  | cons v vs ih => intro l o; rw [setL, ih]; simp
theorem setL_eq (vs : List Value) : ∀ (l : List Value) (o : Nat), o + vs.length ≤ l.length → setL l o vs = l.take o ++ (vs ++ l.drop (o + vs.length)) := by
  induction vs with
  | nil => intro l o h; simp [setL]
  | cons v vs ih =>
    intro l o h
    simp only [List.length_cons] at h
    rw [setL, ih _ _ (by simp; omega)]
    have h1 : (l.set o v).take (o + 1) = l.take o ++ [v] := by
      rw [List.take_succ_eq_append_getElem (i := o) (by simp; omega), List.getElem_set_self, List.take_set_of_le (Nat.le_refl _)]
    have h2 : (l.set o v).drop (o + 1 + vs.length) = l.drop (o + (vs.length + 1)) := by
      rw [List.drop_set_of_lt (by omega)]
      congr 1
      omega
    rw [h1, h2, List.length_cons]
    simp
theorem cellsOf_setL {α : Type} {ec : α → List Value} {sz : Nat} (he : ∀ x, (ec x).length = sz) (es : List α) (i : Nat) (x : α) (hi : i < es.length) : cellsOf ec (es.set i x) = setL (cellsOf ec es) (i * sz) (ec x) := by
  have hl := cellsOf_length he es
  have hm : (i + 1) * sz ≤ es.length * sz := Nat.mul_le_mul_right _ hi
  rw [setL_eq _ _ _ (by rw [he, hl]; rw [Nat.add_mul] at hm; omega), cellsOf_set he, if_pos hi, he, Nat.add_mul, Nat.one_mul]
theorem ownsRow_storedL {base : Nat} {e : TypeId} {size g n cap : Nat} (vs : List Value) : ∀ {w : World} {xs : List Value} (o : Nat), w.ownsRow base e size (.slice (some ⟨g, 0, none⟩) n cap) n xs →
    (w.setCells g o vs).ownsRow base e size (.slice (some ⟨g, 0, none⟩) n cap) n (setL xs o vs) := by
  induction vs with
  | nil => intro w xs o h; exact h
  | cons v vs ih => intro w xs o h; exact ih (o + 1) (h.stored o v).1
theorem Fr.setRowL {base p : Nat} {T : TypeId} {W : World} {g : Nat} (hb : base ≤ g) (vs : List Value) : ∀ {W1 : World} (o : Nat), Fr base p T W W1 → (∃ cs fr, W1.heap[g]? = some (.cells cs T fr)) → Fr base p T W (W1.setCells g o vs) ∧ ∃ cs fr, (W1.setCells g o vs).heap[g]? = some (.cells cs T fr) := by
  induction vs with
  | nil => intro W1 o h k; exact ⟨h, k⟩
  | cons v vs ih =>
    intro W1 o h ⟨cs, fr, k⟩
    refine ih (o + 1) (h.setRow hb k o v) ⟨cs.setIfInBounds o v, fr, ?_⟩
    simp [World.setCell, Array.getElem?_modify, k]

theorem grownBy_setAt (W : World) (b i : Nat) (v : Value) : W.grownBy (W.setCell ⟨b, i, none⟩ v) (some b) :=
  ⟨rfl, rfl, rfl, by simp [World.setCell], fun k _ hne => Below.heap_setCell W ⟨b, i, none⟩ v k (fun e => hne (by rw [e]))⟩
theorem own_setCell {w : World} {base n size : Nat} {e : TypeId} {v : Value} {xs : List Value} (h : w.ownsRow base e size v n xs) {b : Nat} (hne : v.ownBlock ≠ some b) (i : Nat) (u : Value) : (w.setCell ⟨b, i, none⟩ u).ownsRow base e size v n xs :=
  h.kept (grownBy_setAt w b i u) (.inr hne)
theorem own_typ {w : World} {base n size : Nat} {e : TypeId} {v : Value} {xs : List Value} (h : w.ownsRow base e size v n xs) : ∀ k, v.ownBlock = some k → base ≤ k ∧ ∃ cs fr, w.heap[k]? = some (.cells cs e fr) := by
  intro k hk
  rcases h.2 with ⟨rfl, _⟩ | ⟨g, cap, cur, rfl, hb, hg, _⟩
  · simp [Value.ownBlock] at hk
  · have e' : g = k := by simpa [Value.ownBlock] using hk
    subst e'
    exact ⟨hb, cur, (0, 0), hg⟩
theorem own_apart {W : World} {base n size p : Nat} {e t : TypeId} {v : Value} {xs l : List Value} (hP : Blk W p t l) (ho : W.ownsRow base e size v n xs) (ht : t ≠ e) : v.ownBlock ≠ some p := by
  intro hk
  obtain ⟨_, cs, fr, hc⟩ := own_typ ho p hk
  unfold Blk at hP
  rw [hP] at hc
  simp at hc
  exact ht hc.2.1

theorem news_blk {w : World} {b : Nat} {t : TypeId} {news : List Value} (h : Blk w b t news) : ∀ j u, news[j]? = some u → w.cell? ((⟨b, 0, none⟩ : Addr).add j) = some u := by
  intro j u hu
  have hadd : (⟨b, 0, none⟩ : Addr).add j = ⟨b, j, none⟩ := by unfold Addr.add; split <;> simp_all
  rw [hadd]
  exact h.cell hu
theorem Blk.new2 (W : World) (o : Obj) (l : List Value) (t : TypeId) : Blk ((W.alloc o).alloc (.cells l.toArray t)) (W.heap.size + 1) t l := by
  have := Blk.new (W.alloc o) l t
  rw [World.size_alloc] at this
  exact this

/-- 'clear(s)' on a slice of one element: its cells hold the zero value's. -/
theorem run_clear_one {P : Program} (w : World) (t e ty : TypeId) (z : Value) (zs : List Value) (ht : P.underlying t = some (.slice e)) (hv : ∀ w, (zeroValue e).run P w = .ok z w) (hz : z.cells.toList = zs) (h1 : ∀ v ∈ zs, v.oneCell' = true) (b o c : Nat)
    (hc : ∀ j, j < zs.length → (w.cell? ⟨b, o + j, none⟩).isSome = true) (hf : ∀ j, j < zs.length → w.frozen? ⟨b, o + j, none⟩ = false) :
    (Builtin.clear_ #[t] ty #[.slice (some ⟨b, o, none⟩) 1 c]).run P w = .ok (.tuple #[]) (w.setCells b o zs) := by
  have hzc : (Builtin.zeroCells z.cells 1).toList = zs := by
    rw [← hz]
    simp [Builtin.zeroCells]
    apply List.ext_getElem
    · simp
    · intro i h1 h2
      simp at h1 h2
      simp [Nat.mod_eq_of_lt h2, h2]
  have hst := run_storeCells_cells (P := P) b o zs 0 w (by simpa using hc) (by simpa using hf) h1
  simp only [Nat.add_zero] at hst
  simp [Builtin.clear_, run_underlying ht, hv, hzc, hst]

end Go.Proofs.Ytmdacfgofilbdaa
