/- Open, laid together. -/
import Derived.WalkKit
import Derived.RangeFuncBox
import Derived.RangeFuncOwn
import Derived.Deep.Draws
import Derived.Laws.IdiomCopy
import Derived.Lib.Hide
import Derived.RangeFuncNested
import Derived.RangeFuncCalls
import Derived.RangeFuncWrites
import Derived.RangeFuncLeaves
import Derived.Shelf.Abstract
import Derived.Shelf.RegionOpen
import Derived.OwnWalkIn
import Derived.TacticsInMore
import Derived.LoopNIn
import Derived.LoopIn
import Derived.Test.YtbhpokcnkdgcmaaRows
import Derived.Deep.Slices
import Derived.ChangeSame
import Derived.OpenShut

/- words on memory: a block known whole, a row of elements, what a call turns. -/
namespace Go.Proofs.Ytbhpokcnkdgcmaa
open Go.RowKit

/-- block b holds exactly these cells -/
def Blk (W : World) (b : Nat) (t : TypeId) (l : List Value) : Prop := W.heap[b]? = some (.cells l.toArray t (0, 0))
namespace Blk
variable {W W' : World} {b : Nat} {t : TypeId} {l : List Value}
theorem lt (h : Blk W b t l) : b < W.heap.size := (Array.getElem?_eq_some_iff.1 h).1
theorem cell (h : Blk W b t l) {i : Nat} {v : Value} (hv : l[i]? = some v) : W.cell? ⟨b, i, none⟩ = some v := by
  rw [cell_of_row W b i l.toArray t (0, 0) h]
  simpa using hv
theorem frozen (h : Blk W b t l) (i : Nat) : W.frozen? ⟨b, i, none⟩ = false := frozen_of_row W b i l.toArray t h
theorem new (W : World) (l : List Value) (t : TypeId) : Blk (W.alloc (.cells l.toArray t)) W.heap.size t l := World.alloc_heap_new W _
theorem kept {row : Option Nat} (h : Blk W b t l) (hg : W.grownBy W' row) (hne : some b ≠ row) : Blk W' b t l := (hg.block b h.lt hne).trans h
theorem alloc (h : Blk W b t l) (o : Obj) : Blk (W.alloc o) b t l := h.kept (World.grownBy_alloc W o none) (by simp)
theorem set (h : Blk W b t l) (i : Nat) (v : Value) : Blk (W.setCell ⟨b, i, none⟩ v) b t (l.set i v) := by
  have := heap_setCell_same W b i l.toArray t v h
  unfold Blk
  rw [this]
  simp
theorem other (h : Blk W b t l) {p : Addr} (hne : b ≠ p.block) (v : Value) : Blk (W.setCell p v) b t l := (Below.heap_setCell W p v b hne).trans h
theorem drewN (h : Blk W b t l) (n : Nat) : Blk (W.drewN n) b t l := h
theorem drew (h : Blk W b t l) : Blk W.drew b t l := h
theorem below {B : Nat} (h : Blk W b t l) (hb : Below B W W') (hlt : b < B) : Blk W' b t l := (hb.block b hlt).trans h
theorem belowS (h : Blk W b t l) (hb : Below W.heap.size W W') : Blk W' b t l := h.below hb h.lt
theorem inj {t' : TypeId} {l' : List Value} (h : Blk W b t l) (h' : Blk W b t' l') : t = t' ∧ l = l' := by
  unfold Blk at h h'
  rw [h] at h'
  simp at h'
  exact ⟨h'.2, h'.1⟩
end Blk

theorem bcell {W w1 : World} (hb : Below W.heap.size W w1) : (∀ b o, b < W.heap.size → w1.cell? ⟨b, o, none⟩ = W.cell? ⟨b, o, none⟩) ∧ (∀ b o, b < W.heap.size → w1.frozen? ⟨b, o, none⟩ = W.frozen? ⟨b, o, none⟩) :=
  ⟨fun b o h => hb.cell (p := ⟨b, o, none⟩) h, fun b o h => hb.frozen (p := ⟨b, o, none⟩) h⟩

/-- what is no cells, lies at or beyond base: what a call on an object (block p, rows of element type T) turns -/
structure Fr (base p : Nat) (T : TypeId) (W W' : World) : Prop where
  below : Below base W W'
  keep : ∀ b, b < W.heap.size → b ≠ p → (∀ cs fr, W.heap[b]? ≠ some (.cells cs T fr)) → W'.heap[b]? = W.heap[b]?
namespace Fr
variable {base p : Nat} {T : TypeId} {W W1 W2 : World}
theorem refl (base p : Nat) (T : TypeId) (W : World) : Fr base p T W W := ⟨Below.refl _ _, fun _ _ _ _ => rfl⟩
theorem trans (h : Fr base p T W W1) (k : Fr base p T W1 W2) : Fr base p T W W2 :=
  ⟨h.below.trans k.below, fun b hb hp hT => by
    have e := h.keep b hb hp hT
    rw [k.keep b (Nat.lt_of_lt_of_le hb h.below.size) hp (fun cs fr => by rw [e]; exact hT cs fr), e]⟩
theorem alloc (h : Fr base p T W W1) (hb : base ≤ W1.heap.size) (o : Obj) : Fr base p T W (W1.alloc o) :=
  h.trans ⟨(Below.refl base W1).alloc hb o, fun b hlt _ _ => Below.heap_alloc W1 o b hlt⟩
theorem drewN (h : Fr base p T W W1) (n : Nat) : Fr base p T W (W1.drewN n) := ⟨⟨h.below.os, h.below.tape, h.below.output, h.below.size, h.below.block⟩, h.keep⟩
theorem drew (h : Fr base p T W W1) : Fr base p T W W1.drew := ⟨h.below.drew, h.keep⟩
theorem setP (h : Fr base p T W W1) (hb : base ≤ p) (i : Nat) (v : Value) : Fr base p T W (W1.setCell ⟨p, i, none⟩ v) :=
  h.trans ⟨(Below.refl base W1).setCell (p := ⟨p, i, none⟩) hb v, fun b _ hne _ => Below.heap_setCell W1 _ v b hne⟩
theorem setRow (h : Fr base p T W W1) {g : Nat} (hb : base ≤ g) {cs : Array Value} {fr : Nat × Nat} (hg : W1.heap[g]? = some (.cells cs T fr)) (i : Nat) (v : Value) : Fr base p T W (W1.setCell ⟨g, i, none⟩ v) :=
  h.trans ⟨(Below.refl base W1).setCell (p := ⟨g, i, none⟩) hb v, fun b _ _ hT => Below.heap_setCell W1 _ v b (fun e => by
    have e' : b = g := e
    subst e'
    exact hT _ _ hg)⟩
theorem grown (h : Fr base p T W W1) {row : Option Nat} (hg : W1.grownBy W2 row) (hbs : base ≤ W1.heap.size) (hr : ∀ k, row = some k → base ≤ k ∧ ∃ cs fr, W1.heap[k]? = some (.cells cs T fr)) : Fr base p T W W2 :=
  h.trans ⟨(Below.refl base W1).grown hg hbs (fun k e => (hr k e).1), fun b hb _ hT => hg.block b hb (fun e => by
    obtain ⟨_, cs, fr, hk⟩ := hr b e.symm
    exact hT cs fr hk)⟩
theorem ofBelow (h : Fr base p T W W1) (hb : Below W1.heap.size W1 W2) (hs : base ≤ W1.heap.size) : Fr base p T W W2 :=
  h.trans ⟨hb.mono hs, fun b hlt _ _ => hb.block b hlt⟩
theorem ofB {base p : Nat} {T : TypeId} {W W1 : World} (hb : Below W.heap.size W W1) (hs : base ≤ W.heap.size) : Fr base p T W W1 := (Fr.refl base p T W).ofBelow hb hs
theorem size (h : Fr base p T W W1) : W.heap.size ≤ W1.heap.size := h.below.size
theorem blk (h : Fr base p T W W1) {b : Nat} {t : TypeId} {l : List Value} (hb : Blk W b t l) (hp : b ≠ p) (ht : t ≠ T) : Blk W1 b t l :=
  (h.keep b hb.lt hp (fun cs fr e => by unfold Blk at hb; rw [hb] at e; simp at e; exact ht e.2.1)).trans hb
theorem boxed (h : Fr base p T W W1) {b : Nat} {t : TypeId} {v : Value} (hb : Boxed W b t v) (hp : b ≠ p) (ht : t ≠ T) : Boxed W1 b t v :=
  (h.keep b hb.lt hp (fun cs fr e => by unfold Boxed at hb; rw [hb] at e; simp at e; exact ht e.2.1)).trans hb
theorem own (h : Fr base p T W W1) {b0 size n : Nat} {t : TypeId} {v : Value} {xs : List Value} (ho : W.ownsRow b0 t size v n xs) (hp : v.ownBlock ≠ some p) (ht : t ≠ T) : W1.ownsRow b0 t size v n xs := by
  refine ⟨ho.1, ?_⟩
  rcases ho.2 with hn | ⟨g, cap, cur, rfl, hb, hgg, rest⟩
  · exact .inl hn
  · refine .inr ⟨g, cap, cur, rfl, hb, ?_, rest⟩
    rw [h.keep g (Array.getElem?_eq_some_iff.1 hgg).1 (fun e => hp (by rw [e]; rfl)) (fun cs fr e => by rw [hgg] at e; simp at e; exact ht e.2.1)]
    exact hgg
theorem others (h : Fr base p T W W1) {t : TypeId} {l : List Value} (hp : Blk W p t l) : KeepsOthers W W1 :=
  ⟨h.size, fun k o hk ho => by
    refine (h.keep k (Array.getElem?_eq_some_iff.1 hk).1 (fun e => ?_) (fun cs fr e => ?_)).trans hk
    · subst e
      unfold Blk at hp
      rw [hp] at hk
      simp at hk
      rw [← hk] at ho
      simp [Obj.isCells] at ho
    · rw [e] at hk
      simp at hk
      rw [← hk] at ho
      simp [Obj.isCells] at ho⟩
end Fr

/-- the same of blocks of cells alone -/
structure FrC (base p : Nat) (T : TypeId) (W W' : World) : Prop where
  below : Below base W W'
  keep : ∀ b cs t fr, W.heap[b]? = some (.cells cs t fr) → b ≠ p → t ≠ T → W'.heap[b]? = some (.cells cs t fr)
theorem Fr.c {base p : Nat} {T : TypeId} {W W' : World} (h : Fr base p T W W') : FrC base p T W W' :=
  ⟨h.below, fun b cs t fr hb hp ht => (h.keep b (Array.getElem?_eq_some_iff.1 hb).1 hp (fun cs' fr' e => by rw [hb] at e; simp at e; exact ht e.2.1)).trans hb⟩
theorem FrC.refl (base p : Nat) (T : TypeId) (W : World) : FrC base p T W W := (Fr.refl base p T W).c
theorem FrC.trans {base p : Nat} {T : TypeId} {W W1 W2 : World} (h : FrC base p T W W1) (k : FrC base p T W1 W2) : FrC base p T W W2 :=
  ⟨h.below.trans k.below, fun b cs t fr hb hp ht => k.keep b cs t fr (h.keep b cs t fr hb hp ht) hp ht⟩
theorem FrC.blk {base p : Nat} {T : TypeId} {W W1 : World} (h : FrC base p T W W1) {b : Nat} {t : TypeId} {l : List Value} (hb : Blk W b t l) (hp : b ≠ p) (ht : t ≠ T) : Blk W1 b t l := h.keep b _ _ _ hb hp ht
theorem FrC.own {base p : Nat} {T : TypeId} {W W1 : World} (h : FrC base p T W W1) {b0 size n : Nat} {t : TypeId} {v : Value} {xs : List Value} (ho : W.ownsRow b0 t size v n xs) (hp : v.ownBlock ≠ some p) (ht : t ≠ T) : W1.ownsRow b0 t size v n xs := by
  refine ⟨ho.1, ?_⟩
  rcases ho.2 with hn | ⟨g, cap, cur, rfl, hb, hgg, rest⟩
  · exact .inl hn
  · exact .inr ⟨g, cap, cur, rfl, hb, h.keep g _ _ _ hgg (fun e => hp (by rw [e]; rfl)) ht, rest⟩
/-- the cells of a list of elements, each of sz cells -/
def cellsOf {α : Type} (ec : α → List Value) (es : List α) : List Value := es.flatMap ec
theorem cellsOf_append {α : Type} (ec : α → List Value) (xs ys : List α) : cellsOf ec (xs ++ ys) = cellsOf ec xs ++ cellsOf ec ys := by simp [cellsOf]
theorem cellsOf_one {α : Type} (ec : α → List Value) (x : α) : cellsOf ec [x] = ec x := by simp [cellsOf]
theorem cellsOf_length {α : Type} {ec : α → List Value} {sz : Nat} (he : ∀ x, (ec x).length = sz) (es : List α) : (cellsOf ec es).length = es.length * sz := by
  induction es with
  | nil => simp [cellsOf]
  | cons x es ih =>
    have : cellsOf ec (x :: es) = ec x ++ cellsOf ec es := by simp [cellsOf]
    rw [this, List.length_append, ih, he, List.length_cons, Nat.add_mul]
    omega
theorem cellsOf_at {α : Type} {ec : α → List Value} {sz : Nat} (he : ∀ x, (ec x).length = sz) (es : List α) (z : α) {i j : Nat} (hi : i < es.length) (hj : j < sz) : (cellsOf ec es)[i * sz + j]? = (ec (es.getD i z))[j]? := by
  induction es generalizing i with
  | nil => simp at hi
  | cons x es ih =>
    have e : cellsOf ec (x :: es) = ec x ++ cellsOf ec es := by simp [cellsOf]
    rw [e]
    cases i with
    | zero =>
      rw [List.getElem?_append_left (by rw [he]; omega)]
      simp
    | succ i =>
      rw [List.getElem?_append_right (by rw [he, Nat.add_mul]; omega), he]
      rw [show (i + 1) * sz + j - sz = i * sz + j from by rw [Nat.add_mul]; omega]
      rw [ih (by simpa using hi)]
      simp
theorem cellsOf_take {α : Type} {ec : α → List Value} {sz : Nat} (he : ∀ x, (ec x).length = sz) (es : List α) (m : Nat) : (cellsOf ec es).take (m * sz) = cellsOf ec (es.take m) := by
  induction es generalizing m with
  | nil => simp [cellsOf]
  | cons x es ih =>
    have e : ∀ l : List α, cellsOf ec (x :: l) = ec x ++ cellsOf ec l := fun l => by simp [cellsOf]
    cases m with
    | zero => simp [cellsOf]
    | succ m =>
      rw [e, List.take_succ_cons, e, Nat.add_mul, Nat.one_mul, Nat.add_comm, ← he x, List.take_length_add_append]
      rw [he x, ih]
theorem cellsOf_set {α : Type} {ec : α → List Value} {sz : Nat} (he : ∀ x, (ec x).length = sz) (es : List α) (i : Nat) (x : α) : cellsOf ec (es.set i x) = (cellsOf ec es).take (i * sz) ++ ((if i < es.length then ec x else []) ++ (cellsOf ec es).drop ((i + 1) * sz)) := by
  induction es generalizing i with
  | nil => simp [cellsOf]
  | cons y es ih =>
    have e : ∀ (y : α) (l : List α), cellsOf ec (y :: l) = ec y ++ cellsOf ec l := fun y l => by simp [cellsOf]
    cases i with
    | zero =>
      rw [List.set_cons_zero, e, e]
      simp [← he y]
    | succ i =>
      rw [List.set_cons_succ, e, ih, e, Nat.add_mul, Nat.one_mul, Nat.add_comm (i * sz) sz, ← he y, List.take_length_add_append]
      rw [Nat.add_mul (i + 1) 1, Nat.one_mul, Nat.add_comm ((i + 1) * (ec y).length) (ec y).length, List.drop_length_add_append]
      simp [he, Nat.add_mul, Nat.add_comm]

/-- a row's cells written from a place on -/
def setL (l : List Value) (o : Nat) : List Value → List Value
  | [] => l
  | v :: vs => setL (l.set o v) (o + 1) vs
theorem setL_eq (vs : List Value) : ∀ (l : List Value) (o : Nat), o + vs.length ≤ l.length → setL l o vs = l.take o ++ (vs ++ l.drop (o + vs.length)) := by
  induction vs with
  | nil => intro l o h; simp [setL]
  | cons v vs ih =>
    intro l o h
    simp only [List.length_cons] at h
    rw [setL, ih _ _ (by simp; omega)]
    have h1 : (l.set o v).take (o + 1) = l.take o ++ [v] := by
      rw [List.take_succ_eq_append_getElem (i := o) (by simp; omega), List.getElem_set_self, List.take_set_of_le (Nat.le_refl _)]
    have h2 : (l.set o v).drop (o + 1 + vs.length) = l.drop (o + (vs.length + 1)) := by
      rw [List.drop_set_of_lt (by omega)]
      congr 1
      omega
    rw [h1, h2, List.length_cons]
    simp
theorem cellsOf_setL {α : Type} {ec : α → List Value} {sz : Nat} (he : ∀ x, (ec x).length = sz) (es : List α) (i : Nat) (x : α) (hi : i < es.length) : cellsOf ec (es.set i x) = setL (cellsOf ec es) (i * sz) (ec x) := by
  have hl := cellsOf_length he es
  have hm : (i + 1) * sz ≤ es.length * sz := Nat.mul_le_mul_right _ hi
  rw [setL_eq _ _ _ (by rw [he, hl]; rw [Nat.add_mul] at hm; omega), cellsOf_set he, if_pos hi, he, Nat.add_mul, Nat.one_mul]
theorem ownsRow_storedL {base : Nat} {e : TypeId} {size g n cap : Nat} (vs : List Value) : ∀ {w : World} {xs : List Value} (o : Nat), w.ownsRow base e size (.slice (some ⟨g, 0, none⟩) n cap) n xs →
    (w.setCells g o vs).ownsRow base e size (.slice (some ⟨g, 0, none⟩) n cap) n (setL xs o vs) := by
  induction vs with
  | nil => intro w xs o h; exact h
  | cons v vs ih => intro w xs o h; exact ih (o + 1) (h.stored o v).1
theorem Fr.setRowL {base p : Nat} {T : TypeId} {W : World} {g : Nat} (hb : base ≤ g) (vs : List Value) : ∀ {W1 : World} (o : Nat), Fr base p T W W1 → (∃ cs fr, W1.heap[g]? = some (.cells cs T fr)) → Fr base p T W (W1.setCells g o vs) ∧ ∃ cs fr, (W1.setCells g o vs).heap[g]? = some (.cells cs T fr) := by
  induction vs with
  | nil => intro W1 o h k; exact ⟨h, k⟩
  | cons v vs ih =>
    intro W1 o h ⟨cs, fr, k⟩
    refine ih (o + 1) (h.setRow hb k o v) ⟨cs.setIfInBounds o v, fr, ?_⟩
    simp [World.setCell, Array.getElem?_modify, k]

theorem grownBy_setAt (W : World) (b i : Nat) (v : Value) : W.grownBy (W.setCell ⟨b, i, none⟩ v) (some b) :=
  ⟨rfl, rfl, rfl, by simp [World.setCell], fun k _ hne => Below.heap_setCell W ⟨b, i, none⟩ v k (fun e => hne (by rw [e]))⟩
theorem own_setCell {w : World} {base n size : Nat} {e : TypeId} {v : Value} {xs : List Value} (h : w.ownsRow base e size v n xs) {b : Nat} (hne : v.ownBlock ≠ some b) (i : Nat) (u : Value) : (w.setCell ⟨b, i, none⟩ u).ownsRow base e size v n xs :=
  h.kept (grownBy_setAt w b i u) (.inr hne)
theorem own_typ {w : World} {base n size : Nat} {e : TypeId} {v : Value} {xs : List Value} (h : w.ownsRow base e size v n xs) : ∀ k, v.ownBlock = some k → base ≤ k ∧ ∃ cs fr, w.heap[k]? = some (.cells cs e fr) := by
  intro k hk
  rcases h.2 with ⟨rfl, _⟩ | ⟨g, cap, cur, rfl, hb, hg, _⟩
  · simp [Value.ownBlock] at hk
  · have e' : g = k := by simpa [Value.ownBlock] using hk
    subst e'
    exact ⟨hb, cur, (0, 0), hg⟩
theorem own_apart {W : World} {base n size p : Nat} {e t : TypeId} {v : Value} {xs l : List Value} (hP : Blk W p t l) (ho : W.ownsRow base e size v n xs) (ht : t ≠ e) : v.ownBlock ≠ some p := by
  intro hk
  obtain ⟨_, cs, fr, hc⟩ := own_typ ho p hk
  unfold Blk at hP
  rw [hP] at hc
  simp at hc
  exact ht hc.2.1

theorem news_blk {w : World} {b : Nat} {t : TypeId} {news : List Value} (h : Blk w b t news) : ∀ j u, news[j]? = some u → w.cell? ((⟨b, 0, none⟩ : Addr).add j) = some u := by
  intro j u hu
  have hadd : (⟨b, 0, none⟩ : Addr).add j = ⟨b, j, none⟩ := by unfold Addr.add; split <;> simp_all
  rw [hadd]
  exact h.cell hu
theorem Blk.new2 (W : World) (o : Obj) (l : List Value) (t : TypeId) : Blk ((W.alloc o).alloc (.cells l.toArray t)) (W.heap.size + 1) t l := by
  have := Blk.new (W.alloc o) l t
  rw [World.size_alloc] at this
  exact this

/-- 'clear(s)' on a slice of one element: its cells hold the zero value's. -/
theorem run_clear_one {P : Program} (w : World) (t e ty : TypeId) (z : Value) (zs : List Value) (ht : P.underlying t = some (.slice e)) (hv : ∀ w, (zeroValue e).run P w = .ok z w) (hz : z.cells.toList = zs) (h1 : ∀ v ∈ zs, v.oneCell' = true) (b o c : Nat)
    (hc : ∀ j, j < zs.length → (w.cell? ⟨b, o + j, none⟩).isSome = true) (hf : ∀ j, j < zs.length → w.frozen? ⟨b, o + j, none⟩ = false) :
    (Builtin.clear_ #[t] ty #[.slice (some ⟨b, o, none⟩) 1 c]).run P w = .ok (.tuple #[]) (w.setCells b o zs) := by
  have hzc : (Builtin.zeroCells z.cells 1).toList = zs := by
    rw [← hz]
    simp [Builtin.zeroCells]
    apply List.ext_getElem
    · simp
    · intro i h1 h2
      simp at h1 h2
      simp [Nat.mod_eq_of_lt h2, h2]
  have hst := run_storeCells_cells (P := P) b o zs 0 w (by simpa using hc) (by simpa using hf) h1
  simp only [Nat.add_zero] at hst
  simp [Builtin.clear_, run_underlying ht, hv, hzc, hst]

end Go.Proofs.Ytbhpokcnkdgcmaa

/- a range over a function whose iterator may turn cells of its own between two rounds: one law for the caller, with a predicate for each station. -/
namespace Go.Proofs.Ytbhpokcnkdgcmaa
open Go.RowKit

theorem belowOthers {A B : World} (h : Below A.heap.size A B) : KeepsOthers A B := ⟨h.size, fun k _ hk _ => (h.block k (Array.getElem?_eq_some_iff.1 hk).1).trans hk⟩

theorem blk_own {β : Type} (b : Nat) (t : TypeId) (l : β → List Value) : Own (fun s W => Blk W b t (l s)) := fun s A B row hs hg hr =>
  hs.kept hg (fun e => by
    obtain ⟨o, ho, hc⟩ := hr b e.symm
    have hs' : A.heap[b]? = _ := hs
    rw [hs'] at ho
    cases ho
    simp [Obj.isCells] at hc)

/-- what a body owes at each of its ways out -/
def genPost (B : Nat) (Post : World → Prop) (Ix : Code → World → Prop) (W : World) : Exit → Act → World → Prop
  | .normal, _, W' => KeepsFrom B W W' ∧ Post W'
  | .ret, _, W' => KeepsFrom B W W' ∧ Ix .ret W'
  | .exit id, _, W' => KeepsFrom B W W' ∧ Ix (.exit id) W'
  | .goto t, _, W' => KeepsFrom B W W' ∧ Ix (.goto t) W'
  | .panic _, _, _ => False
  | .outgrown, _, _ => False

/-- what an iterator owes: called with a yield that serves it, it ends well, or has been stopped -/
def IterOk (F : Fence) (n : Nat) (P : Program) (gf : Nat) (lb : Array Value) {α : Type} (encs : α → Array Value) (Start : World → Prop) (Pre Post : α → World → Prop) (Fin : World → Prop) : Prop :=
  ∀ (l : Nat) (Rc JX : World → Prop) (W1 : World), (∀ A A', Rc A → KeepsOthers A A' → Rc A') → (∀ A A', JX A → A.grownBy A' none → JX A') → Rc W1 → Start W1 →
    (∀ x W, Pre x W → Rc W → YieldAt F (n - 1) P l (encs x) W fun e W' => (e = .returned (.bool true) ∧ Post x W' ∧ Rc W') ∨ (e = .returned (.bool false) ∧ JX W')) →
    CallsIn F n P gf (#[.func (.yield l) #[] #[]] ++ lb) W1 fun e W' => (∃ v, e = .returned v) ∧ ((Fin W' ∧ Rc W') ∨ JX W')

section
variable {F : Fence} {n : Nat} {P : Program}

theorem range_gen {α : Type} {g : Operand} {ps : Array Tmp} {assign body : Code} {Q : Exit → Act → World → Prop} {a : Act} {w : World}
    (hro : F.round = none) (h1 : 1 ≤ n) {gf : Nat} {lb : Array Value} (hg : a.eval g = .func (.func gf) #[] lb) (hFg : F.fn gf) (eg : ∀ args w, (callFunc gf args).run P w = .ok (.enter gf args) w)
    {encs : α → Array Value} (hps : ∀ x, (encs x).size = ps.size)
    (Start : World → Prop) (Pre Post : α → World → Prop) (Ix : Code → World → Prop) (Fin : World → Prop) (Mid : α → Act → World → Prop)
    (sStart : OwnFrom w.heap.size (fun (_ : Unit) W => Start W)) (sPost : ∀ x, OwnFrom w.heap.size (fun (_ : Unit) W => Post x W)) (sIx : ∀ c, OwnFrom w.heap.size (fun (_ : Unit) W => Ix c W)) (sFin : OwnFrom w.heap.size (fun (_ : Unit) W => Fin W)) (sMid : ∀ x a', OwnFrom w.heap.size (fun (_ : Unit) W => Mid x a' W))
    (h0 : Start w) (hit : IterOk F (n - 1) P gf lb encs Start Pre Post Fin)
    (hassign : ∀ (l : Nat) (x : α) (W : World) (K : Act → World → Prop), Pre x W → (∀ a' W', KeepsFrom w.heap.size W W' → Mid x a' W' → K a' W') →
      assign.wpIn (F.inRound l) (n - 1 - 1) P (Exit.then K (fun _ _ _ => False)) { tmps := (ps.zip (encs x)).foldl (fun t (p, v) => t.setIfInBounds p v) a.tmps, defers := [] } W)
    (hbody : ∀ (l : Nat) (x : α) (a' : Act) (W : World), w.heap.size ≤ l → (∃ r, W.heap[l]? = some (.loop r)) → Mid x a' W → body.wpIn (F.inRound l) (n - 1 - 1) P (genPost w.heap.size (Post x) Ix W) a' W)
    (hdone : ∀ (D : Nat) (W : World), w.heap.size ≤ D → Fin W → W.heap[D]? = some (.deferred (some [])) → Q .normal { a with defers := { target := .collected D, args := #[] } :: a.defers } W)
    (hstop : ∀ (D : Nat) (c : Code) (W : World), w.heap.size ≤ D → Ix c W → W.heap[D]? = some (.deferred (some [])) → c.wpIn F n P Q { a with defers := { target := .collected D, args := #[] } :: a.defers } W) :
    (Code.rangeFunc g ps assign body).wpIn F n P Q a w := by
  refine wpIn_rangeFunc ?_
  intro fn hfn
  rw [hro]
  obtain ⟨rec, hrec⟩ : ∃ rec : LoopState → Option Code → Loop, rec = fun st pe => { state := st, pending := pe, fn, tmps := a.tmps, params := ps, assign, body, defers := w.heap.size } := ⟨_, rfl⟩
  obtain ⟨W1, hW1⟩ : ∃ W1, (w.alloc (.deferred (some []))).alloc (.loop (rec .ready none)) = W1 := ⟨_, rfl⟩
  have hL1 : W1.heap[w.heap.size + 1]? = some (.loop (rec .ready none)) := by
    rw [← hW1]; have := World.alloc_heap_new (w.alloc (.deferred (some []))) (.loop (rec .ready none)); rwa [World.size_alloc] at this
  have hK1 : W1.heap[w.heap.size]? = some (.deferred (some [])) := by
    rw [← hW1]; exact (Below.heap_alloc _ _ _ (by simp)).trans (World.alloc_heap_new w _)
  have hS1 : Start W1 := by rw [← hW1]; exact sStart.alloc (s := ()) _ (sStart.alloc (s := ()) _ h0)
  refine ⟨w.heap.size + 1, [{ target := .collected w.heap.size, args := #[] }], W1, { target := .fn (.func gf) lb, args := #[.func (.yield (w.heap.size + 1)) #[] #[]] }, W1, gf,
    #[.func (.yield (w.heap.size + 1)) #[] #[]] ++ lb, W1, ?_, ?_, ?_, ?_, fun _ => h1, ?_⟩
  · rw [← hW1, hrec]; exact run_enterLoop_outer _ _ _ _ _
  · simp only [resolve, hg]
    simp [go_sem]
  · intro f' hf'; simp [Target.leads] at hf'; subst hf'; exact hFg
  · simp [invoke, go_sem, eg]
  · have hRc := hit (w.heap.size + 1)
      (fun W => W.heap[w.heap.size + 1]? = some (.loop (rec .ready none)) ∧ W.heap[w.heap.size]? = some (.deferred (some [])))
      (fun W => ∃ c, Ix c W ∧ W.heap[w.heap.size + 1]? = some (.loop (rec .done (some c))) ∧ W.heap[w.heap.size]? = some (.deferred (some [])))
      W1 (fun A A' hA hk => ⟨hk.same _ _ hA.1 rfl, hk.same _ _ hA.2 rfl⟩)
      (fun A A' hA hg' => by
        obtain ⟨c, hc, hl, hk⟩ := hA
        exact ⟨c, sIx c () A A' none hc hg' (fun r e => by cases e), (hg'.block _ (Array.getElem?_eq_some_iff.1 hl).1 (by simp)).trans hl, (hg'.block _ (Array.getElem?_eq_some_iff.1 hk).1 (by simp)).trans hk⟩)
      ⟨hL1, hK1⟩ hS1 ?_
    · refine hRc.mono ?_
      rintro e W2 ⟨⟨v, rfl⟩, (⟨hF, hl, hk⟩ | ⟨c, hi, hl, hk⟩)⟩
      · exact ⟨none, _, by have := run_endLoop (P := P) hl (by rw [hrec]; simp); rw [hrec] at this; exact this, hdone _ _ (Nat.le_refl _) (sFin.putObj (s := ()) _ hF (by omega) hl rfl) ((World.putObj_heap_other (by omega)).trans hk)⟩
      · exact ⟨some c, _, by have := run_endLoop (P := P) hl (by rw [hrec]; simp); rw [hrec] at this; exact this, hstop _ c _ (Nat.le_refl _) ((sIx c).putObj (s := ()) _ hi (by omega) hl rfl) ((World.putObj_heap_other (by omega)).trans hk)⟩
    · rintro x W hp ⟨hl, hk⟩
      have hy := run_yield (P := P) (args := encs x) hl (by rw [hrec]; exact hps x)
      rw [hrec] at hy
      refine ⟨fn, _, assign, body, hy, roundIn_of_wpIn hfn (hassign _ x W _ hp ?_)⟩
      clear hy
      intro a' Wa hkfa hmid
      replace hl := hkfa.same _ _ (by omega) hl rfl
      replace hk := hkfa.same _ _ (Nat.le_refl _) hk rfl
      have hlt : w.heap.size + 1 < Wa.heap.size := (Array.getElem?_eq_some_iff.1 hl).1
      refine ⟨_, run_beginRound hl (by rw [hrec]), ?_⟩
      have hl2 : (Wa.putObj (w.heap.size + 1) (.loop { rec .ready none with state := .busy })).heap[w.heap.size + 1]? = some (.loop { rec .ready none with state := .busy }) := World.putObj_heap_same hlt
      have hk2 : (Wa.putObj (w.heap.size + 1) (.loop { rec .ready none with state := .busy })).heap[w.heap.size]? = some (.deferred (some [])) := (World.putObj_heap_other (by omega)).trans hk
      refine wpIn_mono (hbody _ x a' _ (by omega) ⟨_, hl2⟩ ((sMid x a').putObj (s := ()) _ hmid (by omega) hl rfl)) ?_
      have fin : ∀ (jump : Option Code) (W3 : World), KeepsFrom w.heap.size (Wa.putObj (w.heap.size + 1) (.loop { rec .ready none with state := .busy })) W3 →
          (Instr.endRound (w.heap.size + 1) jump).run P W3 = .ok (.bool jump.isNone) (W3.putObj (w.heap.size + 1) (.loop (rec (if jump.isNone then .ready else .done) jump))) ∧
          W3.heap[w.heap.size + 1]? = some (.loop { rec .ready none with state := .busy }) ∧
          (W3.putObj (w.heap.size + 1) (.loop (rec (if jump.isNone then .ready else .done) jump))).heap[w.heap.size + 1]? = some (.loop (rec (if jump.isNone then .ready else .done) jump)) ∧
          (W3.putObj (w.heap.size + 1) (.loop (rec (if jump.isNone then .ready else .done) jump))).heap[w.heap.size]? = some (.deferred (some [])) := fun jump W3 hk3 => by
        have hl3 := hk3.same _ _ (by omega) hl2 rfl
        have := run_endRound (P := P) jump hl3
        rw [hrec] at this ⊢
        exact ⟨this, by rw [hrec] at hl3; exact hl3, World.putObj_heap_same (Array.getElem?_eq_some_iff.1 hl3).1, (World.putObj_heap_other (by omega)).trans (hk3.same _ _ (Nat.le_refl _) hk2 rfl)⟩
      rintro e a3 W3 hp3
      cases e with
      | normal =>
        obtain ⟨hk3, hi3⟩ := hp3
        obtain ⟨hr, hl3, hl4, hk4⟩ := fin none W3 hk3
        exact ⟨_, _, hr, .inl ⟨rfl, (sPost x).putObj (s := ()) _ hi3 (by omega) hl3 rfl, hl4, hk4⟩⟩
      | ret =>
        obtain ⟨hk3, hi3⟩ := hp3
        obtain ⟨hr, hl3, hl4, hk4⟩ := fin (some .ret) W3 hk3
        exact ⟨_, _, hr, .inr ⟨rfl, .ret, (sIx _).putObj (s := ()) _ hi3 (by omega) hl3 rfl, hl4, hk4⟩⟩
      | exit id =>
        obtain ⟨hk3, hi3⟩ := hp3
        obtain ⟨hr, hl3, hl4, hk4⟩ := fin (some (.exit id)) W3 hk3
        exact ⟨_, _, hr, .inr ⟨rfl, .exit id, (sIx _).putObj (s := ()) _ hi3 (by omega) hl3 rfl, hl4, hk4⟩⟩
      | goto t =>
        obtain ⟨hk3, hi3⟩ := hp3
        obtain ⟨hr, hl3, hl4, hk4⟩ := fin (some (.goto t)) W3 hk3
        exact ⟨_, _, hr, .inr ⟨rfl, .goto t, (sIx _).putObj (s := ()) _ hi3 (by omega) hl3 rfl, hl4, hk4⟩⟩
      | panic ch => exact hp3.elim
      | outgrown => exact hp3.elim
end

end Go.Proofs.Ytbhpokcnkdgcmaa

/- what a sequence hands out; a slice that is read. -/
namespace Go.Proofs.Ytbhpokcnkdgcmaa
open Go.RowKit

/-- called with a yield that serves it, whatever else turns but what lies below n₀: all of zs come, in order -/
def Gives (G : Nat) (lb : Array Value) (n₀ : Nat) (W0 : World) {α : Type} (ev : α → Value) (zs : List α) (d : α) : Prop :=
  (∀ args w, (callFunc G args).run Try.prog w = .ok (.enter G args) w) ∧
  ∀ (n : Nat) (Inv : Nat → World → Prop), (∀ k W, Inv k W → Below n₀ W0 W) → (∀ k W o, Inv k W → Inv k (W.alloc o)) →
    IterOk Fence.wide n Try.prog G lb (fun k : Nat => #[ev (zs.getD k d)]) (Inv 0) (fun k W => k < zs.length ∧ Inv k W) (fun k W => Inv (k + 1) W) (Inv zs.length)
theorem Gives.later {G : Nat} {lb : Array Value} {n₀ : Nat} {W0 W1 : World} {α : Type} {ev : α → Value} {zs : List α} {d : α} (h : Gives G lb n₀ W0 ev zs d) (hb : Below n₀ W0 W1) : Gives G lb n₀ W1 ev zs d :=
  ⟨h.1, fun n Inv h1 h2 => h.2 n Inv (fun k W hk => hb.trans (h1 k W hk)) h2⟩

/-- the slice value sv reads as zs, in a block below n₀; each element of n cells -/
def Rd {α : Type} (cv : α → List Value) (n n₀ : Nat) (W : World) (sv : Value) (zs : List α) : Prop :=
  (∃ a cap, sv = .slice a 0 cap ∧ zs = []) ∨ ∃ b off cap, sv = .slice (some ⟨b, off, none⟩) zs.length cap ∧ b < n₀ ∧ ∀ j x, zs[j]? = some x → ∀ c v, (cv x)[c]? = some v → W.cell? ⟨b, off + j * n + c, none⟩ = some v
theorem Rd.below {α : Type} {cv : α → List Value} {n n₀ : Nat} {A B : World} {sv : Value} {zs : List α} (h : Rd cv n n₀ A sv zs) (hb : Below n₀ A B) : Rd cv n n₀ B sv zs := by
  rcases h with e | ⟨b, off, cap, e, hlt, hc⟩
  · exact .inl e
  · exact .inr ⟨b, off, cap, e, hlt, fun j x hx c v hv => (hb.cell (p := ⟨b, off + j * n + c, none⟩) hlt).trans (hc j x hx c v hv)⟩
theorem Rd.mono {α : Type} {cv : α → List Value} {n n₀ n₁ : Nat} {A : World} {sv : Value} {zs : List α} (h : Rd cv n n₀ A sv zs) (hn : n₀ ≤ n₁) : Rd cv n n₁ A sv zs := by
  rcases h with e | ⟨b, off, cap, e, hlt, hc⟩
  · exact .inl e
  · exact .inr ⟨b, off, cap, e, Nat.lt_of_lt_of_le hlt hn, hc⟩
end Go.Proofs.Ytbhpokcnkdgcmaa

/- slices that came in, opened: each element's cells. -/
namespace Go.Proofs.Ytbhpokcnkdgcmaa
open Go.RowKit Go.ChangeShapes Go.WideShapes

theorem addr_add (b off i : Nat) : (⟨b, off, none⟩ : Addr).add i = ⟨b, off + i, none⟩ := by
  unfold Addr.add
  by_cases h : i = 0 <;> simp [h]
theorem cell_spot {w : World} {a : Addr} {v : Value} (h : w.cell? a = some v) : a = ⟨a.block, a.off, none⟩ ∧ a.block < w.heap.size := by
  unfold World.cell? at h
  cases hb : w.heap[a.block]? with
  | none => rw [hb] at h; simp at h
  | some o =>
    refine ⟨?_, (Array.getElem?_eq_some_iff.1 hb).1⟩
    rw [hb] at h
    obtain ⟨b, off, s⟩ := a
    cases s with
    | none => rfl
    | some s => cases o <;> simp at h

section
variable {H : Type} {enc : TypeId × Value → H} {P : Program} {w : World} {base : Nat} {spare : Nat → Bool} {held : Bool}

end

end Go.Proofs.Ytbhpokcnkdgcmaa
