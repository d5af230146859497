/- Open, Kd, laid together. -/
import Derived.WalkKit
import Derived.RangeFuncBox
import Derived.RangeFuncOwn
import Derived.Deep.Draws
import Derived.Laws.IdiomCopy
import Derived.Lib.Hide
import Derived.RangeFuncNested
import Derived.RangeFuncCalls
import Derived.RangeFuncWrites
import Derived.RangeFuncLeaves
import Derived.Shelf.Abstract
import Derived.Shelf.RegionOpen
import Derived.OwnWalkIn
import Derived.TacticsInMore
import Derived.LoopNIn
import Derived.LoopIn
import Derived.Test.YtnlhgnioedalpaaRows
import Derived.Deep.Slices
import Derived.ChangeSame
import Derived.OpenShut
import Derived.Test.YtnlhgnioedalpaaWWords
import Derived.Laws.AppendOwnNone
import Derived.Maps.AppendAt

/- words on memory: a block known whole, a row of elements, what a call turns. -/
namespace Go.Proofs.Ytnlhgnioedalpaa
open Go.RowKit

/-- block b holds exactly these cells -/
def Blk (W : World) (b : Nat) (t : TypeId) (l : List Value) : Prop := W.heap[b]? = some (.cells l.toArray t (0, 0))
namespace Blk
variable {W W' : World} {b : Nat} {t : TypeId} {l : List Value}
theorem lt (h : Blk W b t l) : b < W.heap.size := (Array.getElem?_eq_some_iff.1 h).1
theorem cell (h : Blk W b t l) {i : Nat} {v : Value} (hv : l[i]? = some v) : W.cell? ⟨b, i, none⟩ = some v := by
  rw [cell_of_row W b i l.toArray t (0, 0) h]
  simpa using hv
theorem frozen (h : Blk W b t l) (i : Nat) : W.frozen? ⟨b, i, none⟩ = false := frozen_of_row W b i l.toArray t h
theorem new (W : World) (l : List Value) (t : TypeId) : Blk (W.alloc (.cells l.toArray t)) W.heap.size t l := World.alloc_heap_new W _
theorem kept {row : Option Nat} (h : Blk W b t l) (hg : W.grownBy W' row) (hne : some b ≠ row) : Blk W' b t l := (hg.block b h.lt hne).trans h
theorem alloc (h : Blk W b t l) (o : Obj) : Blk (W.alloc o) b t l := h.kept (World.grownBy_alloc W o none) (by simp)
theorem set (h : Blk W b t l) (i : Nat) (v : Value) : Blk (W.setCell ⟨b, i, none⟩ v) b t (l.set i v) := by
  have := heap_setCell_same W b i l.toArray t v h
  unfold Blk
  rw [this]
  simp
theorem other (h : Blk W b t l) {p : Addr} (hne : b ≠ p.block) (v : Value) : Blk (W.setCell p v) b t l := (Below.heap_setCell W p v b hne).trans h
theorem drewN (h : Blk W b t l) (n : Nat) : Blk (W.drewN n) b t l := h
theorem drew (h : Blk W b t l) : Blk W.drew b t l := h
theorem below {B : Nat} (h : Blk W b t l) (hb : Below B W W') (hlt : b < B) : Blk W' b t l := (hb.block b hlt).trans h
theorem belowS (h : Blk W b t l) (hb : Below W.heap.size W W') : Blk W' b t l := h.below hb h.lt
theorem inj {t' : TypeId} {l' : List Value} (h : Blk W b t l) (h' : Blk W b t' l') : t = t' ∧ l = l' := by
  unfold Blk at h h'
  rw [h] at h'
  simp at h'
  exact ⟨h'.2, h'.1⟩
end Blk

theorem bcell {W w1 : World} (hb : Below W.heap.size W w1) : (∀ b o, b < W.heap.size → w1.cell? ⟨b, o, none⟩ = W.cell? ⟨b, o, none⟩) ∧ (∀ b o, b < W.heap.size → w1.frozen? ⟨b, o, none⟩ = W.frozen? ⟨b, o, none⟩) :=
  ⟨fun b o h => hb.cell (p := ⟨b, o, none⟩) h, fun b o h => hb.frozen (p := ⟨b, o, none⟩) h⟩

/-- what is no cells, lies at or beyond base: what a call on an object (block p, rows of element type T) turns -/
structure Fr (base p : Nat) (T : TypeId) (W W' : World) : Prop where
  below : Below base W W'
  keep : ∀ b, b < W.heap.size → b ≠ p → (∀ cs fr, W.heap[b]? ≠ some (.cells cs T fr)) → W'.heap[b]? = W.heap[b]?
namespace Fr
variable {base p : Nat} {T : TypeId} {W W1 W2 : World}
theorem refl (base p : Nat) (T : TypeId) (W : World) : Fr base p T W W := ⟨Below.refl _ _, fun _ _ _ _ => rfl⟩
theorem trans (h : Fr base p T W W1) (k : Fr base p T W1 W2) : Fr base p T W W2 :=
  ⟨h.below.trans k.below, fun b hb hp hT => by
    have e := h.keep b hb hp hT
    rw [k.keep b (Nat.lt_of_lt_of_le hb h.below.size) hp (fun cs fr => by rw [e]; exact hT cs fr), e]⟩
theorem alloc (h : Fr base p T W W1) (hb : base ≤ W1.heap.size) (o : Obj) : Fr base p T W (W1.alloc o) :=
  h.trans ⟨(Below.refl base W1).alloc hb o, fun b hlt _ _ => Below.heap_alloc W1 o b hlt⟩
theorem drewN (h : Fr base p T W W1) (n : Nat) : Fr base p T W (W1.drewN n) := ⟨⟨h.below.os, h.below.tape, h.below.output, h.below.size, h.below.block⟩, h.keep⟩
theorem drew (h : Fr base p T W W1) : Fr base p T W W1.drew := ⟨h.below.drew, h.keep⟩
theorem setP (h : Fr base p T W W1) (hb : base ≤ p) (i : Nat) (v : Value) : Fr base p T W (W1.setCell ⟨p, i, none⟩ v) :=
  h.trans ⟨(Below.refl base W1).setCell (p := ⟨p, i, none⟩) hb v, fun b _ hne _ => Below.heap_setCell W1 _ v b hne⟩
theorem grown (h : Fr base p T W W1) {row : Option Nat} (hg : W1.grownBy W2 row) (hbs : base ≤ W1.heap.size) (hr : ∀ k, row = some k → base ≤ k ∧ ∃ cs fr, W1.heap[k]? = some (.cells cs T fr)) : Fr base p T W W2 :=
  h.trans ⟨(Below.refl base W1).grown hg hbs (fun k e => (hr k e).1), fun b hb _ hT => hg.block b hb (fun e => by
    obtain ⟨_, cs, fr, hk⟩ := hr b e.symm
    exact hT cs fr hk)⟩
theorem ofBelow (h : Fr base p T W W1) (hb : Below W1.heap.size W1 W2) (hs : base ≤ W1.heap.size) : Fr base p T W W2 :=
  h.trans ⟨hb.mono hs, fun b hlt _ _ => hb.block b hlt⟩
theorem size (h : Fr base p T W W1) : W.heap.size ≤ W1.heap.size := h.below.size
theorem blk (h : Fr base p T W W1) {b : Nat} {t : TypeId} {l : List Value} (hb : Blk W b t l) (hp : b ≠ p) (ht : t ≠ T) : Blk W1 b t l :=
  (h.keep b hb.lt hp (fun cs fr e => by unfold Blk at hb; rw [hb] at e; simp at e; exact ht e.2.1)).trans hb
theorem own (h : Fr base p T W W1) {b0 size n : Nat} {t : TypeId} {v : Value} {xs : List Value} (ho : W.ownsRow b0 t size v n xs) (hp : v.ownBlock ≠ some p) (ht : t ≠ T) : W1.ownsRow b0 t size v n xs := by
  refine ⟨ho.1, ?_⟩
  rcases ho.2 with hn | ⟨g, cap, cur, rfl, hb, hgg, rest⟩
  · exact .inl hn
  · refine .inr ⟨g, cap, cur, rfl, hb, ?_, rest⟩
    rw [h.keep g (Array.getElem?_eq_some_iff.1 hgg).1 (fun e => hp (by rw [e]; rfl)) (fun cs fr e => by rw [hgg] at e; simp at e; exact ht e.2.1)]
    exact hgg
theorem others (h : Fr base p T W W1) {t : TypeId} {l : List Value} (hp : Blk W p t l) : KeepsOthers W W1 :=
  ⟨h.size, fun k o hk ho => by
    refine (h.keep k (Array.getElem?_eq_some_iff.1 hk).1 (fun e => ?_) (fun cs fr e => ?_)).trans hk
    · subst e
      unfold Blk at hp
      rw [hp] at hk
      simp at hk
      rw [← hk] at ho
      simp [Obj.isCells] at ho
    · rw [e] at hk
      simp at hk
      rw [← hk] at ho
      simp [Obj.isCells] at ho⟩
end Fr

/-- the same of blocks of cells alone -/
structure FrC (base p : Nat) (T : TypeId) (W W' : World) : Prop where
  below : Below base W W'
  keep : ∀ b cs t fr, W.heap[b]? = some (.cells cs t fr) → b ≠ p → t ≠ T → W'.heap[b]? = some (.cells cs t fr)
theorem Fr.c {base p : Nat} {T : TypeId} {W W' : World} (h : Fr base p T W W') : FrC base p T W W' :=
  ⟨h.below, fun b cs t fr hb hp ht => (h.keep b (Array.getElem?_eq_some_iff.1 hb).1 hp (fun cs' fr' e => by rw [hb] at e; simp at e; exact ht e.2.1)).trans hb⟩
theorem FrC.refl (base p : Nat) (T : TypeId) (W : World) : FrC base p T W W := (Fr.refl base p T W).c
theorem FrC.trans {base p : Nat} {T : TypeId} {W W1 W2 : World} (h : FrC base p T W W1) (k : FrC base p T W1 W2) : FrC base p T W W2 :=
  ⟨h.below.trans k.below, fun b cs t fr hb hp ht => k.keep b cs t fr (h.keep b cs t fr hb hp ht) hp ht⟩
theorem FrC.blk {base p : Nat} {T : TypeId} {W W1 : World} (h : FrC base p T W W1) {b : Nat} {t : TypeId} {l : List Value} (hb : Blk W b t l) (hp : b ≠ p) (ht : t ≠ T) : Blk W1 b t l := h.keep b _ _ _ hb hp ht
theorem FrC.own {base p : Nat} {T : TypeId} {W W1 : World} (h : FrC base p T W W1) {b0 size n : Nat} {t : TypeId} {v : Value} {xs : List Value} (ho : W.ownsRow b0 t size v n xs) (hp : v.ownBlock ≠ some p) (ht : t ≠ T) : W1.ownsRow b0 t size v n xs := by
  refine ⟨ho.1, ?_⟩
  rcases ho.2 with hn | ⟨g, cap, cur, rfl, hb, hgg, rest⟩
  · exact .inl hn
  · exact .inr ⟨g, cap, cur, rfl, hb, h.keep g _ _ _ hgg (fun e => hp (by rw [e]; rfl)) ht, rest⟩
/-- the cells of a list of elements, each of sz cells -/
def cellsOf {α : Type} (ec : α → List Value) (es : List α) : List Value := es.flatMap ec
theorem cellsOf_append {α : Type} (ec : α → List Value) (xs ys : List α) : cellsOf ec (xs ++ ys) = cellsOf ec xs ++ cellsOf ec ys := by simp [cellsOf]
theorem cellsOf_one {α : Type} (ec : α → List Value) (x : α) : cellsOf ec [x] = ec x := by simp [cellsOf]
theorem cellsOf_length {α : Type} {ec : α → List Value} {sz : Nat} (he : ∀ x, (ec x).length = sz) (es : List α) : (cellsOf ec es).length = es.length * sz := by
  induction es with
  | nil => simp [cellsOf]
  | cons x es ih =>
    have : cellsOf ec (x :: es) = ec x ++ cellsOf ec es := by simp [cellsOf]
    rw [this, List.length_append, ih, he, List.length_cons, Nat.add_mul]
    omega
theorem cellsOf_at {α : Type} {ec : α → List Value} {sz : Nat} (he : ∀ x, (ec x).length = sz) (es : List α) (z : α) {i j : Nat} (hi : i < es.length) (hj : j < sz) : (cellsOf ec es)[i * sz + j]? = (ec (es.getD i z))[j]? := by
  induction es generalizing i with
  | nil => simp at hi
  | cons x es ih =>
    have e : cellsOf ec (x :: es) = ec x ++ cellsOf ec es := by simp [cellsOf]
    rw [e]
    cases i with
    | zero =>
      rw [List.getElem?_append_left (by rw [he]; omega)]
      simp
    | succ i =>
      rw [List.getElem?_append_right (by rw [he, Nat.add_mul]; omega), he]
      rw [show (i + 1) * sz + j - sz = i * sz + j from by rw [Nat.add_mul]; omega]
      rw [ih (by simpa using hi)]
      simp
theorem cellsOf_take {α : Type} {ec : α → List Value} {sz : Nat} (he : ∀ x, (ec x).length = sz) (es : List α) (m : Nat) : (cellsOf ec es).take (m * sz) = cellsOf ec (es.take m) := by
  induction es generalizing m with
  | nil => simp [cellsOf]
  | cons x es ih =>
    have e : ∀ l : List α, cellsOf ec (x :: l) = ec x ++ cellsOf ec l := fun l => by simp [cellsOf]
    cases m with
    | zero => simp [cellsOf]
    | succ m =>
      rw [e, List.take_succ_cons, e, Nat.add_mul, Nat.one_mul, Nat.add_comm, ← he x, List.take_length_add_append]
      rw [he x, ih]
theorem cellsOf_set {α : Type} {ec : α → List Value} {sz : Nat} (he : ∀ x, (ec x).length = sz) (es : List α) (i : Nat) (x : α) : cellsOf ec (es.set i x) = (cellsOf ec es).take (i * sz) ++ ((if i < es.length then ec x else []) ++ (cellsOf ec es).drop ((i + 1) * sz)) := by
  induction es generalizing i with
  | nil => simp [cellsOf]
  | cons y es ih =>
    have e : ∀ (y : α) (l : List α), cellsOf ec (y :: l) = ec y ++ cellsOf ec l := fun y l => by simp [cellsOf]
    cases i with
    | zero =>
      rw [List.set_cons_zero, e, e]
      simp [← he y]
    | succ i =>
      rw [List.set_cons_succ, e, ih, e, Nat.add_mul, Nat.one_mul, Nat.add_comm (i * sz) sz, ← he y, List.take_length_add_append]
      rw [Nat.add_mul (i + 1) 1, Nat.one_mul, Nat.add_comm ((i + 1) * (ec y).length) (ec y).length, List.drop_length_add_append]
      simp [he, Nat.add_mul, Nat.add_comm]

/-- a row's cells written from a place on -/
def setL (l : List Value) (o : Nat) : List Value → List Value
  | [] => l
  | v :: vs => setL (l.set o v) (o + 1) vs
theorem setL_length (vs : List Value) : ∀ (l : List Value) (o : Nat), (setL l o vs).length = l.length := by
  induction vs with
  | nil => intro l o; rfl
  | cons v vs ih => intro l o; rw [setL, ih]; simp
theorem setL_eq (vs : List Value) : ∀ (l : List Value) (o : Nat), o + vs.length ≤ l.length → setL l o vs = l.take o ++ (vs ++ l.drop (o + vs.length)) := by
  induction vs with
  | nil => intro l o h; simp [setL]
  | cons v vs ih =>
    intro l o h
    simp only [List.length_cons] at h
    rw [setL, ih _ _ (by simp; omega)]
    have h1 : (l.set o v).take (o + 1) = l.take o ++ [v] := by
      rw [List.take_succ_eq_append_getElem (i := o) (by simp; omega), List.getElem_set_self, List.take_set_of_le (Nat.le_refl _)]
    have h2 : (l.set o v).drop (o + 1 + vs.length) = l.drop (o + (vs.length + 1)) := by
      rw [List.drop_set_of_lt (by omega)]
      congr 1
      omega
    rw [h1, h2, List.length_cons]
    simp
theorem cellsOf_setL {α : Type} {ec : α → List Value} {sz : Nat} (he : ∀ x, (ec x).length = sz) (es : List α) (i : Nat) (x : α) (hi : i < es.length) : cellsOf ec (es.set i x) = setL (cellsOf ec es) (i * sz) (ec x) := by
  have hl := cellsOf_length he es
  have hm : (i + 1) * sz ≤ es.length * sz := Nat.mul_le_mul_right _ hi
  rw [setL_eq _ _ _ (by rw [he, hl]; rw [Nat.add_mul] at hm; omega), cellsOf_set he, if_pos hi, he, Nat.add_mul, Nat.one_mul]
theorem ownsRow_storedL {base : Nat} {e : TypeId} {size g n cap : Nat} (vs : List Value) : ∀ {w : World} {xs : List Value} (o : Nat), w.ownsRow base e size (.slice (some ⟨g, 0, none⟩) n cap) n xs →
    (w.setCells g o vs).ownsRow base e size (.slice (some ⟨g, 0, none⟩) n cap) n (setL xs o vs) := by
  induction vs with
  | nil => intro w xs o h; exact h
  | cons v vs ih => intro w xs o h; exact ih (o + 1) (h.stored o v).1
theorem grownBy_setAt (W : World) (b i : Nat) (v : Value) : W.grownBy (W.setCell ⟨b, i, none⟩ v) (some b) :=
  ⟨rfl, rfl, rfl, by simp [World.setCell], fun k _ hne => Below.heap_setCell W ⟨b, i, none⟩ v k (fun e => hne (by rw [e]))⟩
theorem own_setCell {w : World} {base n size : Nat} {e : TypeId} {v : Value} {xs : List Value} (h : w.ownsRow base e size v n xs) {b : Nat} (hne : v.ownBlock ≠ some b) (i : Nat) (u : Value) : (w.setCell ⟨b, i, none⟩ u).ownsRow base e size v n xs :=
  h.kept (grownBy_setAt w b i u) (.inr hne)
theorem own_typ {w : World} {base n size : Nat} {e : TypeId} {v : Value} {xs : List Value} (h : w.ownsRow base e size v n xs) : ∀ k, v.ownBlock = some k → base ≤ k ∧ ∃ cs fr, w.heap[k]? = some (.cells cs e fr) := by
  intro k hk
  rcases h.2 with ⟨rfl, _⟩ | ⟨g, cap, cur, rfl, hb, hg, _⟩
  · simp [Value.ownBlock] at hk
  · have e' : g = k := by simpa [Value.ownBlock] using hk
    subst e'
    exact ⟨hb, cur, (0, 0), hg⟩
theorem own_apart {W : World} {base n size p : Nat} {e t : TypeId} {v : Value} {xs l : List Value} (hP : Blk W p t l) (ho : W.ownsRow base e size v n xs) (ht : t ≠ e) : v.ownBlock ≠ some p := by
  intro hk
  obtain ⟨_, cs, fr, hc⟩ := own_typ ho p hk
  unfold Blk at hP
  rw [hP] at hc
  simp at hc
  exact ht hc.2.1

theorem news_blk {w : World} {b : Nat} {t : TypeId} {news : List Value} (h : Blk w b t news) : ∀ j u, news[j]? = some u → w.cell? ((⟨b, 0, none⟩ : Addr).add j) = some u := by
  intro j u hu
  have hadd : (⟨b, 0, none⟩ : Addr).add j = ⟨b, j, none⟩ := by unfold Addr.add; split <;> simp_all
  rw [hadd]
  exact h.cell hu
theorem Blk.new2 (W : World) (o : Obj) (l : List Value) (t : TypeId) : Blk ((W.alloc o).alloc (.cells l.toArray t)) (W.heap.size + 1) t l := by
  have := Blk.new (W.alloc o) l t
  rw [World.size_alloc] at this
  exact this

end Go.Proofs.Ytnlhgnioedalpaa

/- a range over a function whose iterator may turn cells of its own between two rounds: one law for the caller, with a predicate for each station. -/
namespace Go.Proofs.Ytnlhgnioedalpaa
open Go.RowKit

theorem belowOthers {A B : World} (h : Below A.heap.size A B) : KeepsOthers A B := ⟨h.size, fun k _ hk _ => (h.block k (Array.getElem?_eq_some_iff.1 hk).1).trans hk⟩

theorem blk_own {β : Type} (b : Nat) (t : TypeId) (l : β → List Value) : Own (fun s W => Blk W b t (l s)) := fun s A B row hs hg hr =>
  hs.kept hg (fun e => by
    obtain ⟨o, ho, hc⟩ := hr b e.symm
    have hs' : A.heap[b]? = _ := hs
    rw [hs'] at ho
    cases ho
    simp [Obj.isCells] at hc)

/-- what a body owes at each of its ways out -/
def genPost (B : Nat) (Post : World → Prop) (Ix : Code → World → Prop) (W : World) : Exit → Act → World → Prop
  | .normal, _, W' => KeepsFrom B W W' ∧ Post W'
  | .ret, _, W' => KeepsFrom B W W' ∧ Ix .ret W'
  | .exit id, _, W' => KeepsFrom B W W' ∧ Ix (.exit id) W'
  | .goto t, _, W' => KeepsFrom B W W' ∧ Ix (.goto t) W'
  | .panic _, _, _ => False
  | .outgrown, _, _ => False

/-- what an iterator owes: called with a yield that serves it, it ends well, or has been stopped -/
def IterOk (F : Fence) (n : Nat) (P : Program) (gf : Nat) (lb : Array Value) {α : Type} (encs : α → Array Value) (Start : World → Prop) (Pre Post : α → World → Prop) (Fin : World → Prop) : Prop :=
  ∀ (l : Nat) (Rc JX : World → Prop) (W1 : World), (∀ A A', Rc A → KeepsOthers A A' → Rc A') → (∀ A A', JX A → A.grownBy A' none → JX A') → Rc W1 → Start W1 →
    (∀ x W, Pre x W → Rc W → YieldAt F (n - 1) P l (encs x) W fun e W' => (e = .returned (.bool true) ∧ Post x W' ∧ Rc W') ∨ (e = .returned (.bool false) ∧ JX W')) →
    CallsIn F n P gf (#[.func (.yield l) #[] #[]] ++ lb) W1 fun e W' => (∃ v, e = .returned v) ∧ ((Fin W' ∧ Rc W') ∨ JX W')

section
variable {F : Fence} {n : Nat} {P : Program}

theorem range_gen {α : Type} {g : Operand} {ps : Array Tmp} {assign body : Code} {Q : Exit → Act → World → Prop} {a : Act} {w : World}
    (hro : F.round = none) (h1 : 1 ≤ n) {gf : Nat} {lb : Array Value} (hg : a.eval g = .func (.func gf) #[] lb) (hFg : F.fn gf) (eg : ∀ args w, (callFunc gf args).run P w = .ok (.enter gf args) w)
    {encs : α → Array Value} (hps : ∀ x, (encs x).size = ps.size)
    (Start : World → Prop) (Pre Post : α → World → Prop) (Ix : Code → World → Prop) (Fin : World → Prop) (Mid : α → Act → World → Prop)
    (sStart : OwnFrom w.heap.size (fun (_ : Unit) W => Start W)) (sPost : ∀ x, OwnFrom w.heap.size (fun (_ : Unit) W => Post x W)) (sIx : ∀ c, OwnFrom w.heap.size (fun (_ : Unit) W => Ix c W)) (sFin : OwnFrom w.heap.size (fun (_ : Unit) W => Fin W)) (sMid : ∀ x a', OwnFrom w.heap.size (fun (_ : Unit) W => Mid x a' W))
    (h0 : Start w) (hit : IterOk F (n - 1) P gf lb encs Start Pre Post Fin)
    (hassign : ∀ (l : Nat) (x : α) (W : World) (K : Act → World → Prop), Pre x W → (∀ a' W', KeepsFrom w.heap.size W W' → Mid x a' W' → K a' W') →
      assign.wpIn (F.inRound l) (n - 1 - 1) P (Exit.then K (fun _ _ _ => False)) { tmps := (ps.zip (encs x)).foldl (fun t (p, v) => t.setIfInBounds p v) a.tmps, defers := [] } W)
    (hbody : ∀ (l : Nat) (x : α) (a' : Act) (W : World), w.heap.size ≤ l → (∃ r, W.heap[l]? = some (.loop r)) → Mid x a' W → body.wpIn (F.inRound l) (n - 1 - 1) P (genPost w.heap.size (Post x) Ix W) a' W)
    (hdone : ∀ (D : Nat) (W : World), w.heap.size ≤ D → Fin W → W.heap[D]? = some (.deferred (some [])) → Q .normal { a with defers := { target := .collected D, args := #[] } :: a.defers } W)
    (hstop : ∀ (D : Nat) (c : Code) (W : World), w.heap.size ≤ D → Ix c W → W.heap[D]? = some (.deferred (some [])) → c.wpIn F n P Q { a with defers := { target := .collected D, args := #[] } :: a.defers } W) :
    (Code.rangeFunc g ps assign body).wpIn F n P Q a w := by
  refine wpIn_rangeFunc ?_
  intro fn hfn
  rw [hro]
  obtain ⟨rec, hrec⟩ : ∃ rec : LoopState → Option Code → Loop, rec = fun st pe => { state := st, pending := pe, fn, tmps := a.tmps, params := ps, assign, body, defers := w.heap.size } := ⟨_, rfl⟩
  obtain ⟨W1, hW1⟩ : ∃ W1, (w.alloc (.deferred (some []))).alloc (.loop (rec .ready none)) = W1 := ⟨_, rfl⟩
  have hL1 : W1.heap[w.heap.size + 1]? = some (.loop (rec .ready none)) := by
    rw [← hW1]; have := World.alloc_heap_new (w.alloc (.deferred (some []))) (.loop (rec .ready none)); rwa [World.size_alloc] at this
  have hK1 : W1.heap[w.heap.size]? = some (.deferred (some [])) := by
    rw [← hW1]; exact (Below.heap_alloc _ _ _ (by simp)).trans (World.alloc_heap_new w _)
  have hS1 : Start W1 := by rw [← hW1]; exact sStart.alloc (s := ()) _ (sStart.alloc (s := ()) _ h0)
  refine ⟨w.heap.size + 1, [{ target := .collected w.heap.size, args := #[] }], W1, { target := .fn (.func gf) lb, args := #[.func (.yield (w.heap.size + 1)) #[] #[]] }, W1, gf,
    #[.func (.yield (w.heap.size + 1)) #[] #[]] ++ lb, W1, ?_, ?_, ?_, ?_, fun _ => h1, ?_⟩
  · rw [← hW1, hrec]; exact run_enterLoop_outer _ _ _ _ _
  · simp only [resolve, hg]
    simp [go_sem]
  · intro f' hf'; simp [Target.leads] at hf'; subst hf'; exact hFg
  · simp [invoke, go_sem, eg]
  · have hRc := hit (w.heap.size + 1)
      (fun W => W.heap[w.heap.size + 1]? = some (.loop (rec .ready none)) ∧ W.heap[w.heap.size]? = some (.deferred (some [])))
      (fun W => ∃ c, Ix c W ∧ W.heap[w.heap.size + 1]? = some (.loop (rec .done (some c))) ∧ W.heap[w.heap.size]? = some (.deferred (some [])))
      W1 (fun A A' hA hk => ⟨hk.same _ _ hA.1 rfl, hk.same _ _ hA.2 rfl⟩)
      (fun A A' hA hg' => by
        obtain ⟨c, hc, hl, hk⟩ := hA
        exact ⟨c, sIx c () A A' none hc hg' (fun r e => by cases e), (hg'.block _ (Array.getElem?_eq_some_iff.1 hl).1 (by simp)).trans hl, (hg'.block _ (Array.getElem?_eq_some_iff.1 hk).1 (by simp)).trans hk⟩)
      ⟨hL1, hK1⟩ hS1 ?_
    · refine hRc.mono ?_
      rintro e W2 ⟨⟨v, rfl⟩, (⟨hF, hl, hk⟩ | ⟨c, hi, hl, hk⟩)⟩
      · exact ⟨none, _, by have := run_endLoop (P := P) hl (by rw [hrec]; simp); rw [hrec] at this; exact this, hdone _ _ (Nat.le_refl _) (sFin.putObj (s := ()) _ hF (by omega) hl rfl) ((World.putObj_heap_other (by omega)).trans hk)⟩
      · exact ⟨some c, _, by have := run_endLoop (P := P) hl (by rw [hrec]; simp); rw [hrec] at this; exact this, hstop _ c _ (Nat.le_refl _) ((sIx c).putObj (s := ()) _ hi (by omega) hl rfl) ((World.putObj_heap_other (by omega)).trans hk)⟩
    · rintro x W hp ⟨hl, hk⟩
      have hy := run_yield (P := P) (args := encs x) hl (by rw [hrec]; exact hps x)
      rw [hrec] at hy
      refine ⟨fn, _, assign, body, hy, roundIn_of_wpIn hfn (hassign _ x W _ hp ?_)⟩
      clear hy
      intro a' Wa hkfa hmid
      replace hl := hkfa.same _ _ (by omega) hl rfl
      replace hk := hkfa.same _ _ (Nat.le_refl _) hk rfl
      have hlt : w.heap.size + 1 < Wa.heap.size := (Array.getElem?_eq_some_iff.1 hl).1
      refine ⟨_, run_beginRound hl (by rw [hrec]), ?_⟩
      have hl2 : (Wa.putObj (w.heap.size + 1) (.loop { rec .ready none with state := .busy })).heap[w.heap.size + 1]? = some (.loop { rec .ready none with state := .busy }) := World.putObj_heap_same hlt
      have hk2 : (Wa.putObj (w.heap.size + 1) (.loop { rec .ready none with state := .busy })).heap[w.heap.size]? = some (.deferred (some [])) := (World.putObj_heap_other (by omega)).trans hk
      refine wpIn_mono (hbody _ x a' _ (by omega) ⟨_, hl2⟩ ((sMid x a').putObj (s := ()) _ hmid (by omega) hl rfl)) ?_
      have fin : ∀ (jump : Option Code) (W3 : World), KeepsFrom w.heap.size (Wa.putObj (w.heap.size + 1) (.loop { rec .ready none with state := .busy })) W3 →
          (Instr.endRound (w.heap.size + 1) jump).run P W3 = .ok (.bool jump.isNone) (W3.putObj (w.heap.size + 1) (.loop (rec (if jump.isNone then .ready else .done) jump))) ∧
          W3.heap[w.heap.size + 1]? = some (.loop { rec .ready none with state := .busy }) ∧
          (W3.putObj (w.heap.size + 1) (.loop (rec (if jump.isNone then .ready else .done) jump))).heap[w.heap.size + 1]? = some (.loop (rec (if jump.isNone then .ready else .done) jump)) ∧
          (W3.putObj (w.heap.size + 1) (.loop (rec (if jump.isNone then .ready else .done) jump))).heap[w.heap.size]? = some (.deferred (some [])) := fun jump W3 hk3 => by
        have hl3 := hk3.same _ _ (by omega) hl2 rfl
        have := run_endRound (P := P) jump hl3
        rw [hrec] at this ⊢
        exact ⟨this, by rw [hrec] at hl3; exact hl3, World.putObj_heap_same (Array.getElem?_eq_some_iff.1 hl3).1, (World.putObj_heap_other (by omega)).trans (hk3.same _ _ (Nat.le_refl _) hk2 rfl)⟩
      rintro e a3 W3 hp3
      cases e with
      | normal =>
        obtain ⟨hk3, hi3⟩ := hp3
        obtain ⟨hr, hl3, hl4, hk4⟩ := fin none W3 hk3
        exact ⟨_, _, hr, .inl ⟨rfl, (sPost x).putObj (s := ()) _ hi3 (by omega) hl3 rfl, hl4, hk4⟩⟩
      | ret =>
        obtain ⟨hk3, hi3⟩ := hp3
        obtain ⟨hr, hl3, hl4, hk4⟩ := fin (some .ret) W3 hk3
        exact ⟨_, _, hr, .inr ⟨rfl, .ret, (sIx _).putObj (s := ()) _ hi3 (by omega) hl3 rfl, hl4, hk4⟩⟩
      | exit id =>
        obtain ⟨hk3, hi3⟩ := hp3
        obtain ⟨hr, hl3, hl4, hk4⟩ := fin (some (.exit id)) W3 hk3
        exact ⟨_, _, hr, .inr ⟨rfl, .exit id, (sIx _).putObj (s := ()) _ hi3 (by omega) hl3 rfl, hl4, hk4⟩⟩
      | goto t =>
        obtain ⟨hk3, hi3⟩ := hp3
        obtain ⟨hr, hl3, hl4, hk4⟩ := fin (some (.goto t)) W3 hk3
        exact ⟨_, _, hr, .inr ⟨rfl, .goto t, (sIx _).putObj (s := ()) _ hi3 (by omega) hl3 rfl, hl4, hk4⟩⟩
      | panic ch => exact hp3.elim
      | outgrown => exact hp3.elim
end

end Go.Proofs.Ytnlhgnioedalpaa

/- what a sequence hands out; a slice that is read. -/
namespace Go.Proofs.Ytnlhgnioedalpaa
open Go.RowKit

/-- the slice value sv reads as zs, in a block below n₀; each element of n cells -/
def Rd {α : Type} (cv : α → List Value) (n n₀ : Nat) (W : World) (sv : Value) (zs : List α) : Prop :=
  (∃ a cap, sv = .slice a 0 cap ∧ zs = []) ∨ ∃ b off cap, sv = .slice (some ⟨b, off, none⟩) zs.length cap ∧ b < n₀ ∧ ∀ j x, zs[j]? = some x → ∀ c v, (cv x)[c]? = some v → W.cell? ⟨b, off + j * n + c, none⟩ = some v
theorem Rd.below {α : Type} {cv : α → List Value} {n n₀ : Nat} {A B : World} {sv : Value} {zs : List α} (h : Rd cv n n₀ A sv zs) (hb : Below n₀ A B) : Rd cv n n₀ B sv zs := by
  rcases h with e | ⟨b, off, cap, e, hlt, hc⟩
  · exact .inl e
  · exact .inr ⟨b, off, cap, e, hlt, fun j x hx c v hv => (hb.cell (p := ⟨b, off + j * n + c, none⟩) hlt).trans (hc j x hx c v hv)⟩
theorem Rd.mono {α : Type} {cv : α → List Value} {n n₀ n₁ : Nat} {A : World} {sv : Value} {zs : List α} (h : Rd cv n n₀ A sv zs) (hn : n₀ ≤ n₁) : Rd cv n n₁ A sv zs := by
  rcases h with e | ⟨b, off, cap, e, hlt, hc⟩
  · exact .inl e
  · exact .inr ⟨b, off, cap, e, Nat.lt_of_lt_of_le hlt hn, hc⟩
end Go.Proofs.Ytnlhgnioedalpaa

/- slices that came in, opened: each element's cells. -/
namespace Go.Proofs.Ytnlhgnioedalpaa
open Go.RowKit Go.ChangeShapes Go.WideShapes

theorem addr_add (b off i : Nat) : (⟨b, off, none⟩ : Addr).add i = ⟨b, off + i, none⟩ := by
  unfold Addr.add
  by_cases h : i = 0 <;> simp [h]
theorem cell_spot {w : World} {a : Addr} {v : Value} (h : w.cell? a = some v) : a = ⟨a.block, a.off, none⟩ ∧ a.block < w.heap.size := by
  unfold World.cell? at h
  cases hb : w.heap[a.block]? with
  | none => rw [hb] at h; simp at h
  | some o =>
    refine ⟨?_, (Array.getElem?_eq_some_iff.1 hb).1⟩
    rw [hb] at h
    obtain ⟨b, off, s⟩ := a
    cases s with
    | none => rfl
    | some s => cases o <;> simp at h

section
variable {H : Type} {enc : TypeId × Value → H} {P : Program} {w : World} {base : Nat} {spare : Nat → Bool} {held : Bool}

end

end Go.Proofs.Ytnlhgnioedalpaa

/- rows that are read, in the print's words: opened out of what came in; handed to what goes over them. -/
set_option linter.unusedVariables false
namespace Go.Proofs.Ytnlhgnioedalpaa
open Go.RowKit Go.ChangeShapes Go.WideShapes Go.Proofs.YtnlhgnioedalpaaW.PrintWords

/-- a kind whose cells are all told by the thing itself -/
def flat {α : Type} (cv : α → List Value) (n : Nat) (h : ∀ x, (cv x).length = n) (h1 : ∀ x, ∀ u ∈ cv x, u.oneCell' = true) : Kd α where
  sz := n
  E := []
  K := fun _ x cs => cs = cv x
  M := fun _ _ _ x cs => cs = cv x
  K_len := fun e => by rw [e]; exact h _
  K_one := fun e u hu => by rw [e] at hu; exact h1 _ u hu
  K_below := fun _ h => h
  K_of_M := fun h => h
  M_mono := fun _ h => h
  M_bound := fun h => h
  M_move := fun _ h => h
  M_lower := fun _ h => h

section
variable {H : Type} {enc : TypeId × Value → H} {P : Program} {w : World} {base : Nat} {spare : Nat → Bool} {held : Bool}

theorem open_kd {α : Type} (dflt : α) (k : Kd α) (good : α → Prop) {t e : TypeId} {fuel : Nat} {cs : List Value} {x : DataW H × List MemPlace} (ht : P.underlying t = some (.slice e)) (hn : P.cellsOf e = k.sz)
    (he : ∀ m cs y, DataW.trod enc P w base spare held m e cs = some y → ∃ x, k.K w x cs ∧ good x)
    (h : DataW.trod enc P w base spare held fuel t cs = some x) : ∃ (zs : List α) (A : Option Addr) (c : Nat), cs = [.slice A zs.length c] ∧ zs.length ≤ c ∧ (A = none → c = 0) ∧ k.C w A zs.length zs ∧ zs.length ≤ maxLen ∧ ∀ z ∈ zs, good z := by
  rcases Deep.open_slice ht h with ⟨hv, _⟩ | ⟨a, len, cap, m, n, D, Pl, hv, hb, hl, hm, hmm, rfl, hc⟩
  · subst hv
    exact ⟨[], none, 0, rfl, by simp, fun _ => rfl, Kd.C_nil k w, by simp, by simp⟩
  · subst hv
    have hle : len ≤ m := by rw [hmm]; split <;> omega
    haveI : Inhabited α := ⟨dflt⟩
    obtain ⟨f, hf⟩ := Deep.choose_lt (n := len) (p := fun i x => (∃ cs, w.cells? base (a.add (i * k.sz)) k.sz = some cs ∧ k.K w x cs) ∧ good x) (fun i hi => by
      obtain ⟨cs, h1, h2⟩ := hc i (Nat.lt_of_lt_of_le hi hle)
      obtain ⟨x, hx, hg⟩ := he _ _ _ h2
      rw [hn] at h1
      exact ⟨x, ⟨cs, h1, hx⟩, hg⟩)
    have hlen : ((List.range len).map f).length = len := by simp
    refine ⟨(List.range len).map f, some a, cap, by rw [hlen], by rw [hlen]; exact hl, (by simp), ⟨rfl, by rw [hlen]; unfold maxLen at hm; omega, fun hpos => ⟨a, rfl, fun j p hp => ?_⟩⟩, by rw [hlen]; omega, ?_⟩
    · have hj : j < len := by have := (List.getElem?_eq_some_iff.1 hp).1; simpa using this
      have e : p = f j := by
        rw [List.getElem?_map, List.getElem?_range hj] at hp
        simpa using hp.symm
      subst e
      obtain ⟨⟨cs, h1, h2⟩, _⟩ := hf j hj
      have hsz := k.K_len h2
      refine ⟨cs, hsz, h2, fun i u hu => ?_⟩
      obtain ⟨_, h3, h4⟩ := World.cells?_some h1
      have hi : i < k.sz := by have := (List.getElem?_eq_some_iff.1 hu).1; omega
      have := h4 i hi
      have hadd : a.add (j * k.sz + i) = (a.add (j * k.sz)).add i := by
        unfold Addr.add
        by_cases h5 : j * k.sz = 0 <;> by_cases h6 : i = 0 <;> simp [h5, h6, Nat.add_assoc]
      rw [hadd, this]
      exact hu
    · intro z hz
      obtain ⟨i, hi, rfl⟩ := List.mem_map.1 hz
      exact (hf i (List.mem_range.1 hi)).2
end

theorem bel_alloc2 (W : World) (o1 o2 : Obj) : Below W.heap.size W ((W.alloc o1).alloc o2) := ((Below.refl _ W).alloc (Nat.le_refl _) _).alloc (by simp) _
theorem C_spot {α : Type} {k : Kd α} {w : World} {A : Option Addr} {n : Nat} {xs : List α} (h : k.C w A n xs) (hn : 0 < n) (hs : 0 < k.sz) : ∃ b off, A = some ⟨b, off, none⟩ ∧ b < w.heap.size := by
  obtain ⟨ad, hA, hc⟩ := h.2.2 hn
  have hx : xs[0]? = some (xs[0]'(by have := h.1; omega)) := List.getElem?_eq_getElem _
  obtain ⟨cs, hl, _, hcell⟩ := hc 0 _ hx
  have h0 : cs[0]? = some (cs[0]'(by omega)) := List.getElem?_eq_getElem _
  have := hcell 0 _ h0
  rw [Nat.zero_mul, Nat.zero_add] at this
  have h2 := cell_spot (by simpa [Addr.add] using this)
  exact ⟨ad.block, ad.off, by rw [hA, ← h2.1], h2.2⟩
/-- the cells of a row of numbers -/
theorem C_cell {w : World} {q : IntKind} {A : Option Addr} {xs : List Int} (h : (Kd.int q).C w A xs.length xs) {j : Nat} {x : Int} (hx : xs[j]? = some x) : ∃ ad, A = some ad ∧ w.cell? (ad.add j) = some (.int q x) := by
  have hj := (List.getElem?_eq_some_iff.1 hx).1
  obtain ⟨ad, hA, hc⟩ := h.2.2 (by omega)
  obtain ⟨cs, hl, hk, hcell⟩ := hc j x hx
  have hk' : cs = [.int q x] := hk
  subst hk'
  have := hcell 0 _ rfl
  rw [show j * (Kd.int q).sz + 0 = j from by show j * 1 + 0 = j; omega] at this
  exact ⟨ad, hA, this⟩
/-- its block, and its cells there -/
theorem C_row {w : World} {q : IntKind} {A : Option Addr} {xs : List Int} (h : (Kd.int q).C w A xs.length xs) (hn : 0 < xs.length) : ∃ b off, A = some ⟨b, off, none⟩ ∧ b < w.heap.size ∧ ∀ j x, xs[j]? = some x → w.cell? ⟨b, off + j, none⟩ = some (.int q x) := by
  obtain ⟨b, off, rfl, hlt⟩ := C_spot h hn Nat.one_pos
  refine ⟨b, off, rfl, hlt, fun j x hx => ?_⟩
  obtain ⟨ad, e, hc⟩ := C_cell h hx
  obtain rfl := Option.some.inj e
  rw [addr_add] at hc
  exact hc
theorem C_mk {w : World} {q : IntKind} {b off : Nat} {xs : List Int} (hl : xs.length ≤ 9223372036854775807) (h : ∀ j x, xs[j]? = some x → w.cell? ⟨b, off + j, none⟩ = some (.int q x)) : (Kd.int q).C w (some ⟨b, off, none⟩) xs.length xs := by
  refine ⟨rfl, hl, fun _ => ⟨_, rfl, fun j x hx => ⟨[.int q x], rfl, rfl, fun i u hu => ?_⟩⟩⟩
  have hi : i = 0 := by have := (List.getElem?_eq_some_iff.1 hu).1; simp at this; omega
  subst hi
  simp at hu
  subst hu
  rw [addr_add]
  have := h j x hx
  rw [show off + (j * (Kd.int q).sz + 0) = off + j from by show off + (j * 1 + 0) = _; omega]
  exact this
theorem C_news {w : World} {q : IntKind} {ad : Addr} {xs : List Int} (h : (Kd.int q).C w (some ad) xs.length xs) : ∀ j u, (nums q xs)[j]? = some u → w.cell? (ad.add j) = some u := by
  intro j u hu
  unfold nums at hu
  rw [List.getElem?_map] at hu
  cases hx : xs[j]? with
  | none => rw [hx] at hu; simp at hu
  | some x =>
    rw [hx] at hu
    simp at hu
    subst hu
    obtain ⟨ad', hA, hc⟩ := C_cell h hx
    obtain rfl := Option.some.inj hA
    exact hc
theorem nums_one (q : IntKind) (xs : List Int) : ∀ u ∈ nums q xs, u.oneCell' = true := by
  intro u hu
  unfold nums at hu
  obtain ⟨x, _, rfl⟩ := List.mem_map.1 hu
  rfl
theorem C_own {w : World} {base : Nat} {e : TypeId} {q : IntKind} {A : Option Addr} {n c : Nat} {xs : List Int} (h : w.ownsRow base e 1 (.slice A n c) n (nums q xs)) : n ≤ c ∧ xs.length = n ∧ (Kd.int q).C w A n xs := by
  obtain ⟨A', c', e', hr⟩ := own_reads h
  injection e' with e1 e2 e3
  subst e1; subst e3
  have := Kd.C_of_reads (d := (0 : Int)) (h1 := fun _ => rfl) hr
  exact ⟨Go.Proofs.YtnlhgnioedalpaaW.PrintWords.own_le h, this.1, this⟩
/-- what a call turns on an object of one row: the object (block p), the row that it had, what is new; which row it has then -/
structure RFr (p : Nat) (v v' : Value) (W W' : World) : Prop where
  os : W'.os = W.os
  tape : W'.tape = W.tape
  output : W'.output = W.output
  size : W.heap.size ≤ W'.heap.size
  keep : ∀ b, b < W.heap.size → b ≠ p → some b ≠ v.ownBlock → W'.heap[b]? = W.heap[b]?
  own : v'.ownBlock = v.ownBlock ∨ ∀ k, v'.ownBlock = some k → W.heap.size ≤ k
namespace RFr
variable {p : Nat} {v v1 v2 : Value} {W W1 W2 : World}
theorem refl (p : Nat) (v : Value) (W : World) : RFr p v v W W := ⟨rfl, rfl, rfl, Nat.le_refl _, fun _ _ _ _ => rfl, .inl rfl⟩
theorem trans (h : RFr p v v1 W W1) (k : RFr p v1 v2 W1 W2) : RFr p v v2 W W2 :=
  ⟨k.os.trans h.os, k.tape.trans h.tape, k.output.trans h.output, Nat.le_trans h.size k.size, fun b hb hp hv => (k.keep b (Nat.lt_of_lt_of_le hb h.size) hp (fun e => by
      rcases h.own with h1 | h1
      · exact hv (e.trans h1)
      · have := h1 b e.symm; omega)).trans (h.keep b hb hp hv),
    by
      rcases k.own with k1 | k1
      · rcases h.own with h1 | h1
        · exact .inl (k1.trans h1)
        · exact .inr (fun j e => h1 j (k1 ▸ e))
      · exact .inr (fun j e => Nat.le_trans h.size (k1 j e))⟩
theorem ofBelow (p : Nat) (v : Value) (h : Below W.heap.size W W1) : RFr p v v W W1 := ⟨h.os, h.tape, h.output, h.size, fun b hb _ _ => h.block b hb, .inl rfl⟩
theorem alloc (p : Nat) (v : Value) (W : World) (o : Obj) : RFr p v v W (W.alloc o) := ofBelow p v ((Below.refl _ W).alloc (Nat.le_refl _) o)
theorem drewN (h : RFr p v v1 W W1) (n : Nat) : RFr p v v1 W (W1.drewN n) := ⟨h.os, h.tape, h.output, h.size, h.keep, h.own⟩
theorem drew (h : RFr p v v1 W W1) : RFr p v v1 W W1.drew := ⟨h.os, h.tape, h.output, h.size, h.keep, h.own⟩
theorem setP (h : RFr p v v1 W W1) (i : Nat) (u : Value) : RFr p v v1 W (W1.setCell ⟨p, i, none⟩ u) :=
  ⟨h.os, h.tape, h.output, by simpa using h.size, fun b hb hp hv => (Below.heap_setCell W1 ⟨p, i, none⟩ u b hp).trans (h.keep b hb hp hv), h.own⟩
/-- the row has been written, or another one made -/
theorem grown (p : Nat) (hg : W.grownBy W1 v.ownBlock) (ho : v1.ownBlock = v.ownBlock ∨ v1.ownBlock = some W.heap.size) : RFr p v v1 W W1 :=
  ⟨hg.os, hg.tape, hg.output, hg.size, fun b hb _ hv => hg.block b hb hv, by
    rcases ho with h | h
    · exact .inl h
    · exact .inr (fun k e => by rw [h] at e; cases e; exact Nat.le_refl _)⟩
theorem below {B : Nat} (h : RFr p v v1 W W1) (hp : B ≤ p) (hv : ∀ k, v.ownBlock = some k → B ≤ k) (hB : B ≤ W.heap.size) : Below B W W1 :=
  ⟨h.os, h.tape, h.output, h.size, fun b hb => h.keep b (by omega) (by omega) (fun e => by have := hv b e.symm; omega)⟩
theorem fr {base n size : Nat} {T : TypeId} {xs : List Value} (h : RFr p v v1 W W1) (hp : base ≤ p) (ho : W.ownsRow base T size v n xs) (hB : base ≤ W.heap.size) : Fr base p T W W1 :=
  ⟨h.below hp (fun k e => (own_typ ho k e).1) hB, fun b hb hne hT => h.keep b hb hne (fun e => by
    obtain ⟨_, cs, fr, hc⟩ := own_typ ho b e.symm
    exact hT cs fr hc)⟩
theorem blk (h : RFr p v v1 W W1) {b : Nat} {t : TypeId} {l : List Value} (hb : Blk W b t l) (hp : b ≠ p) (hv : v.ownBlock ≠ some b) : Blk W1 b t l := (h.keep b hb.lt hp (Ne.symm hv)).trans hb
/-- another row -/
theorem row (h : RFr p v v1 W W1) {base n size : Nat} {T : TypeId} {u : Value} {xs : List Value} (ho : W.ownsRow base T size u n xs) (hp : u.ownBlock ≠ some p) (hv : u.ownBlock = none ∨ u.ownBlock ≠ v.ownBlock) : W1.ownsRow base T size u n xs :=
  own_move ho (fun k e => h.keep k (own_lt ho k e) (fun e' => hp (by rw [e, e'])) (fun e' => by
    rcases hv with hv | hv
    · rw [hv] at e; cases e
    · exact hv (e.trans e')))
theorem putNew (h : RFr p v v1 W W1) {D : Nat} (hD : W.heap.size ≤ D) (o : Obj) : RFr p v v1 W (W1.putObj D o) :=
  ⟨h.os, h.tape, h.output, by simpa using h.size, fun b hb hp hv => (World.putObj_heap_other (by omega)).trans (h.keep b hb hp hv), h.own⟩
end RFr
/-- a row of numbers is appended to a row of the call's own -/
theorem wp_append_nums {P : Program} {w : World} {o : Oper} {a : Act} {K : Act → World → Prop} {Q : Exit → Act → World → Prop} (s x : Operand) (t : TypeId)
    (ho : o.op = .call { callee := .builtin .append, args := #[s, x], argTypes := #[t, t] })
    (base : Nat) (e : TypeId) (q : IntKind) (bytes : Nat) (ht : P.underlying t = some (.slice e)) (hi : (P.info? e).map (fun i => (i.zero, i.size, i.bytes)) = some (some (.int q 0), 1, bytes)) (h8 : bytes ≤ 8)
    (v : Value) (n : Nat) (ys : List Value) (hs : a.eval s = v) (hown : w.ownsRow base e 1 v n ys) (A : Option Addr) (xs : List Int) (c : Nat) (hx : a.eval x = .slice A xs.length c) (hC : (Kd.int q).C w A xs.length xs) (hA : A = none → c = 0)
    (hsm : n + xs.length ≤ 8796093022208) (hbase : base ≤ w.heap.size)
    (h : ∀ A' c' w', w'.ownsRow base e 1 (.slice A' (n + xs.length) c') (n + xs.length) (ys ++ nums q xs) → w.grownBy w' v.ownBlock → ((Value.slice A' (n + xs.length) c').ownBlock = v.ownBlock ∨ (Value.slice A' (n + xs.length) c').ownBlock = some w.heap.size) → K (a.put o.dst (.slice A' (n + xs.length) c')) w') : o.wp P a w K Q := by
  obtain ⟨i, hi0, hz0, hz1, hz2⟩ := info_parts hi
  cases A with
  | none =>
    obtain rfl := hA rfl
    have hl : xs = [] := by
      by_cases hn : 0 < xs.length
      · obtain ⟨ad, e', _⟩ := hC.2.2 hn; cases e'
      · exact List.eq_nil_of_length_eq_zero (by omega)
    subst hl
    obtain ⟨A', c', rfl⟩ := own_slice hown
    have hrun := run_append_owned_none (P := P) (w := w) base t o.type e i 1 ht hi0 _ n ys hown
    have hx' : a.eval x = .slice none 0 0 := by simpa using hx
    unfold Oper.wp
    simp [execOp, ho, resolve, invoke, builtin, hs, hx', hrun, Result.andThen]
    have := h A' c' w (by simpa [nums] using hown) ⟨rfl, rfl, rfl, Nat.le_refl _, fun _ _ _ => rfl⟩ (.inl rfl)
    have h2 : K (a.put o.dst (.slice A' n c')) w := by simpa using this
    exact h2
  | some ad =>
    have h5 : (n + xs.length) * bytes ≤ 140737488355328 := by
      have : (n + xs.length) * bytes ≤ (n + xs.length) * 8 := Nat.mul_le_mul_left _ h8
      omega
    obtain ⟨v', w', hr, h2, h3, h4, h5⟩ := run_append_own_at (P := P) w base t o.type e i _ 1 bytes ht hi0 hz0 hz1 hz2 rfl (by decide) v n ys hown ad xs.length c (nums q xs) (by simp [nums_length]) (C_news hC) (nums_one q xs) (by unfold maxLen; omega) h5 hbase
    obtain ⟨A', c', rfl⟩ := own_slice h2
    unfold Oper.wp execOp
    simp only [ho, resolve, invoke, builtin, Sem.run_bind, Sem.run_pure, Result.andThen_ok, List.map_toArray, List.map_cons, List.map_nil, hs, hx, hr]
    exact h A' c' w' h2 h3 h5
theorem wpList_append_nums {P : Program} {w : World} {ops : Array Oper} {rest : List Oper} {o : Oper} {a : Act} {Q : Exit → Act → World → Prop} (hgd : o.guard = none) (s x : Operand) (t : TypeId)
    (ho : o.op = .call { callee := .builtin .append, args := #[s, x], argTypes := #[t, t] })
    (base : Nat) (e : TypeId) (q : IntKind) (bytes : Nat) (ht : P.underlying t = some (.slice e)) (hi : (P.info? e).map (fun i => (i.zero, i.size, i.bytes)) = some (some (.int q 0), 1, bytes)) (h8 : bytes ≤ 8)
    (v : Value) (n : Nat) (ys : List Value) (hs : a.eval s = v) (hown : w.ownsRow base e 1 v n ys) (A : Option Addr) (xs : List Int) (c : Nat) (hx : a.eval x = .slice A xs.length c) (hC : (Kd.int q).C w A xs.length xs) (hA : A = none → c = 0)
    (hsm : n + xs.length ≤ 8796093022208) (hbase : base ≤ w.heap.size)
    (h : ∀ A' c' w', w'.ownsRow base e 1 (.slice A' (n + xs.length) c') (n + xs.length) (ys ++ nums q xs) → w.grownBy w' v.ownBlock → ((Value.slice A' (n + xs.length) c').ownBlock = v.ownBlock ∨ (Value.slice A' (n + xs.length) c').ownBlock = some w.heap.size) → wpList P ops Q rest (a.put o.dst (.slice A' (n + xs.length) c')) w') : wpList P ops Q (o :: rest) a w :=
  wpList_plain hgd fun _ hK => wp_append_nums s x t ho base e q bytes ht hi h8 v n ys hs hown A xs c hx hC hA hsm hbase fun A' c' w' h1 h2 h3 => hK _ _ (h A' c' w' h1 h2 h3)
/-- at a step of a region that draws its order -/
theorem step_append_nums {P : Program} {w : World} {ops : Array Oper} {o : Oper} {a : Act} {K : Act → World → Prop} {Q : Exit → Act → World → Prop} {E : Prop} (hgd : o.guard = none) (s x : Operand) (t : TypeId)
    (ho : o.op = .call { callee := .builtin .append, args := #[s, x], argTypes := #[t, t] })
    (base : Nat) (e : TypeId) (q : IntKind) (bytes : Nat) (ht : P.underlying t = some (.slice e)) (hi : (P.info? e).map (fun i => (i.zero, i.size, i.bytes)) = some (some (.int q 0), 1, bytes)) (h8 : bytes ≤ 8)
    (v : Value) (n : Nat) (ys : List Value) (hs : a.eval s = v) (hown : w.ownsRow base e 1 v n ys) (A : Option Addr) (xs : List Int) (c : Nat) (hx : a.eval x = .slice A xs.length c) (hC : (Kd.int q).C w A xs.length xs) (hA : A = none → c = 0)
    (hsm : n + xs.length ≤ 8796093022208) (hbase : base ≤ w.heap.size)
    (h : ∀ A' c' w', w'.ownsRow base e 1 (.slice A' (n + xs.length) c') (n + xs.length) (ys ++ nums q xs) → w.grownBy w' v.ownBlock → ((Value.slice A' (n + xs.length) c').ownBlock = v.ownBlock ∨ (Value.slice A' (n + xs.length) c').ownBlock = some w.heap.size) → K (a.put o.dst (.slice A' (n + xs.length) c')) w') :
    if Region.wanted o (yielded ops a.tmps) = true then Oper.wp P o a w K Q else E := by
  have hw : Region.wanted o (yielded ops a.tmps) = true := by simp [Region.wanted, hgd]
  rw [if_pos hw]
  exact wp_append_nums s x t ho base e q bytes ht hi h8 v n ys hs hown A xs c hx hC hA hsm hbase h
end Go.Proofs.Ytnlhgnioedalpaa
