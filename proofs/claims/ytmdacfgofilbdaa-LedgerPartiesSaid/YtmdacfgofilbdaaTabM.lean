/- layer 8: the memory of trees, at whatever types. -/
import Derived.Test.YtmdacfgofilbdaaTabL
import Derived.Test.YtmdacfgofilbdaaMem
set_option linter.unusedVariables false
namespace Go.Proofs.Ytmdacfgofilbdaa.TabL
open Go.RowKit

/-- the heap holds the tree at p: a node (type t): key, value, the sides, height, size -/
def IsT {K V : Type} (t : TypeId) (ek : K → Value) (ev : V → Value) (W : World) : Option Addr → BT K V → Prop
  | p, .leaf => p = none
  | p, .node l k v r => ∃ (b : Nat) (pl pr : Option Addr), p = some ⟨b, 0, none⟩ ∧ Blk W b t [ek k, ev v, .pointer pl, .pointer pr, .int .i64 ((BT.node l k v r).ht : Int), .int .i64 ((BT.node l k v r).toL.length : Int)] ∧ IsT t ek ev W pl l ∧ IsT t ek ev W pr r

/-- what is kept: blocks of cells of a type -/
def KT (t : TypeId) (W W' : World) : Prop := W.heap.size ≤ W'.heap.size ∧ ∀ (b : Nat) cs fr, W.heap[b]? = some (Obj.cells cs t fr) → W'.heap[b]? = some (Obj.cells cs t fr)
namespace KT
variable {t : TypeId} {W W1 W2 : World}
theorem refl (t : TypeId) (W : World) : KT t W W := ⟨Nat.le_refl _, fun _ _ _ h => h⟩
theorem trans (h : KT t W W1) (k : KT t W1 W2) : KT t W W2 := ⟨Nat.le_trans h.1 k.1, fun b cs fr hb => k.2 b cs fr (h.2 b cs fr hb)⟩
theorem below (h : Below W.heap.size W W1) : KT t W W1 := ⟨h.size, fun b cs fr hb => (h.block b (Array.getElem?_eq_some_iff.1 hb).1).trans hb⟩
theorem alloc (W : World) (o : Obj) : KT t W (W.alloc o) := below ((Below.refl _ W).alloc (Nat.le_refl _) o)
theorem grown {row : Option Nat} (h : W.grownBy W1 row) (hr : ∀ r, row = some r → ∃ o, W.heap[r]? = some o ∧ ∀ cs fr, o ≠ .cells cs t fr) : KT t W W1 :=
  ⟨h.size, fun b cs fr hb => (h.block b (Array.getElem?_eq_some_iff.1 hb).1 (fun e => by
    obtain ⟨o, ho, hne⟩ := hr b e.symm
    rw [hb] at ho
    cases ho
    exact hne _ _ rfl)).trans hb⟩
theorem grownP {p : Nat} {u : TypeId} {l : List Value} (h : W.grownBy W1 (some p)) (hP : Blk W p u l) (hne : u ≠ t) : KT t W W1 :=
  grown h (fun r e => by cases e; exact ⟨_, hP, fun cs fr e => by injection e with _ e2 _; exact hne e2⟩)
theorem setOther {p i : Nat} {v : Value} {u : TypeId} {l : List Value} (hP : Blk W p u l) (hne : u ≠ t) : KT t W (W.setCell ⟨p, i, none⟩ v) := grownP (grownBy_setAt W p i v) hP hne
end KT
theorem IsT.kept {K V : Type} {t : TypeId} {ek : K → Value} {ev : V → Value} {A B : World} (h : KT t A B) : ∀ {p : Option Addr} {T : BT K V}, IsT t ek ev A p T → IsT t ek ev B p T
  | _, .leaf, ht => ht
  | _, .node _ _ _ _, ⟨b, pl, pr, hp, hb, hl, hr⟩ => ⟨b, pl, pr, hp, h.2 b _ _ hb, IsT.kept h hl, IsT.kept h hr⟩
theorem IsT.drewN {K V : Type} {t : TypeId} {ek : K → Value} {ev : V → Value} {A : World} {p : Option Addr} {T : BT K V} (h : IsT t ek ev A p T) (n : Nat) : IsT t ek ev (A.drewN n) p T := h.kept (show KT t A (A.drewN n) from ⟨Nat.le_refl _, fun _ _ _ h => h⟩)
theorem IsT.drew {K V : Type} {t : TypeId} {ek : K → Value} {ev : V → Value} {A : World} {p : Option Addr} {T : BT K V} (h : IsT t ek ev A p T) : IsT t ek ev A.drew p T := h.kept (show KT t A A.drew from ⟨Nat.le_refl _, fun _ _ _ h => h⟩)
theorem IsT.below {K V : Type} {t : TypeId} {ek : K → Value} {ev : V → Value} {A B : World} {p : Option Addr} {T : BT K V} (h : IsT t ek ev A p T) (hb : Below A.heap.size A B) : IsT t ek ev B p T := h.kept (KT.below hb)
theorem IsT.nil {K V : Type} {t : TypeId} {ek : K → Value} {ev : V → Value} {W : World} {p : Option Addr} {T : BT K V} (h : IsT t ek ev W p T) : p = none ↔ T = .leaf := by
  cases T with
  | leaf => exact ⟨fun _ => rfl, fun _ => h⟩
  | node l k v r => obtain ⟨b, pl, pr, rfl, _⟩ := h; simp

/-- a table: the object at p; what it holds -/
def TM {K V : Type} (tT tN : TypeId) (ek : K → Value) (ev : V → Value) (W : World) (p : Nat) (xs : List (K × V)) : Prop :=
  ∃ q T, Blk W p tT [.pointer q] ∧ IsT tN ek ev W q T ∧ T.toL = xs
theorem TM.lt {K V : Type} {tT tN : TypeId} {ek : K → Value} {ev : V → Value} {W : World} {p : Nat} {xs : List (K × V)} (h : TM tT tN ek ev W p xs) : p < W.heap.size := by obtain ⟨q, T, h1, _⟩ := h; exact h1.lt
theorem TM.kept {K V : Type} {tT tN : TypeId} {ek : K → Value} {ev : V → Value} {W W' : World} {p : Nat} {xs : List (K × V)} (h : TM tT tN ek ev W p xs) (hN : KT tN W W') (hT : KT tT W W') : TM tT tN ek ev W' p xs := by
  obtain ⟨q, T, h1, h2, h3⟩ := h
  exact ⟨q, T, hT.2 p _ _ h1, h2.kept hN, h3⟩
theorem TM.below {K V : Type} {tT tN : TypeId} {ek : K → Value} {ev : V → Value} {W W' : World} {p : Nat} {xs : List (K × V)} (h : TM tT tN ek ev W p xs) (hb : Below W.heap.size W W') : TM tT tN ek ev W' p xs := h.kept (KT.below hb) (KT.below hb)
/-- another table (or whatever it is) has been written, at block q -/
theorem TM.other {K V : Type} {tT tN u : TypeId} {ek : K → Value} {ev : V → Value} {W W' : World} {p q : Nat} {xs : List (K × V)} {l : List Value} (h : TM tT tN ek ev W p xs) (hg : W.grownBy W' (some q)) (hq : Blk W q u l) (hne : p ≠ q) (hu : u ≠ tN) : TM tT tN ek ev W' p xs := by
  obtain ⟨r, T, h1, h2, h3⟩ := h
  exact ⟨r, T, h1.kept hg (by simpa using hne), h2.kept (KT.grownP hg hq hu), h3⟩

end Go.Proofs.Ytmdacfgofilbdaa.TabL
