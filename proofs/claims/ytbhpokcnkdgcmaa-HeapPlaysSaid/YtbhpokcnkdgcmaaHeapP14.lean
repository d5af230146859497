/- heap P: a station of draining an older heap. -/
import Derived.Test.YtbhpokcnkdgcmaaHeapP13
set_option linter.unusedSimpArgs false
set_option linter.unusedVariables false
namespace Go.Proofs.Ytbhpokcnkdgcmaa.HeapP
open Go.RowKit Go.Shelf Go.Proofs.Ytbhpokcnkdgcmaa.HeapL
attribute [local go_sem] Oper.semAt_some

theorem frc_below0 {hb p : Nat} {T : TypeId} {w0 A B : World} (h : FrC hb p T w0 A) (k : Below w0.heap.size A B) (hs : hb ≤ w0.heap.size) : FrC hb p T w0 B :=
  ⟨h.below.trans (k.mono hs), fun b cs t fr hb' hp ht => (k.block b (Array.getElem?_eq_some_iff.1 hb').1).trans (h.keep b cs t fr hb' hp ht)⟩
theorem frc_own {hb p : Nat} {T : TypeId} {w0 : World} {b : Nat} (hs : hb ≤ w0.heap.size) (hbb : w0.heap.size ≤ b) : OwnFrom b (fun (_ : Unit) W' => FrC hb p T w0 W') := fun s A B row h hg hr =>
  frc_below0 h ⟨hg.os, hg.tape, hg.output, hg.size, fun k hk => hg.block k (Nat.lt_of_lt_of_le hk (by
    rcases Nat.lt_or_ge A.heap.size w0.heap.size with h1 | h1
    · exact absurd h.below.size (by omega)
    · exact h1)) (fun e => by obtain ⟨h1, _⟩ := hr k e.symm; omega)⟩ hs

/-- a station of draining an older heap into a slice -/
def SJ (lt : (Int × Int) → (Int × Int) → Bool) (ss : List (Int × Int)) (w0 : World) (hb p Fb : Nat) (lbb : Array Value) (B Bo T : Nat) (rem xs : List (Int × Int)) (W' : World) : Prop :=
  (∃ pre, pre ++ rem = ss ∧ Out W' w0.heap.size Bo pre) ∧ HS W' hb p lt Fb lbb xs T ∧ Boxed W' B 34 (.pointer (some ⟨p, 0, none⟩)) ∧ FrC hb p 123 w0 W'
theorem SJ.ownF (lt : (Int × Int) → (Int × Int) → Bool) (ss : List (Int × Int)) (w0 : World) (hb p Fb : Nat) (lbb : Array Value) (B Bo T : Nat) (rem xs : List (Int × Int)) {b : Nat} (hs : hb ≤ w0.heap.size) (hbb : w0.heap.size ≤ b) : OwnFrom b (fun (_ : Unit) W' => SJ lt ss w0 hb p Fb lbb B Bo T rem xs W') :=
  OwnFrom.and (fun s A B' row hs hg hr => by
    obtain ⟨pre, h1, h2⟩ := hs
    exact ⟨pre, h1, Own.from (Out.ownF _ _ (fun _ : Unit => pre)) b () A B' row h2 hg hr⟩)
    (OwnFrom.and (Own.from (HS.own hb p lt Fb lbb (fun _ => xs) (fun _ => T)) _) (OwnFrom.and (Own.from (boxed_own B _ (fun _ => _)) _) (frc_own hs hbb)))

end Go.Proofs.Ytbhpokcnkdgcmaa.HeapP
