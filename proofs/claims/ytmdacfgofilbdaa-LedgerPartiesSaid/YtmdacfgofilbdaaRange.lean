/- a range over a function whose iterator may turn cells of its own between two rounds: one law for the caller, with a predicate for each station. -/
import Derived.RangeFuncNested
import Derived.RangeFuncBox
import Derived.RangeFuncCalls
import Derived.RangeFuncWrites
import Derived.Test.YtmdacfgofilbdaaMem
namespace Go.Proofs.Ytmdacfgofilbdaa
open Go.RowKit

theorem belowOthers {A B : World} (h : Below A.heap.size A B) : KeepsOthers A B := ⟨h.size, fun k _ hk _ => (h.block k (Array.getElem?_eq_some_iff.1 hk).1).trans hk⟩

theorem blk_own {β : Type} (b : Nat) (t : TypeId) (l : β → List Value) : Own (fun s W => Blk W b t (l s)) := fun s A B row hs hg hr =>
  hs.kept hg (fun e => by
    obtain ⟨o, ho, hc⟩ := hr b e.symm
    have hs' : A.heap[b]? = _ := hs
    rw [hs'] at ho
    cases ho
    simp [Obj.isCells] at hc)

/-- what a body owes at each of its ways out -/
def genPost (B : Nat) (Post : World → Prop) (Ix : Code → World → Prop) (W : World) : Exit → Act → World → Prop
  | .normal, _, W' => KeepsFrom B W W' ∧ Post W'
  | .ret, _, W' => KeepsFrom B W W' ∧ Ix .ret W'
  | .exit id, _, W' => KeepsFrom B W W' ∧ Ix (.exit id) W'
  | .goto t, _, W' => KeepsFrom B W W' ∧ Ix (.goto t) W'
  | .panic _, _, _ => False
  | .outgrown, _, _ => False

/-- what an iterator owes: called with a yield that serves it, it ends well, or has been stopped -/
def IterOk (F : Fence) (n : Nat) (P : Program) (gf : Nat) (lb : Array Value) {α : Type} (encs : α → Array Value) (Start : World → Prop) (Pre Post : α → World → Prop) (Fin : World → Prop) : Prop :=
  ∀ (l : Nat) (Rc JX : World → Prop) (W1 : World), (∀ A A', Rc A → KeepsOthers A A' → Rc A') → (∀ A A', JX A → A.grownBy A' none → JX A') → Rc W1 → Start W1 →
    (∀ x W, Pre x W → Rc W → YieldAt F (n - 1) P l (encs x) W fun e W' => (e = .returned (.bool true) ∧ Post x W' ∧ Rc W') ∨ (e = .returned (.bool false) ∧ JX W')) →
    CallsIn F n P gf (#[.func (.yield l) #[] #[]] ++ lb) W1 fun e W' => (∃ v, e = .returned v) ∧ ((Fin W' ∧ Rc W') ∨ JX W')

section
variable {F : Fence} {n : Nat} {P : Program}

theorem range_gen {α : Type} {g : Operand} {ps : Array Tmp} {assign body : Code} {Q : Exit → Act → World → Prop} {a : Act} {w : World}
    (hro : F.round = none) (h1 : 1 ≤ n) {gf : Nat} {lb : Array Value} (hg : a.eval g = .func (.func gf) #[] lb) (hFg : F.fn gf) (eg : ∀ args w, (callFunc gf args).run P w = .ok (.enter gf args) w)
    {encs : α → Array Value} (hps : ∀ x, (encs x).size = ps.size)
    (Start : World → Prop) (Pre Post : α → World → Prop) (Ix : Code → World → Prop) (Fin : World → Prop) (Mid : α → Act → World → Prop)
    (sStart : OwnFrom w.heap.size (fun (_ : Unit) W => Start W)) (sPost : ∀ x, OwnFrom w.heap.size (fun (_ : Unit) W => Post x W)) (sIx : ∀ c, OwnFrom w.heap.size (fun (_ : Unit) W => Ix c W)) (sFin : OwnFrom w.heap.size (fun (_ : Unit) W => Fin W)) (sMid : ∀ x a', OwnFrom w.heap.size (fun (_ : Unit) W => Mid x a' W))
    (h0 : Start w) (hit : IterOk F (n - 1) P gf lb encs Start Pre Post Fin)
    (hassign : ∀ (l : Nat) (x : α) (W : World) (K : Act → World → Prop), Pre x W → (∀ a' W', KeepsFrom w.heap.size W W' → Mid x a' W' → K a' W') →
      assign.wpIn (F.inRound l) (n - 1 - 1) P (Exit.then K (fun _ _ _ => False)) { tmps := (ps.zip (encs x)).foldl (fun t (p, v) => t.setIfInBounds p v) a.tmps, defers := [] } W)
    (hbody : ∀ (l : Nat) (x : α) (a' : Act) (W : World), w.heap.size ≤ l → (∃ r, W.heap[l]? = some (.loop r)) → Mid x a' W → body.wpIn (F.inRound l) (n - 1 - 1) P (genPost w.heap.size (Post x) Ix W) a' W)
    (hdone : ∀ (D : Nat) (W : World), w.heap.size ≤ D → Fin W → W.heap[D]? = some (.deferred (some [])) → Q .normal { a with defers := { target := .collected D, args := #[] } :: a.defers } W)
    (hstop : ∀ (D : Nat) (c : Code) (W : World), w.heap.size ≤ D → Ix c W → W.heap[D]? = some (.deferred (some [])) → c.wpIn F n P Q { a with defers := { target := .collected D, args := #[] } :: a.defers } W) :
    (Code.rangeFunc g ps assign body).wpIn F n P Q a w := by
  refine wpIn_rangeFunc ?_
  intro fn hfn
  rw [hro]
  obtain ⟨rec, hrec⟩ : ∃ rec : LoopState → Option Code → Loop, rec = fun st pe => { state := st, pending := pe, fn, tmps := a.tmps, params := ps, assign, body, defers := w.heap.size } := ⟨_, rfl⟩
  obtain ⟨W1, hW1⟩ : ∃ W1, (w.alloc (.deferred (some []))).alloc (.loop (rec .ready none)) = W1 := ⟨_, rfl⟩
  have hL1 : W1.heap[w.heap.size + 1]? = some (.loop (rec .ready none)) := by
    rw [← hW1]; have := World.alloc_heap_new (w.alloc (.deferred (some []))) (.loop (rec .ready none)); rwa [World.size_alloc] at this
  have hK1 : W1.heap[w.heap.size]? = some (.deferred (some [])) := by
    rw [← hW1]; exact (Below.heap_alloc _ _ _ (by simp)).trans (World.alloc_heap_new w _)
  have hS1 : Start W1 := by rw [← hW1]; exact sStart.alloc (s := ()) _ (sStart.alloc (s := ()) _ h0)
  refine ⟨w.heap.size + 1, [{ target := .collected w.heap.size, args := #[] }], W1, { target := .fn (.func gf) lb, args := #[.func (.yield (w.heap.size + 1)) #[] #[]] }, W1, gf,
    #[.func (.yield (w.heap.size + 1)) #[] #[]] ++ lb, W1, ?_, ?_, ?_, ?_, fun _ => h1, ?_⟩
  · rw [← hW1, hrec]; exact run_enterLoop_outer _ _ _ _ _
  · simp only [resolve, hg]
    simp [go_sem]
  · intro f' hf'; simp [Target.leads] at hf'; subst hf'; exact hFg
  · simp [invoke, go_sem, eg]
  · have hRc := hit (w.heap.size + 1)
      (fun W => W.heap[w.heap.size + 1]? = some (.loop (rec .ready none)) ∧ W.heap[w.heap.size]? = some (.deferred (some [])))
      (fun W => ∃ c, Ix c W ∧ W.heap[w.heap.size + 1]? = some (.loop (rec .done (some c))) ∧ W.heap[w.heap.size]? = some (.deferred (some [])))
      W1 (fun A A' hA hk => ⟨hk.same _ _ hA.1 rfl, hk.same _ _ hA.2 rfl⟩)
      (fun A A' hA hg' => by
        obtain ⟨c, hc, hl, hk⟩ := hA
        exact ⟨c, sIx c () A A' none hc hg' (fun r e => by cases e), (hg'.block _ (Array.getElem?_eq_some_iff.1 hl).1 (by simp)).trans hl, (hg'.block _ (Array.getElem?_eq_some_iff.1 hk).1 (by simp)).trans hk⟩)
      ⟨hL1, hK1⟩ hS1 ?_
    · refine hRc.mono ?_
      rintro e W2 ⟨⟨v, rfl⟩, (⟨hF, hl, hk⟩ | ⟨c, hi, hl, hk⟩)⟩
      · exact ⟨none, _, by have := run_endLoop (P := P) hl (by rw [hrec]; simp); rw [hrec] at this; exact this, hdone _ _ (Nat.le_refl _) (sFin.putObj (s := ()) _ hF (by omega) hl rfl) ((World.putObj_heap_other (by omega)).trans hk)⟩
      · exact ⟨some c, _, by have := run_endLoop (P := P) hl (by rw [hrec]; simp); rw [hrec] at this; exact this, hstop _ c _ (Nat.le_refl _) ((sIx c).putObj (s := ()) _ hi (by omega) hl rfl) ((World.putObj_heap_other (by omega)).trans hk)⟩
    · rintro x W hp ⟨hl, hk⟩
      have hy := run_yield (P := P) (args := encs x) hl (by rw [hrec]; exact hps x)
      rw [hrec] at hy
      refine ⟨fn, _, assign, body, hy, roundIn_of_wpIn hfn (hassign _ x W _ hp ?_)⟩
      clear hy
      intro a' Wa hkfa hmid
      replace hl := hkfa.same _ _ (by omega) hl rfl
      replace hk := hkfa.same _ _ (Nat.le_refl _) hk rfl
      have hlt : w.heap.size + 1 < Wa.heap.size := (Array.getElem?_eq_some_iff.1 hl).1
      refine ⟨_, run_beginRound hl (by rw [hrec]), ?_⟩
      have hl2 : (Wa.putObj (w.heap.size + 1) (.loop { rec .ready none with state := .busy })).heap[w.heap.size + 1]? = some (.loop { rec .ready none with state := .busy }) := World.putObj_heap_same hlt
      have hk2 : (Wa.putObj (w.heap.size + 1) (.loop { rec .ready none with state := .busy })).heap[w.heap.size]? = some (.deferred (some [])) := (World.putObj_heap_other (by omega)).trans hk
      refine wpIn_mono (hbody _ x a' _ (by omega) ⟨_, hl2⟩ ((sMid x a').putObj (s := ()) _ hmid (by omega) hl rfl)) ?_
      have fin : ∀ (jump : Option Code) (W3 : World), KeepsFrom w.heap.size (Wa.putObj (w.heap.size + 1) (.loop { rec .ready none with state := .busy })) W3 →
          (Instr.endRound (w.heap.size + 1) jump).run P W3 = .ok (.bool jump.isNone) (W3.putObj (w.heap.size + 1) (.loop (rec (if jump.isNone then .ready else .done) jump))) ∧
          W3.heap[w.heap.size + 1]? = some (.loop { rec .ready none with state := .busy }) ∧
          (W3.putObj (w.heap.size + 1) (.loop (rec (if jump.isNone then .ready else .done) jump))).heap[w.heap.size + 1]? = some (.loop (rec (if jump.isNone then .ready else .done) jump)) ∧
          (W3.putObj (w.heap.size + 1) (.loop (rec (if jump.isNone then .ready else .done) jump))).heap[w.heap.size]? = some (.deferred (some [])) := fun jump W3 hk3 => by
        have hl3 := hk3.same _ _ (by omega) hl2 rfl
        have := run_endRound (P := P) jump hl3
        rw [hrec] at this ⊢
        exact ⟨this, by rw [hrec] at hl3; exact hl3, World.putObj_heap_same (Array.getElem?_eq_some_iff.1 hl3).1, (World.putObj_heap_other (by omega)).trans (hk3.same _ _ (Nat.le_refl _) hk2 rfl)⟩
      rintro e a3 W3 hp3
      cases e with
      | normal =>
        obtain ⟨hk3, hi3⟩ := hp3
        obtain ⟨hr, hl3, hl4, hk4⟩ := fin none W3 hk3
        exact ⟨_, _, hr, .inl ⟨rfl, (sPost x).putObj (s := ()) _ hi3 (by omega) hl3 rfl, hl4, hk4⟩⟩
      | ret =>
        obtain ⟨hk3, hi3⟩ := hp3
        obtain ⟨hr, hl3, hl4, hk4⟩ := fin (some .ret) W3 hk3
        exact ⟨_, _, hr, .inr ⟨rfl, .ret, (sIx _).putObj (s := ()) _ hi3 (by omega) hl3 rfl, hl4, hk4⟩⟩
      | exit id =>
        obtain ⟨hk3, hi3⟩ := hp3
        obtain ⟨hr, hl3, hl4, hk4⟩ := fin (some (.exit id)) W3 hk3
        exact ⟨_, _, hr, .inr ⟨rfl, .exit id, (sIx _).putObj (s := ()) _ hi3 (by omega) hl3 rfl, hl4, hk4⟩⟩
      | goto t =>
        obtain ⟨hk3, hi3⟩ := hp3
        obtain ⟨hr, hl3, hl4, hk4⟩ := fin (some (.goto t)) W3 hk3
        exact ⟨_, _, hr, .inr ⟨rfl, .goto t, (sIx _).putObj (s := ()) _ hi3 (by omega) hl3 rfl, hl4, hk4⟩⟩
      | panic ch => exact hp3.elim
      | outgrown => exact hp3.elim
end

end Go.Proofs.Ytmdacfgofilbdaa
