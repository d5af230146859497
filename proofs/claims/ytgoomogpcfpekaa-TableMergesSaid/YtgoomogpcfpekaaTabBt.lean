/- a range over an iterator that ranges itself; what lies between two keys of a table, as it comes; two tables merged. -/
import Derived.Test.YtgoomogpcfpekaaRange
import Derived.Test.YtgoomogpcfpekaaTabN12
set_option linter.unusedSimpArgs false
set_option linter.unusedVariables false

namespace Go.Proofs.Ytgoomogpcfpekaa
open Go.RowKit

/-- blocks of cells of a type are kept -/
def KTy (t : TypeId) (W W' : World) : Prop := W.heap.size ≤ W'.heap.size ∧ ∀ (b : Nat) cs fr, W.heap[b]? = some (Obj.cells cs t fr) → W'.heap[b]? = some (Obj.cells cs t fr)
theorem KTy.refl (t : TypeId) (W : World) : KTy t W W := ⟨Nat.le_refl _, fun _ _ _ h => h⟩
theorem KTy.trans {t : TypeId} {A B C : World} (h : KTy t A B) (k : KTy t B C) : KTy t A C := ⟨Nat.le_trans h.1 k.1, fun b cs fr hb => k.2 b cs fr (h.2 b cs fr hb)⟩
theorem KTy.putObj {t : TypeId} {W : World} {l : Nat} {o : Obj} (o' : Obj) (hl : W.heap[l]? = some o) (ho : o.isCells = false) : KTy t W (W.putObj l o') :=
  ⟨by simp, fun b cs fr hb => (World.putObj_heap_other (fun e => by subst e; rw [hb] at hl; cases hl; simp [Obj.isCells] at ho)).trans hb⟩
theorem KTy.below {t : TypeId} {A B : World} (h : Below A.heap.size A B) : KTy t A B := ⟨h.size, fun b cs fr hb => (h.block b (Array.getElem?_eq_some_iff.1 hb).1).trans hb⟩
theorem KTy.blk {t : TypeId} {A B : World} (h : KTy t A B) {b : Nat} {l : List Value} (hb : Blk A b t l) : Blk B b t l := h.2 b _ _ hb

/-- what is no row of cells and lies ahead of N is kept -/
structure KU (N : Nat) (W W' : World) : Prop where
  size : W.heap.size ≤ W'.heap.size
  same : ∀ (k : Nat) (o : Obj), k < N → W.heap[k]? = some o → o.isCells = false → W'.heap[k]? = some o
theorem KU.refl (N : Nat) (W : World) : KU N W W := ⟨Nat.le_refl _, fun _ _ _ h _ => h⟩
theorem KU.trans {N : Nat} {A B C : World} (h : KU N A B) (k : KU N B C) : KU N A C := ⟨Nat.le_trans h.size k.size, fun i o hi ha ho => k.same i o hi (h.same i o hi ha ho) ho⟩
theorem KU.grown {N : Nat} {A B : World} {row : Option Nat} (hg : A.grownBy B row) (hr : ∀ r, row = some r → N ≤ r ∨ ∃ o : Obj, A.heap[r]? = some o ∧ o.isCells = true) : KU N A B :=
  ⟨hg.size, fun k o hk ha ho => (hg.block k (Array.getElem?_eq_some_iff.1 ha).1 (fun e => by
    rcases hr k e.symm with h | ⟨o', h1, h2⟩
    · omega
    · rw [ha] at h1; cases h1; rw [ho] at h2; cases h2)).trans ha⟩
theorem KU.others {N : Nat} {A B : World} (h : KeepsOthers A B) : KU N A B := ⟨h.size, fun k o _ ha ho => h.same k o ha ho⟩
theorem kf_up {B B' : Nat} {W W' : World} (h : KeepsFrom B W W') (hb : B ≤ B') : KeepsFrom B' W W' := ⟨h.size, fun k o hk hh ho => h.same k o (Nat.le_trans hb hk) hh ho⟩
/-- what each round keeps for the iterator: its walks' objects, and blocks of some types -/
def FY (N : Nat) (Ts : TypeId → Prop) (W W' : World) : Prop := KeepsFrom N W W' ∧ ∀ t, Ts t → KTy t W W'

/-- what a body owes at each of its ways out -/
def genPost3 (B : Nat) (Ts : TypeId → Prop) (Post : World → Prop) (Ix : Code → World → Prop) (W : World) : Exit → Act → World → Prop
  | .normal, _, W' => KeepsFrom B W W' ∧ (∀ t, Ts t → KTy t W W') ∧ Post W'
  | .ret, _, W' => KeepsFrom B W W' ∧ (∀ t, Ts t → KTy t W W') ∧ Ix .ret W'
  | .exit id, _, W' => KeepsFrom B W W' ∧ (∀ t, Ts t → KTy t W W') ∧ Ix (.exit id) W'
  | .goto t, _, W' => KeepsFrom B W W' ∧ (∀ t, Ts t → KTy t W W') ∧ Ix (.goto t) W'
  | .panic _, _, _ => False
  | .outgrown, _, _ => False

/-- what an iterator owes that may range itself -/
def IterOk3 (F : Fence) (n : Nat) (P : Program) (gf : Nat) (lb : Array Value) (Ts : TypeId → Prop) {α : Type} (encs : α → Array Value) (Start : World → Prop) (Pre Post : α → World → Prop) (Fin : World → Prop) : Prop :=
  ∀ (l : Nat) (Rc JX : World → Prop) (W1 : World), (∀ A A', Rc A → KU W1.heap.size A A' → Rc A') →
    (∀ A A' row, JX A → A.grownBy A' row → (∀ r, row = some r → W1.heap.size ≤ r ∧ ∃ o : Obj, A.heap[r]? = some o ∧ o.isCells = false) → JX A') → Rc W1 → Start W1 →
    (∀ x W, Pre x W → Rc W → W1.heap.size ≤ W.heap.size → YieldAt F (n - 1) P l (encs x) W fun e W' => FY W1.heap.size Ts W W' ∧ ((e = .returned (.bool true) ∧ Post x W' ∧ Rc W') ∨ (e = .returned (.bool false) ∧ JX W'))) →
    CallsIn F n P gf (#[.func (.yield l) #[] #[]] ++ lb) W1 fun e W' => (∃ v, e = .returned v) ∧ ((Fin W' ∧ Rc W') ∨ JX W')

section
variable {F : Fence} {n : Nat} {P : Program}

theorem range_gen3 {α : Type} {g : Operand} {ps : Array Tmp} {assign body : Code} {Q : Exit → Act → World → Prop} {a : Act} {w : World}
    (hro : F.round = none) (h1 : 1 ≤ n) {gf : Nat} {lb : Array Value} (hg : a.eval g = .func (.func gf) #[] lb) (hFg : F.fn gf) (eg : ∀ args w, (callFunc gf args).run P w = .ok (.enter gf args) w)
    {encs : α → Array Value} (hps : ∀ x, (encs x).size = ps.size)
    (Ts : TypeId → Prop) (Start : World → Prop) (Pre Post : α → World → Prop) (Ix : Code → World → Prop) (Fin : World → Prop) (Mid : α → Act → World → Prop)
    (sStart : OwnFrom w.heap.size (fun (_ : Unit) W => Start W)) (sPost : ∀ x, OwnFrom w.heap.size (fun (_ : Unit) W => Post x W)) (sIx : ∀ c, OwnFrom w.heap.size (fun (_ : Unit) W => Ix c W)) (sFin : OwnFrom w.heap.size (fun (_ : Unit) W => Fin W)) (sMid : ∀ x a', OwnFrom w.heap.size (fun (_ : Unit) W => Mid x a' W))
    (h0 : Start w) (hit : IterOk3 F (n - 1) P gf lb Ts encs Start Pre Post Fin)
    (hassign : ∀ (l : Nat) (x : α) (W : World) (K : Act → World → Prop), Pre x W → (∀ a' W', KeepsFrom w.heap.size W W' → (∀ t, Ts t → KTy t W W') → Mid x a' W' → K a' W') →
      assign.wpIn (F.inRound l) (n - 1 - 1) P (Exit.then K (fun _ _ _ => False)) { tmps := (ps.zip (encs x)).foldl (fun t (p, v) => t.setIfInBounds p v) a.tmps, defers := [] } W)
    (hbody : ∀ (l : Nat) (x : α) (a' : Act) (W : World), w.heap.size ≤ l → (∃ r, W.heap[l]? = some (.loop r)) → Mid x a' W → body.wpIn (F.inRound l) (n - 1 - 1) P (genPost3 w.heap.size Ts (Post x) Ix W) a' W)
    (hdone : ∀ (D : Nat) (W : World), w.heap.size ≤ D → Fin W → W.heap[D]? = some (.deferred (some [])) → Q .normal { a with defers := { target := .collected D, args := #[] } :: a.defers } W)
    (hstop : ∀ (D : Nat) (c : Code) (W : World), w.heap.size ≤ D → Ix c W → W.heap[D]? = some (.deferred (some [])) → c.wpIn F n P Q { a with defers := { target := .collected D, args := #[] } :: a.defers } W) :
    (Code.rangeFunc g ps assign body).wpIn F n P Q a w := by
  refine wpIn_rangeFunc ?_
  intro fn hfn
  rw [hro]
  obtain ⟨rec, hrec⟩ : ∃ rec : LoopState → Option Code → Loop, rec = fun st pe => { state := st, pending := pe, fn, tmps := a.tmps, params := ps, assign, body, defers := w.heap.size } := ⟨_, rfl⟩
  obtain ⟨W1, hW1⟩ : ∃ W1, (w.alloc (.deferred (some []))).alloc (.loop (rec .ready none)) = W1 := ⟨_, rfl⟩
  have hz1 : W1.heap.size = w.heap.size + 2 := by rw [← hW1]; simp
  have hL1 : W1.heap[w.heap.size + 1]? = some (.loop (rec .ready none)) := by
    rw [← hW1]; have := World.alloc_heap_new (w.alloc (.deferred (some []))) (.loop (rec .ready none)); rwa [World.size_alloc] at this
  have hK1 : W1.heap[w.heap.size]? = some (.deferred (some [])) := by
    rw [← hW1]; exact (Below.heap_alloc _ _ _ (by simp)).trans (World.alloc_heap_new w _)
  have hS1 : Start W1 := by rw [← hW1]; exact sStart.alloc (s := ()) _ (sStart.alloc (s := ()) _ h0)
  refine ⟨w.heap.size + 1, [{ target := .collected w.heap.size, args := #[] }], W1, { target := .fn (.func gf) lb, args := #[.func (.yield (w.heap.size + 1)) #[] #[]] }, W1, gf,
    #[.func (.yield (w.heap.size + 1)) #[] #[]] ++ lb, W1, ?_, ?_, ?_, ?_, fun _ => h1, ?_⟩
  · rw [← hW1, hrec]; exact run_enterLoop_outer _ _ _ _ _
  · simp only [resolve, hg]
    simp [go_sem]
  · intro f' hf'; simp [Target.leads] at hf'; subst hf'; exact hFg
  · simp [invoke, go_sem, eg]
  · have hRc := hit (w.heap.size + 1)
      (fun W => W.heap[w.heap.size + 1]? = some (.loop (rec .ready none)) ∧ W.heap[w.heap.size]? = some (.deferred (some [])))
      (fun W => ∃ c, Ix c W ∧ W.heap[w.heap.size + 1]? = some (.loop (rec .done (some c))) ∧ W.heap[w.heap.size]? = some (.deferred (some [])))
      W1 (fun A A' hA hk => ⟨hk.same _ _ (by omega) hA.1 rfl, hk.same _ _ (by omega) hA.2 rfl⟩)
      (fun A A' row hA hg' hr => by
        obtain ⟨c, hc, hl, hk⟩ := hA
        exact ⟨c, sIx c () A A' row hc hg' (fun r e => ⟨by have := (hr r e).1; omega, (hr r e).2⟩), (hg'.block _ (Array.getElem?_eq_some_iff.1 hl).1 (fun e => by have := (hr _ e.symm).1; omega)).trans hl, (hg'.block _ (Array.getElem?_eq_some_iff.1 hk).1 (fun e => by have := (hr _ e.symm).1; omega)).trans hk⟩)
      ⟨hL1, hK1⟩ hS1 ?_
    · refine hRc.mono ?_
      rintro e W2 ⟨⟨v, rfl⟩, (⟨hF, hl, hk⟩ | ⟨c, hi, hl, hk⟩)⟩
      · exact ⟨none, _, by have := run_endLoop (P := P) hl (by rw [hrec]; simp); rw [hrec] at this; exact this, hdone _ _ (Nat.le_refl _) (sFin.putObj (s := ()) _ hF (by omega) hl rfl) ((World.putObj_heap_other (by omega)).trans hk)⟩
      · exact ⟨some c, _, by have := run_endLoop (P := P) hl (by rw [hrec]; simp); rw [hrec] at this; exact this, hstop _ c _ (Nat.le_refl _) ((sIx c).putObj (s := ()) _ hi (by omega) hl rfl) ((World.putObj_heap_other (by omega)).trans hk)⟩
    · rintro x W hp ⟨hl, hk⟩ hWz
      have hy := run_yield (P := P) (args := encs x) hl (by rw [hrec]; exact hps x)
      rw [hrec] at hy
      refine ⟨fn, _, assign, body, hy, roundIn_of_wpIn hfn (hassign _ x W _ hp ?_)⟩
      clear hy
      intro a' Wa hkfa hkta hmid
      have hl0 := hl
      replace hl := hkfa.same _ _ (by omega) hl rfl
      replace hk := hkfa.same _ _ (Nat.le_refl _) hk rfl
      have hlt : w.heap.size + 1 < Wa.heap.size := (Array.getElem?_eq_some_iff.1 hl).1
      refine ⟨_, run_beginRound hl (by rw [hrec]), ?_⟩
      have hl2 : (Wa.putObj (w.heap.size + 1) (.loop { rec .ready none with state := .busy })).heap[w.heap.size + 1]? = some (.loop { rec .ready none with state := .busy }) := World.putObj_heap_same hlt
      have hk2 : (Wa.putObj (w.heap.size + 1) (.loop { rec .ready none with state := .busy })).heap[w.heap.size]? = some (.deferred (some [])) := (World.putObj_heap_other (by omega)).trans hk
      refine wpIn_mono (hbody _ x a' _ (by omega) ⟨_, hl2⟩ ((sMid x a').putObj (s := ()) _ hmid (by omega) hl rfl)) ?_
      have hla := hl
      have fy : ∀ (jump : Option Code) (W3 : World), KeepsFrom w.heap.size (Wa.putObj (w.heap.size + 1) (.loop { rec .ready none with state := .busy })) W3 → (∀ t, Ts t → KTy t (Wa.putObj (w.heap.size + 1) (.loop { rec .ready none with state := .busy })) W3) →
          FY W1.heap.size Ts W (W3.putObj (w.heap.size + 1) (.loop (rec (if jump.isNone then .ready else .done) jump))) := fun jump W3 hk3 ht3 => by
        have hl3 := hk3.same _ _ (by omega) hl2 rfl
        exact ⟨(((kf_up hkfa (by omega)).trans (KeepsFrom.of_grownBy (grownBy_putObj' _ _ _) (fun j e => by cases e; omega))).trans (kf_up hk3 (by omega))).trans (KeepsFrom.of_grownBy (grownBy_putObj' _ _ _) (fun j e => by cases e; omega)), fun t ht => (((hkta t ht).trans (KTy.putObj _ hla rfl)).trans (ht3 t ht)).trans (KTy.putObj _ hl3 rfl)⟩
      have fin : ∀ (jump : Option Code) (W3 : World), KeepsFrom w.heap.size (Wa.putObj (w.heap.size + 1) (.loop { rec .ready none with state := .busy })) W3 →
          (Instr.endRound (w.heap.size + 1) jump).run P W3 = .ok (.bool jump.isNone) (W3.putObj (w.heap.size + 1) (.loop (rec (if jump.isNone then .ready else .done) jump))) ∧
          W3.heap[w.heap.size + 1]? = some (.loop { rec .ready none with state := .busy }) ∧
          (W3.putObj (w.heap.size + 1) (.loop (rec (if jump.isNone then .ready else .done) jump))).heap[w.heap.size + 1]? = some (.loop (rec (if jump.isNone then .ready else .done) jump)) ∧
          (W3.putObj (w.heap.size + 1) (.loop (rec (if jump.isNone then .ready else .done) jump))).heap[w.heap.size]? = some (.deferred (some [])) := fun jump W3 hk3 => by
        have hl3 := hk3.same _ _ (by omega) hl2 rfl
        have := run_endRound (P := P) jump hl3
        rw [hrec] at this ⊢
        exact ⟨this, by rw [hrec] at hl3; exact hl3, World.putObj_heap_same (Array.getElem?_eq_some_iff.1 hl3).1, (World.putObj_heap_other (by omega)).trans (hk3.same _ _ (Nat.le_refl _) hk2 rfl)⟩
      rintro e a3 W3 hp3
      cases e with
      | normal =>
        obtain ⟨hk3, ht3, hi3⟩ := hp3
        obtain ⟨hr, hl3, hl4, hk4⟩ := fin none W3 hk3
        exact ⟨_, _, hr, fy none W3 hk3 ht3, .inl ⟨rfl, (sPost x).putObj (s := ()) _ hi3 (by omega) hl3 rfl, hl4, hk4⟩⟩
      | ret =>
        obtain ⟨hk3, ht3, hi3⟩ := hp3
        obtain ⟨hr, hl3, hl4, hk4⟩ := fin (some .ret) W3 hk3
        exact ⟨_, _, hr, fy (some .ret) W3 hk3 ht3, .inr ⟨rfl, .ret, (sIx _).putObj (s := ()) _ hi3 (by omega) hl3 rfl, hl4, hk4⟩⟩
      | exit id =>
        obtain ⟨hk3, ht3, hi3⟩ := hp3
        obtain ⟨hr, hl3, hl4, hk4⟩ := fin (some (.exit id)) W3 hk3
        exact ⟨_, _, hr, fy (some (.exit id)) W3 hk3 ht3, .inr ⟨rfl, .exit id, (sIx _).putObj (s := ()) _ hi3 (by omega) hl3 rfl, hl4, hk4⟩⟩
      | goto t =>
        obtain ⟨hk3, ht3, hi3⟩ := hp3
        obtain ⟨hr, hl3, hl4, hk4⟩ := fin (some (.goto t)) W3 hk3
        exact ⟨_, _, hr, fy (some (.goto t)) W3 hk3 ht3, .inr ⟨rfl, .goto t, (sIx _).putObj (s := ()) _ hi3 (by omega) hl3 rfl, hl4, hk4⟩⟩
      | panic ch => exact hp3.elim
      | outgrown => exact hp3.elim
end

end Go.Proofs.Ytgoomogpcfpekaa

namespace Go.Proofs.Ytgoomogpcfpekaa.TabN
open Go.RowKit Go.Proofs.Ytgoomogpcfpekaa.TabL
attribute [local go_sem] Oper.semAt_some

def Gives3 (G : Nat) (lb : Array Value) (Ts : TypeId → Prop) (St N : World → Prop) (zs : List Pr) : Prop :=
  (∀ args w, (callFunc G args).run Try.prog w = .ok (.enter G args) w) ∧
  ∀ (n bnd : Nat) (Inv : Nat → World → Prop), (∀ k W, Inv k W → N W) → (∀ k W m, Inv k W → Inv k (W.drewN m)) → (∀ k b, bnd ≤ b → OwnFrom b (fun (_ : Unit) W => Inv k W)) →
    IterOk3 Fence.wide n Try.prog G lb Ts (fun k : Nat => #[ek (zs.getD k d0).1, ev (zs.getD k d0).2]) (fun W => bnd ≤ W.heap.size ∧ St W ∧ Inv 0 W) (fun k W => k < zs.length ∧ Inv k W) (fun k W => Inv (k + 1) W) (Inv zs.length)

/-- from a key on, as far as the keys are below another -/
def betL (xs : List Pr) (low high : Int) : List Pr := (fromL ltI xs low).takeWhile (fun q => ltI q.1 high)
theorem tw_le {α : Type} (p : α → Bool) : ∀ l : List α, (l.takeWhile p).length ≤ l.length
  | [] => Nat.le_refl _
  | a :: l => by
    rw [List.takeWhile_cons]
    split
    · have := tw_le p l; simp only [List.length_cons]; omega
    · simp
theorem tw_at {α : Type} (p : α → Bool) (d : α) : ∀ (l : List α) (k : Nat), k ≤ (l.takeWhile p).length → k < l.length → (p (l.getD k d) = true → k < (l.takeWhile p).length ∧ (l.takeWhile p).getD k d = l.getD k d) ∧ (p (l.getD k d) = false → (l.takeWhile p).length = k)
  | [], k, _, h => by simp at h
  | a :: l, 0, _, _ => by
    rw [List.takeWhile_cons]
    cases hp : p a <;> simp [hp]
  | a :: l, k + 1, hk, h => by
    rw [List.takeWhile_cons] at hk ⊢
    cases hp : p a
    · rw [hp] at hk; simp at hk
    · rw [hp] at hk
      simp only [if_true, List.length_cons] at hk h ⊢
      have := tw_at p d l k (by omega) (by omega)
      simp only [List.getD_cons_succ]
      exact ⟨fun h1 => ⟨by have := (this.1 h1).1; omega, (this.1 h1).2⟩, fun h1 => by have := this.2 h1; omega⟩
theorem cell_own {b : Nat} (a : Addr) (v : Value) : OwnFrom b (fun (_ : Unit) W => W.cell? a = some v) := fun s A B row h3' hg hr => by
  have h3 : A.cell? a = some v := h3'
  show B.cell? a = some v
  rw [← h3]
  refine World.cell?_of_block (hg.block _ (World.block_lt_of_cell? _ _ h3) (fun e => ?_))
  obtain ⟨_, o, ho, hno⟩ := hr _ e.symm
  unfold World.cell? at h3
  rw [ho] at h3
  cases o <;> simp [Obj.isCells] at hno h3
theorem kt_own {b : Nat} {t : TypeId} (w0 : World) : OwnFrom b (fun (_ : Unit) W => KT t w0 W) := fun s A B row h hg hr =>
  h.trans (KT.grown hg (fun r e => by
    obtain ⟨_, o, ho, hno⟩ := hr r e
    refine ⟨o, ho, fun cs fr e2 => ?_⟩
    subst e2
    simp [Obj.isCells] at hno))

/-- the memory before round k of what Between$1 goes over -/
structure BI (low : Int) (n1 Bk By l : Nat) (Rc : World → Prop) (Inv : Nat → World → Prop) (m k : Nat) (W' : World) : Prop where
  le : k ≤ m
  bk : Blk W' Bk 2 [.int .i64 low]
  by_ : Blk W' By 47 [.func (.yield l) #[] #[]]
  inv : Inv k W'
  rc : Rc W'
  sz : n1 ≤ W'.heap.size
theorem BI.own {low : Int} {n1 Bk By l : Nat} {Rc : World → Prop} {Inv : Nat → World → Prop} {m : Nat} (hRc : ∀ A A', Rc A → KU n1 A A' → Rc A') (k : Nat) {b : Nat} (hb : n1 ≤ b) (hO : OwnFrom b (fun (_ : Unit) W => Inv k W)) :
    OwnFrom b (fun (_ : Unit) W' => BI low n1 Bk By l Rc Inv m k W') := fun s A B row h hg hr => by
  have q : ∀ {c : Nat} {t : TypeId} {l : List Value}, Blk A c t l → Blk B c t l := fun hc => Own.from (blk_own _ _ (fun _ : Unit => _)) b () A B row hc hg hr
  exact ⟨h.le, q h.bk, q h.by_, hO () A B row h.inv hg hr, hRc _ _ h.rc (KU.grown hg (fun r e => .inl (Nat.le_trans hb (hr r e).1))), Nat.le_trans h.sz hg.size⟩

def BetTs (t : TypeId) : Prop := t = 2 ∨ t = 47
set_option maxRecDepth 100000 in
set_option maxHeartbeats 8000000 in
theorem between_gives (w0 : World) (B3 B4 B5 p : Nat) (q : Option Addr) (T0 : Tr) (low high : Int) (hT : T w0 q T0) (hS : Sd ltI T0.toL) :
    Gives3 61 #[.pointer (some ⟨B3, 0, none⟩), .pointer (some ⟨B4, 0, none⟩), .pointer (some ⟨B5, 0, none⟩)] BetTs
      (fun W => W.cell? ⟨B3, 0, none⟩ = some (.pointer (some ⟨p, 0, none⟩)) ∧ W.cell? ⟨p, 0, none⟩ = some (.pointer q) ∧ W.cell? ⟨B4, 0, none⟩ = some (.int .i64 low)) (fun W => KT 84 w0 W ∧ W.cell? ⟨B5, 0, none⟩ = some (.int .i64 high)) (betL T0.toL low high) := by
  refine ⟨enters_of Try.func61 (by kernel_rfl) rfl, fun n bnd Inv hN hD hO => ?_⟩
  intro l Rc JX W1 hRc hJX hR0 hS0 hY
  obtain ⟨hbw, ⟨c3, cp, c4⟩, hI0⟩ := hS0
  unfold betL at hY ⊢
  obtain ⟨ys, hys⟩ : ∃ ys, fromL ltI T0.toL low = ys := ⟨_, rfl⟩
  rw [hys] at hY ⊢
  have htw := tw_at (fun q : Pr => ltI q.1 high) d0 ys
  have htl := tw_le (fun q : Pr => ltI q.1 high) ys
  obtain ⟨zs, hzs⟩ : ∃ zs, ys.takeWhile (fun q : Pr => ltI q.1 high) = zs := ⟨_, rfl⟩
  rw [hzs] at hY htw htl ⊢
  show CallsIn Fence.wide n Try.prog 61 #[.func (.yield l) #[] #[], .pointer (some ⟨B3, 0, none⟩), .pointer (some ⟨B4, 0, none⟩), .pointer (some ⟨B5, 0, none⟩)] W1 _
  refine (callsIn_wide (n := n)).2 ((callsIn_wide (n := 4)).1 ?_)
  refine callsIn_of_wp_marks Try.func61 rfl trivial ?_ rfl
  refine wpIn_wide.2 ?_
  simp only [Try.ntmps61, List.size_toArray, List.length_cons, List.length_nil, Nat.reduceAdd, Nat.reduceSub, Array.replicate_succ, Array.replicate_zero, List.push_toArray, List.append_toArray, List.nil_append, List.cons_append]
  have hal2 : Below W1.heap.size W1 (W1.alloc (.cells #[.func (.yield l) #[] #[]] 47)) := (Below.refl _ W1).alloc (Nat.le_refl _) _
  have by2 := Blk.new W1 [.func (.yield l) #[] #[]] 47
  have c3' := (bcell hal2).1 B3 0 (World.block_lt_of_cell? _ _ c3)
  have c4' := (bcell hal2).1 B4 0 (World.block_lt_of_cell? _ _ c4)
  rw [c3] at c3'
  rw [c4] at c4'
  go_wp2_with fail
  obtain ⟨w2, hw2⟩ : ∃ w2, W1.alloc (.cells #[.func (.yield l) #[] #[]] 47) = w2 := ⟨_, rfl⟩
  have hz2 : w2.heap.size = W1.heap.size + 1 := by rw [← hw2]; simp
  rw [hw2] at hal2 by2 c3' c4' ⊢
  clear hw2
  refine (from_any w2 _ _).mono ?_; rintro e w3 ⟨rfl, hw3⟩
  have hal3 : Below w2.heap.size w2 w3 := by rw [hw3]; exact bel_alloc2 w2 _ _
  have hal := hal2.trans (hal3.mono hal2.size)
  have bB3 : Blk w3 w2.heap.size 24 [.pointer (some ⟨p, 0, none⟩)] := by rw [hw3]; exact (Blk.new w2 [.pointer (some ⟨p, 0, none⟩)] 24).alloc _
  have bk3 : Blk w3 (w2.heap.size + 1) 2 [.int .i64 low] := by rw [hw3]; exact Blk.new2 w2 _ [.int .i64 low] 2
  have by3 := by2.belowS hal3
  have cp3 : w3.cell? ⟨p, 0, none⟩ = some (.pointer q) := (hal.cell (p := ⟨p, 0, none⟩) (World.block_lt_of_cell? _ _ cp)).trans cp
  have hI3 : Inv 0 w3 := hO 0 W1.heap.size hbw () W1 w3 none hI0 ⟨hal.os, hal.tape, hal.output, hal.size, fun j hj _ => hal.block j hj⟩ (fun r e => by cases e)
  have hR3 : Rc w3 := hRc _ _ hR0 (KU.grown (row := none) ⟨hal.os, hal.tape, hal.output, hal.size, fun j hj _ => hal.block j hj⟩ (fun r e => by cases e))
  have hz3 : w3.heap.size = w2.heap.size + 2 := by rw [hw3]; simp
  have hG := from_gives w0 w2.heap.size (w2.heap.size + 1) p q T0 low hT hS
  obtain ⟨g, hg⟩ : ∃ g, w2.heap.size = g := ⟨_, rfl⟩
  rw [hg] at hG bB3 bk3 hz2 hz3 ⊢
  obtain ⟨n1, hn1⟩ : ∃ n1, W1.heap.size = n1 := ⟨_, rfl⟩
  rw [hn1] at by3 hbw hz2 hRc hJX hY ⊢
  subst hz2
  rw [hys] at hG
  have cB := bB3.cell (i := 0) rfl
  have hBI : BI low n1 (n1 + 1 + 1) n1 l Rc Inv zs.length 0 w3 := ⟨Nat.zero_le _, bk3, by3, hI3, hR3, by omega⟩
  have hsO : ∀ k, OwnFrom w3.heap.size (fun (_ : Unit) W' => BI low n1 (n1 + 1 + 1) n1 l Rc Inv zs.length k W') := fun k => BI.own hRc k (by omega) (hO k _ (by omega))
  have hdN : ∀ k W m, BI low n1 (n1 + 1 + 1) n1 l Rc Inv zs.length k W → BI low n1 (n1 + 1 + 1) n1 l Rc Inv zs.length k (W.drewN m) := fun k W m h => hsO k () W _ none h ⟨rfl, rfl, rfl, Nat.le_refl _, fun _ _ _ => rfl⟩ (fun r e => by cases e)
  clear hw3 hal2 hal3 hal by2 c3' c4' c3 c4 cp bB3 hI3 hR3 hI0 hR0 hys hzs hg hn1 hT hS by3
  go_wp2_with fail
  refine wpIn_wide.1 (range_gen (F := Fence.wide) (n := 4) rfl (by omega) (gf := 49) (lb := #[.pointer (some ⟨n1 + 1, 0, none⟩), .pointer (some ⟨n1 + 1 + 1, 0, none⟩)]) rfl trivial hG.1 (encs := fun k : Nat => #[ek (ys.getD k d0).1, ev (ys.getD k d0).2]) (fun _ => rfl)
    (fun W' => (W'.cell? ⟨n1 + 1, 0, none⟩ = some (.pointer (some ⟨p, 0, none⟩)) ∧ W'.cell? ⟨p, 0, none⟩ = some (.pointer q)) ∧ BI low n1 (n1 + 1 + 1) n1 l Rc Inv zs.length 0 W')
    (fun k W' => k < ys.length ∧ BI low n1 (n1 + 1 + 1) n1 l Rc Inv zs.length k W')
    (fun k W' => BI low n1 (n1 + 1 + 1) n1 l Rc Inv zs.length (k + 1) W')
    (fun c W' => c = .ret ∧ ((Inv zs.length W' ∧ Rc W') ∨ JX W'))
    (fun W' => BI low n1 (n1 + 1 + 1) n1 l Rc Inv zs.length ys.length W')
    (fun k a' W' => a' = { tmps := #[.func (.yield l) #[] #[], .pointer (some ⟨B3, 0, none⟩), .pointer (some ⟨B4, 0, none⟩), .pointer (some ⟨B5, 0, none⟩), .pointer (some ⟨n1, 0, none⟩), ek (ys.getD k d0).1, ev (ys.getD k d0).2, .pointer (some ⟨p, 0, none⟩), .int .i64 low, .func (.func 49) #[] #[.pointer (some ⟨n1 + 1, 0, none⟩), .pointer (some ⟨n1 + 1 + 1, 0, none⟩)], ek (ys.getD k d0).1, ev (ys.getD k d0).2, undef, undef, undef, undef, undef, undef, undef, undef, undef, undef, undef], defers := [] } ∧ k < ys.length ∧ BI low n1 (n1 + 1 + 1) n1 l Rc Inv zs.length k W')
    (OwnFrom.and (OwnFrom.and (cell_own _ _) (cell_own _ _)) (hsO 0))
    (fun k => hsO (k + 1))
    (fun c s A B row hs hg hr => ⟨hs.1, hs.2.elim (fun h => .inl ⟨hO _ w3.heap.size (by omega) () A B row h.1 hg hr, hRc _ _ h.2 (KU.grown hg (fun r e => .inl (by have := (hr r e).1; omega)))⟩) (fun h => .inr (hJX A B row h hg (fun r e => ⟨by have := (hr r e).1; omega, (hr r e).2⟩)))⟩)
    (hsO _)
    (fun k a' => OwnFrom.and (fun _ _ _ _ hs _ _ => hs) (OwnFrom.and (fun _ _ _ _ hs _ _ => hs) (hsO k)))
    ⟨⟨cB, cp3⟩, hBI⟩ (hG.2 3 (fun k W' => BI low n1 (n1 + 1 + 1) n1 l Rc Inv zs.length k W') (fun k W' h => ⟨(hN _ _ h.inv).1, h.bk.cell (i := 0) rfl⟩) (fun k W' m h => hdN k W' m h)) ?assign ?body ?done ?stop)
  case assign =>
    rintro l2 k W' K ⟨hk, hP⟩ hK
    obtain ⟨⟨x, y⟩, hx⟩ : ∃ x, ys.getD k d0 = x := ⟨_, rfl⟩
    rw [hx] at hK ⊢
    unfold ek ev at hK ⊢
    gi_wp2
    exact hK _ _ (KeepsFrom.refl _ _) ⟨rfl, hk, hP⟩
  case body =>
    rintro l2 k a' W' hl2 hr ⟨rfl, hk, hS⟩
    have hw := htw k hS.le hk
    obtain ⟨⟨x, y⟩, hx⟩ : ∃ x, ys.getD k d0 = x := ⟨_, rfl⟩
    rw [hx] at hw ⊢
    unfold ek ev
    have c5 := (hN _ _ hS.inv).2
    have cy := hS.by_.cell (i := 0) rfl
    have HS := Lib.hid hS
    have HC := Lib.hid (cmp_any W' x high)
    cases hlt : ltI x high with
    | false =>
      have hzk := hw.2 hlt
      have hc0 : 0 ≤ cmpV ltI x high := by unfold cmpV; rw [hlt]; simp; split <;> decide
      obtain ⟨cv, hcv⟩ : ∃ cv, cmpV ltI x high = cv := ⟨_, rfl⟩
      rw [hcv] at HC hc0
      clear hS hsO hG hY hw htw hN hD hx hcv
      gi_wp2_with (refine ⟨trivial, ?_⟩; gi_at_call 50; refine (CallsIn.inRound l2 (callsIn_wide.2 HC.out)).mono ?_; rintro e w4 ⟨rfl, rfl⟩)
      refine ⟨(fun _ h => (by cases h)), ?_⟩
      gi_wp2_with fail
      exact ⟨KeepsFrom.refl _ _, rfl, .inl ⟨by rw [hzk]; exact HS.out.inv, HS.out.rc⟩⟩
    | true =>
      obtain ⟨hkz, hzy⟩ := hw.1 hlt
      have hY2 := hY k W' ⟨hkz, hS.inv⟩ hS.rc hS.sz
      rw [hzy] at hY2
      obtain ⟨fn, tm, as_, bd, hy, hRd⟩ := yieldAny 1 hY2
      have hc0 : cmpV ltI x high < 0 := by unfold cmpV; rw [hlt, if_pos rfl]; decide
      obtain ⟨cv, hcv⟩ : ∃ cv, cmpV ltI x high = cv := ⟨_, rfl⟩
      rw [hcv] at HC hc0
      have HRD := Lib.hid hRd
      unfold ek ev at hy
      clear hS hsO hG hY hw htw hN hD hx hcv hRd hY2
      gi_wp2_with (refine ⟨trivial, ?_⟩; gi_at_call 50; refine (CallsIn.inRound l2 (callsIn_wide.2 HC.out)).mono ?_; rintro e w4 ⟨rfl, rfl⟩)
      refine RoundIn.mono (F := Fence.wide) HRD.out ?_
      clear hy
      rintro e w5 ⟨hfy, (⟨rfl, hI5, hR5⟩ | ⟨rfl, hJ⟩)⟩
      · gi_wp2_with fail
        exact ⟨kf_up hfy.1 (by omega), hkz, (hfy.2 _ (.inl rfl)).blk HS.out.bk, (hfy.2 _ (.inr rfl)).blk HS.out.by_, hI5, hR5, Nat.le_trans HS.out.sz hfy.1.size⟩
      · gi_wp2_with fail
        exact ⟨kf_up hfy.1 (by omega), rfl, .inr hJ⟩
  case done =>
    rintro D W' hD2 hS hK
    have hzy : zs.length = ys.length := by have := hS.le; omega
    go_wp2_with fail
    refine ⟨by simp, .inl ⟨_, _, rfl, run_takeDeferred hK, ?_⟩⟩
    have h2 := (hsO ys.length).putObj (s := ()) (.deferred none) hS hD2 hK rfl
    refine ⟨.tuple #[], by simp [results, Try.f61, go_sem], ⟨_, rfl⟩, .inl ⟨by rw [hzy]; exact h2.inv, h2.rc⟩⟩
  case stop =>
    rintro D c W' hD2 ⟨rfl, hE⟩ hK
    gi_wp2
    go_wp2
    refine ⟨by simp, .inl ⟨_, _, rfl, run_takeDeferred hK, ?_⟩⟩
    have hg := grownBy_putObj' W' D (.deferred none)
    refine ⟨.tuple #[], by simp [results, Try.f61, go_sem], ⟨_, rfl⟩, ?_⟩
    rcases hE with ⟨h1, h2⟩ | h
    · exact .inl ⟨hO _ w3.heap.size (by omega) () _ _ _ h1 hg (fun r e => by cases e; exact ⟨hD2, _, hK, rfl⟩), hRc _ _ h2 (KU.grown hg (fun r e => by cases e; exact .inl (by omega)))⟩
    · exact .inr (hJX _ _ _ h hg (fun r e => by cases e; exact ⟨by omega, _, hK, rfl⟩))

theorem app_kt {W w1 : World} {n0 Bo k size : Nat} {t tB e : TypeId} {v v' : Value} {xs : List Value} {tmp : Obj} (hv1 : Boxed w1 Bo tB v) (hrow : W.ownsRow n0 e size v k xs) (hgrow : (W.alloc tmp).grownBy w1 v.ownBlock) (ht : e ≠ t) (htB : tB ≠ t) : KTy t W (w1.setCell ⟨Bo, 0, none⟩ v') := by
  refine show KT t _ _ from ((KT.alloc W tmp).trans (KT.grown hgrow (fun r hr => ?_))).trans (KT.setOther (show Blk w1 Bo tB [v] from hv1) htB)
  obtain ⟨_, cs, fr, hc⟩ := own_typ hrow r hr
  exact ⟨_, (Below.heap_alloc W tmp r (Array.getElem?_eq_some_iff.1 hc).1).trans hc, fun cs' fr' e2 => by injection e2 with _ e3 _; exact ht e3⟩
set_option maxRecDepth 100000 in
set_option maxHeartbeats 4000000 in
theorem pairs_any3 (W : World) (G : Nat) (lb : Array Value) (Ts : TypeId → Prop) (hTs : ∀ t, Ts t → 41 ≠ t ∧ 25 ≠ t) (St N : World → Prop) (zs : List Pr) (m : Int) (hG : Gives3 G lb Ts St N zs) (hm : 1 ≤ m) (hz : zs.length < 1099511627776)
    (hSt : ∀ W', Below W.heap.size W W' → St W') (hN : ∀ W', Below W.heap.size W W' → N W') :
    Calls Try.prog 13 #[.func (.func G) #[] lb, .int .i64 m] W fun e w' => ∃ v, e = .returned v ∧ w'.ownsRow W.heap.size 41 2 v (zs.take m.toNat).length (cellsOf cP (zs.take m.toNat)) ∧ Below W.heap.size W w' := by
  obtain ⟨i0, hi0, hiz0, hiz1, hiz2⟩ := info_parts infoP
  have hq := fun W => run_eql_func_nil (P := Try.prog) W 32 #[47] #[] false G lb (by kernel_rfl)
  refine (callsIn_wide (n := 4)).1 ?_
  refine callsIn_of_wp_marks Try.func13 rfl trivial ?_ rfl
  refine wpIn_wide.2 ?_
  simp only [Try.ntmps13, List.size_toArray, List.length_cons, List.length_nil, Nat.reduceAdd, Nat.reduceSub, Array.replicate_succ, Array.replicate_zero, List.push_toArray, List.append_toArray, List.nil_append, List.cons_append]
  go_wp2_with fail
  have b0 := ((Blk.new W [.int .i64 m] 3).alloc (.cells #[] 41)).alloc (.cells #[.slice (some ⟨W.heap.size + 1, 0, none⟩) 0 0] 25)
  have bo : Boxed (((W.alloc (.cells #[.int .i64 m] 3)).alloc (.cells #[] 41)).alloc (.cells #[.slice (some ⟨W.heap.size + 1, 0, none⟩) 0 0] 25)) (W.heap.size + 1 + 1) 25 (.slice (some ⟨W.heap.size + 1, 0, none⟩) 0 0) := by
    have := Boxed.new ((W.alloc (.cells #[.int .i64 m] 3)).alloc (.cells #[] 41)) 25 (.slice (some ⟨W.heap.size + 1, 0, none⟩) 0 0)
    rw [World.size_alloc, World.size_alloc] at this
    exact this
  have rO : (((W.alloc (.cells #[.int .i64 m] 3)).alloc (.cells #[] 41)).alloc (.cells #[.slice (some ⟨W.heap.size + 1, 0, none⟩) 0 0] 25)).ownsRow W.heap.size 41 2 (.slice (some ⟨W.heap.size + 1, 0, none⟩) 0 0) 0 [] := by
    have := (World.ownsRow_lit (base := W.heap.size) (e := 41) (size := 2) (W.alloc (.cells #[.int .i64 m] 3)) #[] 0 (by simp) (by decide) rfl).alloc (.cells #[.slice (some ⟨W.heap.size + 1, 0, none⟩) 0 0] 25)
    rw [World.size_alloc] at this
    exact this
  have hB0 := (bel_alloc2 W (.cells #[.int .i64 m] 3) (.cells #[] 41)).alloc (by simp; omega) (.cells #[.slice (some ⟨W.heap.size + 1, 0, none⟩) 0 0] 25)
  obtain ⟨W2, hW2⟩ : ∃ W2, (((W.alloc (.cells #[.int .i64 m] 3)).alloc (.cells #[] 41)).alloc (.cells #[.slice (some ⟨W.heap.size + 1, 0, none⟩) 0 0] 25)) = W2 := ⟨_, rfl⟩
  have hz2 : W2.heap.size = W.heap.size + 3 := by rw [← hW2]; simp
  have hPI0 : PI W m (zs.take 0) W2 := by rw [← hW2]; exact ⟨⟨_, bo, rO⟩, b0, hB0⟩
  rw [hW2] at hB0 ⊢
  clear hW2 b0 bo rO hq
  have hsO : ∀ xs, OwnFrom W2.heap.size (fun (_ : Unit) W' => PI W m xs W') := fun xs => PI.ownF W m xs (by omega)
  refine wpIn_wide.1 (range_gen3 (F := Fence.wide) (n := 4) rfl (by omega) (gf := G) (lb := lb) rfl trivial hG.1 (encs := fun k : Nat => #[ek (zs.getD k d0).1, ev (zs.getD k d0).2]) (fun _ => rfl) Ts
    (fun W' => W.heap.size ≤ W'.heap.size ∧ St W' ∧ ((0 : Nat) : Int) < m ∧ PI W m (zs.take 0) W')
    (fun k W' => k < zs.length ∧ (k : Int) < m ∧ PI W m (zs.take k) W')
    (fun k W' => ((k + 1 : Nat) : Int) < m ∧ PI W m (zs.take (k + 1)) W')
    (fun c W' => (c = .exit 0 ∧ True) ∧ PI W m (zs.take m.toNat) W')
    (fun W' => ((zs.length : Nat) : Int) < m ∧ PI W m (zs.take zs.length) W')
    (fun k a' W' => a' = { tmps := #[.func (.func G) #[] lb, .int .i64 m, undef, .pointer (some ⟨W.heap.size, 0, none⟩), .slice none 0 0, .pointer (some ⟨W.heap.size + 1 + 1, 0, none⟩), ek (zs.getD k d0).1, ev (zs.getD k d0).2, .slice (some ⟨W.heap.size + 1, 0, none⟩) 0 0, .func (.func G) #[] lb, .bool false, undef, .func (.func G) #[] lb, ek (zs.getD k d0).1, ev (zs.getD k d0).2, undef, undef, undef, undef, undef, undef, undef, undef, undef, undef, undef], defers := [] } ∧ k < zs.length ∧ (k : Int) < m ∧ PI W m (zs.take k) W')
    (fun s A A' row hs hg hr => by
      have h := hsO _ () A A' row hs.2.2.2 hg hr
      exact ⟨Nat.le_trans hs.1 hg.size, hSt _ h.2.2, hs.2.2.1, h⟩)
    (fun k => OwnFrom.and (fun _ _ _ _ hs _ _ => hs) (hsO _))
    (fun c => OwnFrom.and (fun _ _ _ _ hs _ _ => hs) (hsO _))
    (OwnFrom.and (fun _ _ _ _ hs _ _ => hs) (hsO _))
    (fun k a' => OwnFrom.and (fun _ _ _ _ hs _ _ => hs) (OwnFrom.and (fun _ _ _ _ hs _ _ => hs) (OwnFrom.and (fun _ _ _ _ hs _ _ => hs) (hsO _))))
    ⟨by omega, hSt _ hB0, by omega, hPI0⟩
    (hG.2 3 W.heap.size (fun k W' => ((k : Nat) : Int) < m ∧ PI W m (zs.take k) W') (fun k W' h => hN _ h.2.2.2)
      (fun k W' j h => ⟨h.1, hsO _ () W' _ none h.2 ⟨rfl, rfl, rfl, Nat.le_refl _, fun _ _ _ => rfl⟩ (fun r e => by cases e)⟩)
      (fun k b hb => OwnFrom.and (fun _ _ _ _ hs _ _ => hs) (PI.ownF W m _ hb)))
    ?assign ?body ?done ?stop)
  case assign =>
    rintro l k W' K ⟨hk, hkm, hP⟩ hK
    obtain ⟨⟨x, y⟩, hx⟩ : ∃ x, zs.getD k d0 = x := ⟨_, rfl⟩
    rw [hx] at hK ⊢
    unfold ek ev at hK ⊢
    have HKM := Lib.hid hkm
    clear hkm
    gi_wp2
    exact hK _ _ (KeepsFrom.refl _ _) (fun t _ => KTy.refl _ _) ⟨rfl, hk, HKM.out, hP⟩
  case body =>
    rintro l k a' W' hl hr ⟨rfl, hk, hkm, ⟨v, hv, hrow⟩, bm, hB⟩
    have htk : zs.take (k + 1) = zs.take k ++ [zs.getD k d0] := by rw [List.take_succ_eq_append_getElem hk]; simp [List.getD, hk]
    obtain ⟨⟨x, y⟩, hx⟩ : ∃ x, zs.getD k d0 = x := ⟨_, rfl⟩
    rw [hx] at htk ⊢
    have hlk : (zs.take k).length = k := by rw [List.length_take]; omega
    rw [hlk] at hrow
    have HTK := Lib.hid htk; have HLK := Lib.hid hlk; have HKZ := Lib.hid hk
    clear htk hx hlk
    have hc := hv.cell
    have hz1 := hB.size
    have bmc := bm.cell (i := 0) rfl
    have blt := bm.lt
    unfold ek ev
    by_cases hlast : ((k : Int) + 1) = m
    · have hmk : m.toNat = k + 1 := by omega
      have HMK := Lib.hid hmk
      clear hmk
      gi_wp2_with (gi_at_builtin; refine wpListIn_append_own _ rfl _ _ 25 rfl W.heap.size 41 i0 _ 2 16 Try.underlying25 hi0 hiz0 hiz1 hiz2 rfl (by decide) _ k _ rfl (hrow.alloc _) ⟨W'.heap.size, 0, none⟩ 1 1 [.int .i64 x, .int .i64 y] rfl rfl (news_blk (Blk.new W' [.int .i64 x, .int .i64 y] 41)) (by simp [Value.oneCell']) (by unfold maxLen; omega) (by omega) (by simp; omega) ?_; intro v' w3 hown' hgrow _; obtain ⟨g', cap', rfl⟩ := ownsRow_succ hown'; obtain ⟨hv1, hv2, hr2, hk2, hb2⟩ := hv.appended (by decide) hrow hB.size (by omega) hown' hgrow; have hc1 := hv1.cell; have hf1 := hv1.frozen; have hc2 := hv2.cell; have bm3 := (blk_kept bm hrow (by decide) hgrow).other (p := ⟨W.heap.size + 1 + 1, 0, none⟩) (by simp; omega) (.slice (some ⟨g', 0, none⟩) (k + 1) cap'); have bmc3 := bm3.cell (i := 0) rfl)
      refine ⟨hk2.from _, (fun t ht => app_kt hv1 hrow hgrow (hTs t ht).1 (hTs t ht).2), rfl, ⟨⟨_, hv2, ?_⟩, bm3, hB.trans hb2⟩⟩
      rw [HMK.out, HTK.out, List.length_append, HLK.out, cellsOf_append, cellsOf_one]
      exact hr2
    · have hlt2 : (((k + 1 : Nat) : Int)) < m := by omega
      have HLT := Lib.hid hlt2
      clear hlt2
      gi_wp2_with (gi_at_builtin; refine wpListIn_append_own _ rfl _ _ 25 rfl W.heap.size 41 i0 _ 2 16 Try.underlying25 hi0 hiz0 hiz1 hiz2 rfl (by decide) _ k _ rfl (hrow.alloc _) ⟨W'.heap.size, 0, none⟩ 1 1 [.int .i64 x, .int .i64 y] rfl rfl (news_blk (Blk.new W' [.int .i64 x, .int .i64 y] 41)) (by simp [Value.oneCell']) (by unfold maxLen; omega) (by omega) (by simp; omega) ?_; intro v' w3 hown' hgrow _; obtain ⟨g', cap', rfl⟩ := ownsRow_succ hown'; obtain ⟨hv1, hv2, hr2, hk2, hb2⟩ := hv.appended (by decide) hrow hB.size (by omega) hown' hgrow; have hc1 := hv1.cell; have hf1 := hv1.frozen; have hc2 := hv2.cell; have bm3 := (blk_kept bm hrow (by decide) hgrow).other (p := ⟨W.heap.size + 1 + 1, 0, none⟩) (by simp; omega) (.slice (some ⟨g', 0, none⟩) (k + 1) cap'); have bmc3 := bm3.cell (i := 0) rfl)
      refine ⟨hk2.from _, (fun t ht => app_kt hv1 hrow hgrow (hTs t ht).1 (hTs t ht).2), HLT.out, ⟨⟨_, hv2, ?_⟩, bm3, hB.trans hb2⟩⟩
      rw [HTK.out, List.length_append, HLK.out, cellsOf_append, cellsOf_one]
      exact hr2
  case done =>
    rintro D W' hD ⟨hzm, ⟨v, hv, hrow⟩, bm, hB⟩ hK
    have hc := hv.cell
    have hfin : zs.take m.toNat = zs.take zs.length := by rw [List.take_length, List.take_of_length_le (by omega)]
    rw [← hfin] at hrow
    clear hfin
    go_wp2
    refine ⟨by simp, .inl ⟨_, _, rfl, run_takeDeferred hK, ?_⟩⟩
    exact ⟨_, results_tmp rfl _ _ _, v, rfl, ownsRow_putObj hrow _ hK rfl, hB.trans (belowK_b (w := W2) (by omega) W' D _ _ hD hK rfl rfl)⟩
  case stop =>
    rintro D c W' hD ⟨⟨rfl, _⟩, ⟨v, hv, hrow⟩, bm, hB⟩ hK
    have hc := hv.cell
    gi_wp2
    go_wp2
    refine ⟨by simp, .inl ⟨_, _, rfl, run_takeDeferred hK, ?_⟩⟩
    exact ⟨_, results_tmp rfl _ _ _, v, rfl, ownsRow_putObj hrow _ hK rfl, hB.trans (belowK_b (w := W2) (by omega) W' D _ _ hD hK rfl rfl)⟩


/-- between two keys -/
theorem between_any (W : World) (p : Nat) (low high : Int) :
    Calls Try.prog 39 #[.pointer (some ⟨p, 0, none⟩), .int .i64 low, .int .i64 high] W fun e w' => e = .returned (.func (.func 61) #[] #[.pointer (some ⟨W.heap.size, 0, none⟩), .pointer (some ⟨W.heap.size + 1, 0, none⟩), .pointer (some ⟨W.heap.size + 1 + 1, 0, none⟩)]) ∧ w' = ((W.alloc (.cells #[.pointer (some ⟨p, 0, none⟩)] 24)).alloc (.cells #[.int .i64 low] 2)).alloc (.cells #[.int .i64 high] 2) := by
  go_enter Try.func39, Try.ntmps39
  go_wp2_with fail
  go_ret
  exact ⟨rfl, rfl⟩
theorem tm_between (W : World) (p : Nat) (xs : List Pr) (low high : Int) (h : TMx W p xs) (hs : Sd ltI xs) : ∃ St N : World → Prop, Gives3 61 #[.pointer (some ⟨W.heap.size, 0, none⟩), .pointer (some ⟨W.heap.size + 1, 0, none⟩), .pointer (some ⟨W.heap.size + 1 + 1, 0, none⟩)] BetTs St N (betL xs low high) ∧
    ∀ W', Below (W.heap.size + 3) (((W.alloc (.cells #[.pointer (some ⟨p, 0, none⟩)] 24)).alloc (.cells #[.int .i64 low] 2)).alloc (.cells #[.int .i64 high] 2)) W' → St W' ∧ N W' := by
  obtain ⟨q, T0, h1, h2, rfl⟩ := h
  refine ⟨_, _, between_gives W W.heap.size (W.heap.size + 1) (W.heap.size + 1 + 1) p q T0 low high h2 hs, fun W' hb => ?_⟩
  have h3 : Below W.heap.size W W' := ((bel_alloc2 W _ _).alloc (by simp; omega) _).trans (hb.mono (by omega))
  have hz : (((W.alloc (.cells #[.pointer (some ⟨p, 0, none⟩)] 24)).alloc (.cells #[.int .i64 low] 2)).alloc (.cells #[.int .i64 high] 2)).heap.size = W.heap.size + 3 := by simp
  have e3 : Blk (((W.alloc (.cells #[.pointer (some ⟨p, 0, none⟩)] 24)).alloc (.cells #[.int .i64 low] 2)).alloc (.cells #[.int .i64 high] 2)) W.heap.size 24 [.pointer (some ⟨p, 0, none⟩)] := ((Blk.new W [.pointer (some ⟨p, 0, none⟩)] 24).alloc _).alloc _
  have e4 : Blk (((W.alloc (.cells #[.pointer (some ⟨p, 0, none⟩)] 24)).alloc (.cells #[.int .i64 low] 2)).alloc (.cells #[.int .i64 high] 2)) (W.heap.size + 1) 2 [.int .i64 low] := (Blk.new2 W _ [.int .i64 low] 2).alloc _
  have e5 : Blk (((W.alloc (.cells #[.pointer (some ⟨p, 0, none⟩)] 24)).alloc (.cells #[.int .i64 low] 2)).alloc (.cells #[.int .i64 high] 2)) (W.heap.size + 1 + 1) 2 [.int .i64 high] := by
    have := Blk.new2 (W.alloc (.cells #[.pointer (some ⟨p, 0, none⟩)] 24)) (.cells #[.int .i64 low] 2) [.int .i64 high] 2
    rw [World.size_alloc] at this
    exact this
  exact ⟨⟨(e3.below hb (by omega)).cell (i := 0) rfl, (h1.belowS h3).cell (i := 0) rfl, (e4.below hb (by omega)).cell (i := 0) rfl⟩, KT.below h3, (e5.below hb (by omega)).cell (i := 0) rfl⟩

end Go.Proofs.Ytgoomogpcfpekaa.TabN

namespace Go.Proofs.Ytgoomogpcfpekaa.TabN
open Go.RowKit Go.Proofs.Ytgoomogpcfpekaa.TabL
attribute [local go_sem] Oper.semAt_some

/-- what a key of both has -/
def mgV (tf : Int → Int → Int → Int) (xs : List Pr) (q : Pr) : Int := match getL ltI xs q.1 with | none => q.2 | some x => tf q.1 x q.2
def mgN (tf : Int → Int → Int → Int) (xs : List Pr) (ys : List Pr) (n : Nat) : List Pr := (ys.take n).foldl (fun l q => putL ltI l q.1 (mgV tf xs q)) xs
theorem mgN_succ (tf : Int → Int → Int → Int) (xs ys : List Pr) {n : Nat} (h : n < ys.length) : mgN tf xs ys (n + 1) = putL ltI (mgN tf xs ys n) (ys.getD n d0).1 (mgV tf xs (ys.getD n d0)) := by
  unfold mgN
  rw [List.take_succ_eq_append_getElem h, List.foldl_append, List.getD_eq_getElem?_getD, List.getElem?_eq_getElem h]
  rfl
theorem mgN_sd (tf : Int → Int → Int → Int) {xs : List Pr} (ys : List Pr) (h : Sd ltI xs) : ∀ n, n ≤ ys.length → Sd ltI (mgN tf xs ys n)
  | 0, _ => h
  | n + 1, hn => by rw [mgN_succ tf xs ys (by omega)]; exact putL_sd lin (mgN_sd tf ys h n (by omega)) _ _
theorem mgN_len (tf : Int → Int → Int → Int) (xs ys : List Pr) : ∀ n, n ≤ ys.length → (mgN tf xs ys n).length ≤ xs.length + n
  | 0, _ => Nat.le_refl _
  | n + 1, hn => by
    rw [mgN_succ tf xs ys (by omega)]
    have h1 := putL_len (mgN tf xs ys n) (ys.getD n d0).1 (mgV tf xs (ys.getD n d0))
    have h2 := mgN_len tf xs ys n (by omega)
    omega

/-- the memory between two rounds -/
structure GM (W w0 : World) (p o g7 : Nat) (fv : Value) (xs zs : List Pr) (W' : World) : Prop where
  kt : KT 84 w0 W'
  b3 : Blk W' W.heap.size 24 [.pointer (some ⟨p, 0, none⟩)]
  b5 : Blk W' (W.heap.size + 1) 67 [fv]
  b7 : Blk W' g7 24 [.pointer (some ⟨o, 0, none⟩)]
  t : TMx W' p xs
  out : TMx W' o zs
  b : Below W.heap.size W W'
theorem GM.own (W w0 : World) (p o g7 : Nat) (fv : Value) (xs zs : List Pr) {b : Nat} (hb : W.heap.size ≤ b) : OwnFrom b (fun (_ : Unit) W' => GM W w0 p o g7 fv xs zs W') := fun s A B row h hg hr => by
  have q : ∀ {c : Nat} {t : TypeId} {l : List Value}, Blk A c t l → Blk B c t l := fun hc => Own.from (blk_own _ _ (fun _ : Unit => _)) b () A B row hc hg hr
  have hk : KT 84 A B := KT.grown hg (fun r e => by
    obtain ⟨_, o', ho, hno⟩ := hr r e
    refine ⟨o', ho, fun cs fr e2 => ?_⟩
    subst e2
    simp [Obj.isCells] at hno)
  exact ⟨h.kt.trans hk, q h.b3, q h.b5, q h.b7, Own.from (own_tm _ _) b () A B row h.t hg hr, Own.from (own_tm _ _) b () A B row h.out hg hr, ownFrom_below (Nat.le_refl _) hb () A B row h.b hg hr⟩
theorem gm_cell {b : Nat} (a : Addr) (v : Value) : OwnFrom b (fun (_ : Unit) W => W.cell? a = some v) := fun s A B row h3' hg hr => by
  have h3 : A.cell? a = some v := h3'
  show B.cell? a = some v
  rw [← h3]
  refine World.cell?_of_block (hg.block _ (World.block_lt_of_cell? _ _ h3) (fun e => ?_))
  obtain ⟨_, o, ho, hno⟩ := hr _ e.symm
  unfold World.cell? at h3
  rw [ho] at h3
  cases o <;> simp [Obj.isCells] at hno h3
theorem GM.turn {W w0 : World} {p o g7 : Nat} {fv : Value} {xs zs zs' : List Pr} {A B : World} (h : GM W w0 p o g7 fv xs zs A) (hT : TMx B o zs') (hg : A.grownBy B (some o)) (hp : p < o) (ho : o = W.heap.size + 2) (h7 : g7 ≠ o) : GM W w0 p o g7 fv xs zs' B := by
  obtain ⟨r, T, hb, h1, h2⟩ := h.out
  subst ho
  exact ⟨h.kt.trans (KT.grownP hg hb (by decide)), h.b3.kept hg (by simp), h.b5.kept hg (by simp), h.b7.kept hg (by simpa using h7), h.t.other hg hb (by omega) (by decide), hT, h.b.grown hg h.b.size (fun r e => by cases e; omega)⟩

set_option maxRecDepth 100000 in
set_option maxHeartbeats 8000000 in
theorem merge_any (W : World) (p u : Nat) (xs ys : List Pr) (F : Nat) (lbt : Array Value) (tf : Int → Int → Int → Int) (h : TMx W p xs) (hs : Sd ltI xs) (h' : TMx W u ys) (hs' : Sd ltI ys) (hl : xs.length + ys.length < 1099511627776)
    (hen : ∀ args w, (callFunc F args).run Try.prog w = .ok (.enter F args) w)
    (hF : ∀ W' k x y, Calls Try.prog F (#[.int .i64 k, .int .i64 x, .int .i64 y] ++ lbt) W' fun e w' => e = .returned (.int .i64 (tf k x y)) ∧ W' = w') :
    Calls Try.prog 35 #[.pointer (some ⟨p, 0, none⟩), .pointer (some ⟨u, 0, none⟩), .func (.func F) #[] lbt] W fun e w' => e = .returned (.pointer (some ⟨W.heap.size + 2, 0, none⟩)) ∧ TMx w' (W.heap.size + 2) (mgN tf xs ys ys.length) ∧ Below W.heap.size W w' := by
  refine (callsIn_wide (n := 4)).1 ?_
  refine callsIn_of_wp_marks Try.func35 rfl trivial ?_ rfl
  refine wpIn_wide.2 ?_
  simp only [Try.ntmps35, List.size_toArray, List.length_cons, List.length_nil, Nat.reduceAdd, Nat.reduceSub, Array.replicate_succ, Array.replicate_zero, List.push_toArray, List.append_toArray, List.nil_append, List.cons_append]
  have hpz := h.lt
  have b3 := (Blk.new W [.pointer (some ⟨p, 0, none⟩)] 24).alloc (.cells #[.func (.func F) #[] lbt] 67)
  have b5 := Blk.new2 W (.cells #[.pointer (some ⟨p, 0, none⟩)] 24) [.func (.func F) #[] lbt] 67
  have hal := bel_alloc2 W (.cells #[.pointer (some ⟨p, 0, none⟩)] 24) (.cells #[.func (.func F) #[] lbt] 67)
  have c3 := b3.cell (i := 0) rfl
  have hz2 : ((W.alloc (.cells #[.pointer (some ⟨p, 0, none⟩)] 24)).alloc (.cells #[.func (.func F) #[] lbt] 67)).heap.size = W.heap.size + 2 := by simp
  go_wp2_with fail
  obtain ⟨w2, hw2⟩ : ∃ w2, (W.alloc (.cells #[.pointer (some ⟨p, 0, none⟩)] 24)).alloc (.cells #[.func (.func F) #[] lbt] 67) = w2 := ⟨_, rfl⟩
  rw [hw2] at b3 b5 hal hz2 ⊢
  clear hw2 c3
  have hT2 := h.below hal
  have hU2 := h'.below hal
  refine (clone_any w2 p xs hT2).mono ?_; rintro e w3 ⟨rfl, hC3, hb3⟩
  have hz3 := hC3.lt
  rw [hz2] at hC3 hz3 ⊢
  have hal4 : Below w3.heap.size w3 (w3.alloc (.cells #[.pointer (some ⟨W.heap.size + 2, 0, none⟩)] 24)) := (Below.refl _ w3).alloc (Nat.le_refl _) _
  have b74 := Blk.new w3 [.pointer (some ⟨W.heap.size + 2, 0, none⟩)] 24
  go_wp2_with fail
  obtain ⟨w4, hw4⟩ : ∃ w4, w3.alloc (.cells #[.pointer (some ⟨W.heap.size + 2, 0, none⟩)] 24) = w4 := ⟨_, rfl⟩
  rw [hw4] at hal4 b74 ⊢
  clear hw4
  obtain ⟨g7, hg7⟩ : ∃ g7, w3.heap.size = g7 := ⟨_, rfl⟩
  rw [hg7] at b74 hz3 ⊢
  refine (all_any w4 _).mono ?_; rintro e w5 ⟨rfl, hw5⟩
  have hal5 : Below w4.heap.size w4 w5 := by rw [hw5]; exact (Below.refl _ w4).alloc (Nat.le_refl _) _
  have bB5 : Blk w5 w4.heap.size 24 [.pointer (some ⟨u, 0, none⟩)] := by rw [hw5]; exact Blk.new w4 [.pointer (some ⟨u, 0, none⟩)] _
  have hal35 := hal4.trans (hal5.mono hal4.size)
  have hal25 := hb3.trans (hal35.mono hb3.size)
  obtain ⟨o, ho⟩ : ∃ o, W.heap.size + 2 = o := ⟨_, rfl⟩
  rw [ho] at hC3 b74 hz3 ⊢
  have hGM : GM W w5 p o g7 (.func (.func F) #[] lbt) xs (mgN tf xs ys 0) w5 := ⟨KT.refl _ _, b3.belowS hal25, b5.belowS hal25, b74.belowS hal5, hT2.below hal25, hC3.below hal35, hal.trans (hal25.mono hal.size)⟩
  have hU5 := hU2.below hal25
  obtain ⟨B, hB⟩ : ∃ B, w4.heap.size = B := ⟨_, rfl⟩
  rw [hB] at bB5 ⊢
  clear hw5 hal5 hal35 hal25 hal4 hal hb3 b3 b5 b74 hT2 hU2 hC3 hB
  go_wp2_with fail
  obtain ⟨q, T0, hbm, hTm, hzs⟩ := hU5
  have cB := bB5.cell (i := 0) rfl
  have cm := hbm.cell (i := 0) rfl
  have hG := all_gives w5 B u q T0 hTm
  rw [hzs] at hG
  have hW5 := hGM.b.size
  have hz75 := hGM.b7.lt
  have hmd := fun n hn => mgN_sd tf ys hs n hn
  have hml := fun n hn => mgN_len tf xs ys n hn
  have hsO : ∀ k, OwnFrom w5.heap.size (fun (_ : Unit) W' => GM W w5 p o g7 (.func (.func F) #[] lbt) xs (mgN tf xs ys k) W') := fun k => GM.own W w5 p o g7 _ xs _ hW5
  clear hzs hbm hTm bB5 h h'
  refine wpIn_wide.1 (range_gen (F := Fence.wide) (n := 4) rfl (by omega) (gf := 45) (lb := #[.pointer (some ⟨B, 0, none⟩)]) rfl trivial hG.1 (encs := fun k : Nat => #[ek (ys.getD k d0).1, ev (ys.getD k d0).2]) (fun _ => rfl)
    (fun W' => (W'.cell? ⟨B, 0, none⟩ = some (.pointer (some ⟨u, 0, none⟩)) ∧ W'.cell? ⟨u, 0, none⟩ = some (.pointer q)) ∧ GM W w5 p o g7 (.func (.func F) #[] lbt) xs (mgN tf xs ys 0) W')
    (fun k W' => k < ys.length ∧ GM W w5 p o g7 (.func (.func F) #[] lbt) xs (mgN tf xs ys k) W')
    (fun k W' => GM W w5 p o g7 (.func (.func F) #[] lbt) xs (mgN tf xs ys (k + 1)) W')
    (fun _ _ => False)
    (fun W' => GM W w5 p o g7 (.func (.func F) #[] lbt) xs (mgN tf xs ys ys.length) W')
    (fun k a' W' => a' = { tmps := #[.pointer (some ⟨p, 0, none⟩), .pointer (some ⟨u, 0, none⟩), .func (.func F) #[] lbt, .pointer (some ⟨W.heap.size, 0, none⟩), undef, .pointer (some ⟨W.heap.size + 1, 0, none⟩), .pointer none, .pointer (some ⟨g7, 0, none⟩), ek (ys.getD k d0).1, ev (ys.getD k d0).2, undef, undef, .pointer (some ⟨p, 0, none⟩), .pointer (some ⟨o, 0, none⟩), .pointer (some ⟨u, 0, none⟩), .func (.func 45) #[] #[.pointer (some ⟨B, 0, none⟩)], ek (ys.getD k d0).1, ev (ys.getD k d0).2, undef, undef, undef, undef, undef, undef, undef, undef, undef, undef, undef, undef, undef, undef, undef, undef, undef], defers := [] } ∧ k < ys.length ∧ GM W w5 p o g7 (.func (.func F) #[] lbt) xs (mgN tf xs ys k) W')
    (OwnFrom.and (OwnFrom.and (gm_cell _ _) (gm_cell _ _)) (hsO 0))
    (fun k => hsO (k + 1))
    (fun _ _ _ _ _ hs _ _ => hs)
    (hsO _)
    (fun k a' => OwnFrom.and (fun _ _ _ _ hs _ _ => hs) (OwnFrom.and (fun _ _ _ _ hs _ _ => hs) (hsO k)))
    ⟨⟨cB, cm⟩, hGM⟩ (hG.2 3 (fun k W' => GM W w5 p o g7 (.func (.func F) #[] lbt) xs (mgN tf xs ys k) W') (fun k W' h => h.kt) (fun k W' j h => hsO k () W' _ none h ⟨rfl, rfl, rfl, Nat.le_refl _, fun _ _ _ => rfl⟩ (fun r e => by cases e))) ?assign ?body ?done ?stop)
  case assign =>
    rintro l k W' K ⟨hk, hP⟩ hK
    obtain ⟨⟨x, y⟩, hx⟩ : ∃ x, ys.getD k d0 = x := ⟨_, rfl⟩
    rw [hx] at hK ⊢
    unfold ek ev at hK ⊢
    gi_wp2
    exact hK _ _ (KeepsFrom.refl _ _) ⟨rfl, hk, hP⟩
  case body =>
    rintro l k a' W' hl2 hr ⟨rfl, hk, hS⟩
    have hst := mgN_succ tf xs ys hk
    obtain ⟨⟨x, y⟩, hx⟩ : ∃ x, ys.getD k d0 = x := ⟨_, rfl⟩
    rw [hx] at hst ⊢
    rw [hst]
    unfold ek ev
    have c3 := hS.b3.cell (i := 0) rfl
    have c5 := hS.b5.cell (i := 0) rfl
    have c7 := hS.b7.cell (i := 0) rfl
    have hGet := get_any W' p xs x hS.t hs
    have hPut := fun v => putM_any W' o _ x v hS.out (hmd k (by omega)) (by have := hml k (by omega); omega)
    cases hgl : getL ltI xs x with
    | none =>
      rw [show getV xs x = 0 from by unfold getV; rw [hgl], hgl] at hGet
      have hv : mgV tf xs (x, y) = y := by unfold mgV; rw [hgl]
      rw [hv]
      have HG := Lib.hid hGet; have HP := Lib.hid (hPut y); have HS := Lib.hid hS
      clear hGet hPut hst hx hS hsO hG hGM cB cm hmd hml hv hgl
      gi_wp2_with (first
        | (refine ⟨trivial, ?_⟩; gi_at_call 43; refine (CallsIn.inRound l (callsIn_wide.2 HG.out)).mono ?_; rintro e w6 ⟨rfl, rfl⟩)
        | (refine ⟨trivial, ?_⟩; gi_at_call 25; refine (CallsIn.inRound l (callsIn_wide.2 HP.out)).mono ?_; rintro e w7 ⟨rfl, hT7, hg7'⟩))
      exact ⟨KeepsFrom.of_grownBy hg7' (fun j e => by cases e; omega), HS.out.turn hT7 hg7' (by omega) ho.symm (by omega)⟩
    | some x' =>
      rw [show getV xs x = x' from by unfold getV; rw [hgl], hgl] at hGet
      have hv : mgV tf xs (x, y) = tf x x' y := by unfold mgV; rw [hgl]
      rw [hv]
      have HG := Lib.hid hGet; have HP := Lib.hid (hPut (tf x x' y)); have HS := Lib.hid hS; have HF := Lib.hid (hF W' x x' y); have hen' := hen
      clear hGet hPut hst hx hS hsO hG hGM cB cm hmd hml hv hgl hF
      gi_wp2_with (first
        | (refine ⟨trivial, ?_⟩; gi_at_call 43; refine (CallsIn.inRound l (callsIn_wide.2 HG.out)).mono ?_; rintro e w6 ⟨rfl, rfl⟩)
        | (refine ⟨trivial, ?_⟩; gi_at_call 25; refine (CallsIn.inRound l (callsIn_wide.2 HP.out)).mono ?_; rintro e w7 ⟨rfl, hT7, hg7'⟩)
        | (refine ⟨trivial, ?_⟩; refine (CallsIn.inRound l (callsIn_wide.2 HF.out)).mono ?_; rintro e w8 ⟨rfl, rfl⟩))
      exact ⟨KeepsFrom.of_grownBy hg7' (fun j e => by cases e; omega), HS.out.turn hT7 hg7' (by omega) ho.symm (by omega)⟩
  case done =>
    rintro D W' hD hS hK
    subst ho
    have c7 := hS.b7.cell (i := 0) rfl
    go_wp2
    refine ⟨by simp, .inl ⟨_, _, rfl, run_takeDeferred hK, ?_⟩⟩
    exact ⟨_, results_tmp rfl _ _ _, rfl, (own_tm _ _).putObj (s := ()) _ hS.out hK rfl, hS.b.trans (belowK_b (w := w5) hW5 W' D _ _ hD hK rfl rfl)⟩
  case stop =>
    rintro D c W' hD h hK
    exact h.elim

end Go.Proofs.Ytgoomogpcfpekaa.TabN
