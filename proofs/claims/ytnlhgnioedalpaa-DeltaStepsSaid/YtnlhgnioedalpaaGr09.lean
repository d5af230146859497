/- It3, DelA, DelF, laid together. -/
import Derived.Test.YtnlhgnioedalpaaGr02
import Derived.Test.YtnlhgnioedalpaaGr06
import Derived.Test.YtnlhgnioedalpaaGr08

/- a range over an iterator that ranges itself. -/
set_option linter.unusedSimpArgs false
set_option linter.unusedVariables false

namespace Go.Proofs.Ytnlhgnioedalpaa
open Go.RowKit

/-- blocks of cells of a type are kept -/
def KTy (t : TypeId) (W W' : World) : Prop := W.heap.size ≤ W'.heap.size ∧ ∀ (b : Nat) cs fr, W.heap[b]? = some (Obj.cells cs t fr) → W'.heap[b]? = some (Obj.cells cs t fr)
theorem KTy.refl (t : TypeId) (W : World) : KTy t W W := ⟨Nat.le_refl _, fun _ _ _ h => h⟩
theorem KTy.trans {t : TypeId} {A B C : World} (h : KTy t A B) (k : KTy t B C) : KTy t A C := ⟨Nat.le_trans h.1 k.1, fun b cs fr hb => k.2 b cs fr (h.2 b cs fr hb)⟩
theorem KTy.putObj {t : TypeId} {W : World} {l : Nat} {o : Obj} (o' : Obj) (hl : W.heap[l]? = some o) (ho : o.isCells = false) : KTy t W (W.putObj l o') :=
  ⟨by simp, fun b cs fr hb => (World.putObj_heap_other (fun e => by subst e; rw [hb] at hl; cases hl; simp [Obj.isCells] at ho)).trans hb⟩
theorem KTy.below {t : TypeId} {A B : World} (h : Below A.heap.size A B) : KTy t A B := ⟨h.size, fun b cs fr hb => (h.block b (Array.getElem?_eq_some_iff.1 hb).1).trans hb⟩
theorem KTy.blk {t : TypeId} {A B : World} (h : KTy t A B) {b : Nat} {l : List Value} (hb : Blk A b t l) : Blk B b t l := h.2 b _ _ hb

/-- what is no row of cells and lies ahead of N is kept -/
structure KU (N : Nat) (W W' : World) : Prop where
  size : W.heap.size ≤ W'.heap.size
  same : ∀ (k : Nat) (o : Obj), k < N → W.heap[k]? = some o → o.isCells = false → W'.heap[k]? = some o
theorem KU.refl (N : Nat) (W : World) : KU N W W := ⟨Nat.le_refl _, fun _ _ _ h _ => h⟩
theorem KU.trans {N : Nat} {A B C : World} (h : KU N A B) (k : KU N B C) : KU N A C := ⟨Nat.le_trans h.size k.size, fun i o hi ha ho => k.same i o hi (h.same i o hi ha ho) ho⟩
theorem KU.grown {N : Nat} {A B : World} {row : Option Nat} (hg : A.grownBy B row) (hr : ∀ r, row = some r → N ≤ r ∨ ∃ o : Obj, A.heap[r]? = some o ∧ o.isCells = true) : KU N A B :=
  ⟨hg.size, fun k o hk ha ho => (hg.block k (Array.getElem?_eq_some_iff.1 ha).1 (fun e => by
    rcases hr k e.symm with h | ⟨o', h1, h2⟩
    · omega
    · rw [ha] at h1; cases h1; rw [ho] at h2; cases h2)).trans ha⟩
theorem KU.others {N : Nat} {A B : World} (h : KeepsOthers A B) : KU N A B := ⟨h.size, fun k o _ ha ho => h.same k o ha ho⟩
theorem kf_up {B B' : Nat} {W W' : World} (h : KeepsFrom B W W') (hb : B ≤ B') : KeepsFrom B' W W' := ⟨h.size, fun k o hk hh ho => h.same k o (Nat.le_trans hb hk) hh ho⟩
/-- what each round keeps for the iterator: its walks' objects, and blocks of some types -/
def FY (N : Nat) (Ts : TypeId → Prop) (W W' : World) : Prop := KeepsFrom N W W' ∧ ∀ t, Ts t → KTy t W W'

/-- what a body owes at each of its ways out -/
def genPost3 (B : Nat) (Ts : TypeId → Prop) (Post : World → Prop) (Ix : Code → World → Prop) (W : World) : Exit → Act → World → Prop
  | .normal, _, W' => KeepsFrom B W W' ∧ (∀ t, Ts t → KTy t W W') ∧ Post W'
  | .ret, _, W' => KeepsFrom B W W' ∧ (∀ t, Ts t → KTy t W W') ∧ Ix .ret W'
  | .exit id, _, W' => KeepsFrom B W W' ∧ (∀ t, Ts t → KTy t W W') ∧ Ix (.exit id) W'
  | .goto t, _, W' => KeepsFrom B W W' ∧ (∀ t, Ts t → KTy t W W') ∧ Ix (.goto t) W'
  | .panic _, _, _ => False
  | .outgrown, _, _ => False

/-- what an iterator owes that may range itself -/
def IterOk3 (F : Fence) (n : Nat) (P : Program) (gf : Nat) (lb : Array Value) (Ts : TypeId → Prop) {α : Type} (encs : α → Array Value) (Start : World → Prop) (Pre Post : α → World → Prop) (Fin : World → Prop) : Prop :=
  ∀ (l : Nat) (Rc JX : World → Prop) (W1 : World), (∀ A A', Rc A → KU W1.heap.size A A' → Rc A') →
    (∀ A A' row, JX A → A.grownBy A' row → (∀ r, row = some r → W1.heap.size ≤ r ∧ ∃ o : Obj, A.heap[r]? = some o ∧ o.isCells = false) → JX A') → Rc W1 → Start W1 →
    (∀ x W, Pre x W → Rc W → W1.heap.size ≤ W.heap.size → YieldAt F (n - 1) P l (encs x) W fun e W' => FY W1.heap.size Ts W W' ∧ ((e = .returned (.bool true) ∧ Post x W' ∧ Rc W') ∨ (e = .returned (.bool false) ∧ JX W'))) →
    CallsIn F n P gf (#[.func (.yield l) #[] #[]] ++ lb) W1 fun e W' => (∃ v, e = .returned v) ∧ ((Fin W' ∧ Rc W') ∨ JX W')

section
variable {F : Fence} {n : Nat} {P : Program}

theorem range_gen3 {α : Type} {g : Operand} {ps : Array Tmp} {assign body : Code} {Q : Exit → Act → World → Prop} {a : Act} {w : World}
    (hro : F.round = none) (h1 : 1 ≤ n) {gf : Nat} {lb : Array Value} (hg : a.eval g = .func (.func gf) #[] lb) (hFg : F.fn gf) (eg : ∀ args w, (callFunc gf args).run P w = .ok (.enter gf args) w)
    {encs : α → Array Value} (hps : ∀ x, (encs x).size = ps.size)
    (Ts : TypeId → Prop) (Start : World → Prop) (Pre Post : α → World → Prop) (Ix : Code → World → Prop) (Fin : World → Prop) (Mid : α → Act → World → Prop)
    (sStart : OwnFrom w.heap.size (fun (_ : Unit) W => Start W)) (sPost : ∀ x, OwnFrom w.heap.size (fun (_ : Unit) W => Post x W)) (sIx : ∀ c, OwnFrom w.heap.size (fun (_ : Unit) W => Ix c W)) (sFin : OwnFrom w.heap.size (fun (_ : Unit) W => Fin W)) (sMid : ∀ x a', OwnFrom w.heap.size (fun (_ : Unit) W => Mid x a' W))
    (h0 : Start w) (hit : IterOk3 F (n - 1) P gf lb Ts encs Start Pre Post Fin)
    (hassign : ∀ (l : Nat) (x : α) (W : World) (K : Act → World → Prop), Pre x W → (∀ a' W', KeepsFrom w.heap.size W W' → (∀ t, Ts t → KTy t W W') → Mid x a' W' → K a' W') →
      assign.wpIn (F.inRound l) (n - 1 - 1) P (Exit.then K (fun _ _ _ => False)) { tmps := (ps.zip (encs x)).foldl (fun t (p, v) => t.setIfInBounds p v) a.tmps, defers := [] } W)
    (hbody : ∀ (l : Nat) (x : α) (a' : Act) (W : World), w.heap.size ≤ l → (∃ r, W.heap[l]? = some (.loop r)) → Mid x a' W → body.wpIn (F.inRound l) (n - 1 - 1) P (genPost3 w.heap.size Ts (Post x) Ix W) a' W)
    (hdone : ∀ (D : Nat) (W : World), w.heap.size ≤ D → Fin W → W.heap[D]? = some (.deferred (some [])) → Q .normal { a with defers := { target := .collected D, args := #[] } :: a.defers } W)
    (hstop : ∀ (D : Nat) (c : Code) (W : World), w.heap.size ≤ D → Ix c W → W.heap[D]? = some (.deferred (some [])) → c.wpIn F n P Q { a with defers := { target := .collected D, args := #[] } :: a.defers } W) :
    (Code.rangeFunc g ps assign body).wpIn F n P Q a w := by
  refine wpIn_rangeFunc ?_
  intro fn hfn
  rw [hro]
  obtain ⟨rec, hrec⟩ : ∃ rec : LoopState → Option Code → Loop, rec = fun st pe => { state := st, pending := pe, fn, tmps := a.tmps, params := ps, assign, body, defers := w.heap.size } := ⟨_, rfl⟩
  obtain ⟨W1, hW1⟩ : ∃ W1, (w.alloc (.deferred (some []))).alloc (.loop (rec .ready none)) = W1 := ⟨_, rfl⟩
  have hz1 : W1.heap.size = w.heap.size + 2 := by rw [← hW1]; simp
  have hL1 : W1.heap[w.heap.size + 1]? = some (.loop (rec .ready none)) := by
    rw [← hW1]; have := World.alloc_heap_new (w.alloc (.deferred (some []))) (.loop (rec .ready none)); rwa [World.size_alloc] at this
  have hK1 : W1.heap[w.heap.size]? = some (.deferred (some [])) := by
    rw [← hW1]; exact (Below.heap_alloc _ _ _ (by simp)).trans (World.alloc_heap_new w _)
  have hS1 : Start W1 := by rw [← hW1]; exact sStart.alloc (s := ()) _ (sStart.alloc (s := ()) _ h0)
  refine ⟨w.heap.size + 1, [{ target := .collected w.heap.size, args := #[] }], W1, { target := .fn (.func gf) lb, args := #[.func (.yield (w.heap.size + 1)) #[] #[]] }, W1, gf,
    #[.func (.yield (w.heap.size + 1)) #[] #[]] ++ lb, W1, ?_, ?_, ?_, ?_, fun _ => h1, ?_⟩
  · rw [← hW1, hrec]; exact run_enterLoop_outer _ _ _ _ _
  · simp only [resolve, hg]
    simp [go_sem]
  · intro f' hf'; simp [Target.leads] at hf'; subst hf'; exact hFg
  · simp [invoke, go_sem, eg]
  · have hRc := hit (w.heap.size + 1)
      (fun W => W.heap[w.heap.size + 1]? = some (.loop (rec .ready none)) ∧ W.heap[w.heap.size]? = some (.deferred (some [])))
      (fun W => ∃ c, Ix c W ∧ W.heap[w.heap.size + 1]? = some (.loop (rec .done (some c))) ∧ W.heap[w.heap.size]? = some (.deferred (some [])))
      W1 (fun A A' hA hk => ⟨hk.same _ _ (by omega) hA.1 rfl, hk.same _ _ (by omega) hA.2 rfl⟩)
      (fun A A' row hA hg' hr => by
        obtain ⟨c, hc, hl, hk⟩ := hA
        exact ⟨c, sIx c () A A' row hc hg' (fun r e => ⟨by have := (hr r e).1; omega, (hr r e).2⟩), (hg'.block _ (Array.getElem?_eq_some_iff.1 hl).1 (fun e => by have := (hr _ e.symm).1; omega)).trans hl, (hg'.block _ (Array.getElem?_eq_some_iff.1 hk).1 (fun e => by have := (hr _ e.symm).1; omega)).trans hk⟩)
      ⟨hL1, hK1⟩ hS1 ?_
    · refine hRc.mono ?_
      rintro e W2 ⟨⟨v, rfl⟩, (⟨hF, hl, hk⟩ | ⟨c, hi, hl, hk⟩)⟩
      · exact ⟨none, _, by have := run_endLoop (P := P) hl (by rw [hrec]; simp); rw [hrec] at this; exact this, hdone _ _ (Nat.le_refl _) (sFin.putObj (s := ()) _ hF (by omega) hl rfl) ((World.putObj_heap_other (by omega)).trans hk)⟩
      · exact ⟨some c, _, by have := run_endLoop (P := P) hl (by rw [hrec]; simp); rw [hrec] at this; exact this, hstop _ c _ (Nat.le_refl _) ((sIx c).putObj (s := ()) _ hi (by omega) hl rfl) ((World.putObj_heap_other (by omega)).trans hk)⟩
    · rintro x W hp ⟨hl, hk⟩ hWz
      have hy := run_yield (P := P) (args := encs x) hl (by rw [hrec]; exact hps x)
      rw [hrec] at hy
      refine ⟨fn, _, assign, body, hy, roundIn_of_wpIn hfn (hassign _ x W _ hp ?_)⟩
      clear hy
      intro a' Wa hkfa hkta hmid
      have hl0 := hl
      replace hl := hkfa.same _ _ (by omega) hl rfl
      replace hk := hkfa.same _ _ (Nat.le_refl _) hk rfl
      have hlt : w.heap.size + 1 < Wa.heap.size := (Array.getElem?_eq_some_iff.1 hl).1
      refine ⟨_, run_beginRound hl (by rw [hrec]), ?_⟩
      have hl2 : (Wa.putObj (w.heap.size + 1) (.loop { rec .ready none with state := .busy })).heap[w.heap.size + 1]? = some (.loop { rec .ready none with state := .busy }) := World.putObj_heap_same hlt
      have hk2 : (Wa.putObj (w.heap.size + 1) (.loop { rec .ready none with state := .busy })).heap[w.heap.size]? = some (.deferred (some [])) := (World.putObj_heap_other (by omega)).trans hk
      refine wpIn_mono (hbody _ x a' _ (by omega) ⟨_, hl2⟩ ((sMid x a').putObj (s := ()) _ hmid (by omega) hl rfl)) ?_
      have hla := hl
      have fy : ∀ (jump : Option Code) (W3 : World), KeepsFrom w.heap.size (Wa.putObj (w.heap.size + 1) (.loop { rec .ready none with state := .busy })) W3 → (∀ t, Ts t → KTy t (Wa.putObj (w.heap.size + 1) (.loop { rec .ready none with state := .busy })) W3) →
          FY W1.heap.size Ts W (W3.putObj (w.heap.size + 1) (.loop (rec (if jump.isNone then .ready else .done) jump))) := fun jump W3 hk3 ht3 => by
        have hl3 := hk3.same _ _ (by omega) hl2 rfl
        exact ⟨(((kf_up hkfa (by omega)).trans (KeepsFrom.of_grownBy (grownBy_putObj' _ _ _) (fun j e => by cases e; omega))).trans (kf_up hk3 (by omega))).trans (KeepsFrom.of_grownBy (grownBy_putObj' _ _ _) (fun j e => by cases e; omega)), fun t ht => (((hkta t ht).trans (KTy.putObj _ hla rfl)).trans (ht3 t ht)).trans (KTy.putObj _ hl3 rfl)⟩
      have fin : ∀ (jump : Option Code) (W3 : World), KeepsFrom w.heap.size (Wa.putObj (w.heap.size + 1) (.loop { rec .ready none with state := .busy })) W3 →
          (Instr.endRound (w.heap.size + 1) jump).run P W3 = .ok (.bool jump.isNone) (W3.putObj (w.heap.size + 1) (.loop (rec (if jump.isNone then .ready else .done) jump))) ∧
          W3.heap[w.heap.size + 1]? = some (.loop { rec .ready none with state := .busy }) ∧
          (W3.putObj (w.heap.size + 1) (.loop (rec (if jump.isNone then .ready else .done) jump))).heap[w.heap.size + 1]? = some (.loop (rec (if jump.isNone then .ready else .done) jump)) ∧
          (W3.putObj (w.heap.size + 1) (.loop (rec (if jump.isNone then .ready else .done) jump))).heap[w.heap.size]? = some (.deferred (some [])) := fun jump W3 hk3 => by
        have hl3 := hk3.same _ _ (by omega) hl2 rfl
        have := run_endRound (P := P) jump hl3
        rw [hrec] at this ⊢
        exact ⟨this, by rw [hrec] at hl3; exact hl3, World.putObj_heap_same (Array.getElem?_eq_some_iff.1 hl3).1, (World.putObj_heap_other (by omega)).trans (hk3.same _ _ (Nat.le_refl _) hk2 rfl)⟩
      rintro e a3 W3 hp3
      cases e with
      | normal =>
        obtain ⟨hk3, ht3, hi3⟩ := hp3
        obtain ⟨hr, hl3, hl4, hk4⟩ := fin none W3 hk3
        exact ⟨_, _, hr, fy none W3 hk3 ht3, .inl ⟨rfl, (sPost x).putObj (s := ()) _ hi3 (by omega) hl3 rfl, hl4, hk4⟩⟩
      | ret =>
        obtain ⟨hk3, ht3, hi3⟩ := hp3
        obtain ⟨hr, hl3, hl4, hk4⟩ := fin (some .ret) W3 hk3
        exact ⟨_, _, hr, fy (some .ret) W3 hk3 ht3, .inr ⟨rfl, .ret, (sIx _).putObj (s := ()) _ hi3 (by omega) hl3 rfl, hl4, hk4⟩⟩
      | exit id =>
        obtain ⟨hk3, ht3, hi3⟩ := hp3
        obtain ⟨hr, hl3, hl4, hk4⟩ := fin (some (.exit id)) W3 hk3
        exact ⟨_, _, hr, fy (some (.exit id)) W3 hk3 ht3, .inr ⟨rfl, .exit id, (sIx _).putObj (s := ()) _ hi3 (by omega) hl3 rfl, hl4, hk4⟩⟩
      | goto t =>
        obtain ⟨hk3, ht3, hi3⟩ := hp3
        obtain ⟨hr, hl3, hl4, hk4⟩ := fin (some (.goto t)) W3 hk3
        exact ⟨_, _, hr, fy (some (.goto t)) W3 hk3 ht3, .inr ⟨rfl, .goto t, (sIx _).putObj (s := ()) _ hi3 (by omega) hl3 rfl, hl4, hk4⟩⟩
      | panic ch => exact hp3.elim
      | outgrown => exact hp3.elim
end

end Go.Proofs.Ytnlhgnioedalpaa


namespace Go.Proofs.Ytnlhgnioedalpaa.Pri
open Go.RowKit
theorem roundAny {m m' : Nat} {P : Program} {l : Nat} {f : FuncId} {tmps : Array Value} {assign body : Code} {w : World} {R : Ending → World → Prop}
    (h : RoundIn Fence.wide m P l f tmps assign body w R) : RoundIn Fence.wide m' P l f tmps assign body w R := ⟨h.1, fun c cs _ => h.2 c cs (fun d h => by cases h)⟩
theorem yieldAny {m : Nat} (m' : Nat) {P : Program} {l : Nat} {args : Array Value} {W : World} {R : Ending → World → Prop} (h : YieldAt Fence.wide m P l args W R) : YieldAt Fence.wide m' P l args W R := by
  obtain ⟨fn, tmps, assign, body, hy, hR⟩ := h
  exact ⟨fn, tmps, assign, body, hy, roundAny hR⟩

end Go.Proofs.Ytnlhgnioedalpaa.Pri

/- delta: all entries of a book. -/
set_option linter.unusedSimpArgs false
set_option linter.unusedVariables false
namespace Go.Proofs.Ytnlhgnioedalpaa.Pri
open Go.RowKit Go.Proofs.YtnlhgnioedalpaaW.PrintWords Go.Proofs.Ytnlhgnioedalpaa.PPricePlays Go.Maps
attribute [local go_sem] Oper.semAt_some

abbrev tF : TypeId := 134
abbrev tC : TypeId := 93
abbrev Ch := Int × Int × Int
def dC : Ch := (0, 0, 0)
/-- the changes of the first k lists -/
def chT (ls : List (List En)) (k : Nat) : List Ch := (List.range k).flatMap (fun i => (ls.getD i []).map (fun e => ((i : Int), e.1, e.2)))
theorem chT_succ (ls : List (List En)) (k : Nat) : chT ls (k + 1) = chT ls k ++ (ls.getD k []).map (fun e => ((k : Int), e.1, e.2)) := by
  unfold chT
  rw [List.range_succ, List.flatMap_append]
  simp
theorem chT_at (ls : List (List En)) {i j : Nat} (hj : j < (ls.getD i []).length) : ∀ n, i < n → (chT ls i).length + j < (chT ls n).length ∧ (chT ls n).getD ((chT ls i).length + j) dC = ((i : Int), ((ls.getD i []).getD j dE).1, ((ls.getD i []).getD j dE).2) := by
  intro n
  induction n with
  | zero => intro h; omega
  | succ n ih =>
    intro h
    rw [chT_succ, List.length_append, List.length_map]
    by_cases hin : i < n
    · obtain ⟨h1, h2⟩ := ih hin
      refine ⟨by omega, ?_⟩
      rw [List.getD_eq_getElem?_getD, List.getElem?_append_left h1, ← List.getD_eq_getElem?_getD]
      exact h2
    · obtain rfl : i = n := by omega
      refine ⟨by omega, ?_⟩
      have e : (ls.getD i []).getD j dE = (ls.getD i [])[j] := by rw [List.getD_eq_getElem?_getD, List.getElem?_eq_getElem hj]; rfl
      rw [List.getD_eq_getElem?_getD, List.getElem?_append_right (by omega), Nat.add_sub_cancel_left, List.getElem?_map, List.getElem?_eq_getElem hj, e]
      rfl
/-- a book that is read: the stores' slices are vs -/
def BV (ps : List Nat) (vs : List Value) (ls : List (List En)) (o : Value) (W : World) : Prop := ∃ A c, o = .slice A ls.length c ∧ ∀ (i : Nat) l, ls[i]? = some l → ∃ g p v, A = some ⟨g, 0, none⟩ ∧ ps[i]? = some p ∧ vs[i]? = some v ∧ g < W.heap.size ∧ W.cell? ⟨g, i, none⟩ = some (.pointer (some ⟨p, 0, none⟩)) ∧ W.cell? ⟨p, 0, none⟩ = some v ∧ PE W v l
theorem BV.below {ps : List Nat} {vs : List Value} {ls : List (List En)} {o : Value} {A C : World} (h : BV ps vs ls o A) (hb : Below A.heap.size A C) : BV ps vs ls o C := by
  obtain ⟨a, c, rfl, h1⟩ := h
  refine ⟨a, c, rfl, fun i l hl => ?_⟩
  obtain ⟨g, p, v, e, hp, hv, hg, c1, c2, hpe⟩ := h1 i l hl
  exact ⟨g, p, v, e, hp, hv, Nat.lt_of_lt_of_le hg hb.size, (hb.cell (p := ⟨g, i, none⟩) hg).trans c1, (hb.cell (p := ⟨p, 0, none⟩) (cell_spot c2).2).trans c2, hpe.below hb⟩
theorem Marks.kf {lo hi : Nat} {ds : List Deferred} {A B : World} (h : Marks lo hi ds A) (hk : KeepsFrom lo A B) : Marks lo hi ds B := by
  obtain ⟨Ds, h1, h2, h3⟩ := h
  exact ⟨Ds, h1, h2, fun D hD => ⟨(h3 D hD).1, hk.same D _ (h3 D hD).1.1 (h3 D hD).2 rfl⟩⟩
/-- what a consumer keeps: the boxes of the iterators -/
def AllTs (t : TypeId) : Prop := t = tF ∨ t = 3 ∨ t = tP
/-- the memory between two lists -/
structure AO (n1 l : Nat) (Rc : World → Prop) (Inv : Nat → World → Prop) (k : Nat) (ds : List Deferred) (W' : World) : Prop where
  by_ : Blk W' n1 tF [.func (.yield l) #[] #[]]
  inv : Inv k W'
  rc : Rc W'
  m : Marks n1 W'.heap.size ds W'
/-- and between two entries -/
structure AJ (n1 l : Nat) (Rc : World → Prop) (Inv : Nat → World → Prop) (hi : Nat) (i : Int) (p : Nat) (k : Nat) (ds : List Deferred) (bi B1 : Nat) (W' : World) : Prop where
  by_ : Blk W' n1 tF [.func (.yield l) #[] #[]]
  bi_ : Blk W' bi 3 [.int .i64 i]
  b1 : Blk W' B1 tP [.pointer (some ⟨p, 0, none⟩)]
  inv : Inv k W'
  rc : Rc W'
  m : Marks n1 hi ds W'
  sz : hi ≤ W'.heap.size
theorem AJ.own {n1 l : Nat} {Rc : World → Prop} {Inv : Nat → World → Prop} (hRc : ∀ A A', Rc A → KU n1 A A' → Rc A') {hi : Nat} (i : Int) (p k : Nat) (ds : List Deferred) (bi B1 : Nat) (hn : n1 ≤ hi) {b : Nat} (hb : hi ≤ b) (hO : OwnFrom b (fun (_ : Unit) W => Inv k W)) :
    OwnFrom b (fun (_ : Unit) W' => AJ n1 l Rc Inv hi i p k ds bi B1 W') := fun s A B row h hg hr => by
  have q : RowOk A row := fun r e => (hr r e).2
  exact ⟨blk_row1 h.by_ hg q, blk_row1 h.bi_ hg q, blk_row1 h.b1 hg q, hO () A B row h.inv hg hr, hRc _ _ h.rc (KU.grown hg (fun r e => .inl (by have := (hr r e).1; omega))), h.m.gb hg (fun r e => .inl (by have := (hr r e).1; omega)), Nat.le_trans h.sz hg.size⟩
set_option maxRecDepth 100000 in
set_option maxHeartbeats 8000000 in
theorem all_iter (n Bb bnd : Nat) (ps : List Nat) (vs : List Value) (ls : List (List En)) (o : Value) (hls : ls.length ≤ 100000) (hlen : ∀ l ∈ ls, l.length ≤ 100000) (Inv : Nat → World → Prop)
    (hI : ∀ k W, Inv k W → W.cell? ⟨Bb, 0, none⟩ = some o ∧ BV ps vs ls o W) (hO : ∀ k b, bnd ≤ b → OwnFrom b (fun (_ : Unit) W => Inv k W)) (hB : ∀ k A C, Inv k A → Below A.heap.size A C → Inv k C) :
    IterOk3 Fence.wide n Try.prog 105 #[.pointer (some ⟨Bb, 0, none⟩)] AllTs (fun k : Nat => #[.agg #[.int .i64 ((chT ls ls.length).getD k dC).1, .int .u64 ((chT ls ls.length).getD k dC).2.1, .int .i64 ((chT ls ls.length).getD k dC).2.2]])
      (fun W => bnd ≤ W.heap.size ∧ Inv 0 W) (fun k W => k < (chT ls ls.length).length ∧ Inv k W) (fun k W => Inv (k + 1) W) (Inv (chT ls ls.length).length) := by
  intro l Rc JX W1 hRc hJX hR0 hS0 hY
  obtain ⟨hbw, hI0⟩ := hS0
  show CallsIn Fence.wide n Try.prog 105 #[.func (.yield l) #[] #[], .pointer (some ⟨Bb, 0, none⟩)] W1 _
  refine (callsIn_wide (n := n)).2 ((callsIn_wide (n := 4)).1 ?_)
  refine callsIn_of_wp_marks Try.func105 rfl trivial ?_ rfl
  refine wpIn_wide.2 ?_
  simp only [Try.ntmps105, List.size_toArray, List.length_cons, List.length_nil, Nat.reduceAdd, Nat.reduceSub, Array.replicate_succ, Array.replicate_zero, List.push_toArray, List.append_toArray, List.nil_append, List.cons_append]
  obtain ⟨n1, hn1⟩ : ∃ n1, W1.heap.size = n1 := ⟨_, rfl⟩
  have hal : Below W1.heap.size W1 (W1.alloc (.cells #[.func (.yield l) #[] #[]] tF)) := (Below.refl _ W1).alloc (Nat.le_refl _) _
  have hb := Blk.new W1 [.func (.yield l) #[] #[]] tF
  have hI1 := hB 0 _ _ hI0 hal
  have hR1 := hRc _ _ hR0 (KU.grown (gb_none hal) (fun r e => by cases e))
  obtain ⟨cB, hBV⟩ := hI _ _ hI1
  obtain ⟨Ao, co, rfl, -⟩ := id hBV
  rw [hn1] at hb hRc hJX hY
  have HAO := Lib.hid (show AO n1 l Rc Inv (chT ls 0).length [] (W1.alloc (.cells #[.func (.yield l) #[] #[]] tF)) from ⟨hb, hI1, hR1, Marks.nil _ _ _⟩)
  have HN1 := Lib.hid hn1; have HI := Lib.hid hI; have HRC := Lib.hid hRc; have HJX := Lib.hid hJX; have HY := Lib.hid hY; have HO := Lib.hid hO; have HBL := Lib.hid hB
  have hbn : bnd ≤ n1 := by omega
  clear hal hb hI1 hR1 hBV hI hRc hJX hY hO hB hI0 hR0 hn1
  go_wp2_with fail
  rw [HN1.out]
  clear cB
  refine wp_loop (fun a' w' => ∃ u3 u4 u10 u11 u12 u13 u14 u15 u26 u9 ds, (∃ k : Nat, k ≤ ls.length ∧ u9 = .int .i64 (k : Int) ∧ AO n1 l Rc Inv (chT ls k).length ds w') ∧ a' = { tmps := #[.func (.yield l) #[] #[], .pointer (some ⟨Bb, 0, none⟩), .pointer (some ⟨n1, 0, none⟩), u3, u4, undef, undef, .slice Ao ls.length co, .int .i64 (ls.length : Int), u9, u10, u11, u12, u13, u14, u15, undef, undef, undef, undef, undef, undef, undef, undef, undef, undef, u26], defers := ds }) (fun a' _ => ls.length - (intOf (a'.tmps.getD 9 undef)).toNat) ?_ ?_
  · exact ⟨undef, undef, undef, undef, undef, undef, undef, undef, undef, _, [], ⟨0, Nat.zero_le _, rfl, HAO.out⟩, rfl⟩
  · rintro a' wr ⟨u3, u4, u10, u11, u12, u13, u14, u15, u26, u9, ds, ⟨k, hk, rfl, hA⟩, rfl⟩
    clear HAO
    have HA := Lib.hid hA
    clear hA
    by_cases hlt : k < ls.length
    · obtain ⟨lk, hx⟩ : ∃ x, ls[k] = x := ⟨_, rfl⟩
      have hx2 : ls[k]? = some lk := by rw [List.getElem?_eq_getElem hlt, hx]
      have hll := hlen _ (List.mem_of_getElem? hx2)
      have hgd : ls.getD k [] = lk := by rw [List.getD_eq_getElem?_getD, hx2]; rfl
      obtain ⟨cB, hBV⟩ := HI.out _ _ HA.out.inv
      obtain ⟨Ao', co', e1, hbv⟩ := hBV
      obtain ⟨rfl, rfl⟩ : Ao = Ao' ∧ co = co' := by injection e1 with e1 e2 e3; exact ⟨e1, e3⟩
      obtain ⟨g, p, vp, rfl, hpp, hvv, hgl, cg, cp, hpe⟩ := hbv k lk hx2
      have hal1 : Below wr.heap.size wr (wr.alloc (.cells #[.int .i64 (k : Int)] 3)) := (Below.refl _ wr).alloc (Nat.le_refl _) _
      have hbi := Blk.new wr [.int .i64 (k : Int)] 3
      have HX2 := Lib.hid hx2; have HGD := Lib.hid hgd; have HPP := Lib.hid hpp; have HVV := Lib.hid hvv; have HAL1 := Lib.hid hal1; have HBI := Lib.hid hbi
      clear hx hx2 hgd e1 hbv hpe hal1 hbi hpp hvv cB
      go_wp2_with fail
      refine (entries_any _ p).mono ?_; rintro e w3 ⟨rfl, hw3⟩
      have hz3 : w3.heap.size = wr.heap.size + 2 := by rw [hw3]; simp
      have hal2 : Below (wr.alloc (.cells #[.int .i64 (k : Int)] 3)).heap.size (wr.alloc (.cells #[.int .i64 (k : Int)] 3)) w3 := by rw [hw3]; exact (Below.refl _ _).alloc (Nat.le_refl _) _
      have hb1 : Blk w3 (wr.heap.size + 1) tP [.pointer (some ⟨p, 0, none⟩)] := by
        rw [hw3]
        have := Blk.new (wr.alloc (.cells #[.int .i64 (k : Int)] 3)) [.pointer (some ⟨p, 0, none⟩)] tP
        rw [World.size_alloc] at this
        exact this
      have hal3 : Below wr.heap.size wr w3 := HAL1.out.trans (hal2.mono HAL1.out.size)
      have hn1r : n1 < wr.heap.size := HA.out.by_.lt
      have hJ0 : AJ n1 l Rc Inv w3.heap.size (k : Int) p (chT ls k).length ds wr.heap.size (wr.heap.size + 1) w3 :=
        ⟨HA.out.by_.belowS hal3, HBI.out.belowS hal2, hb1, HBL.out _ _ _ HA.out.inv hal3, HRC.out _ _ HA.out.rc (KU.grown (gb_none hal3) (fun r e => by cases e)), (HA.out.m.below hal3).up (by omega), Nat.le_refl _⟩
      have HJ0 := Lib.hid hJ0; have HZ3 := Lib.hid hz3
      simp only [World.size_alloc]
      clear hw3 hal2 hb1 hal3 hJ0 hz3 cg cp
      have hat : ∀ j, j < lk.length → (chT ls k).length + j < (chT ls ls.length).length ∧ (chT ls ls.length).getD ((chT ls k).length + j) dC = ((k : Int), (lk.getD j dE).1, (lk.getD j dE).2) := fun j hj => by
        have := chT_at ls (i := k) (j := j) (by rw [HGD.out]; exact hj) ls.length hlt
        rw [HGD.out] at this
        exact this
      have HAT := Lib.hid hat
      have hse : ∀ q, p = q → vp = vp := fun _ _ => rfl
      have hst : ∀ kk W', Inv kk W' → W'.cell? ⟨p, 0, none⟩ = some vp ∧ PE W' vp lk := fun kk W' h => by
        obtain ⟨_, Ao', co', e1, hbv⟩ := HI.out kk W' h
        obtain ⟨g', p', v', _, h1, h2, _, _, h4, h5⟩ := hbv k lk HX2.out
        rw [HPP.out] at h1
        rw [HVV.out] at h2
        cases h1; cases h2
        exact ⟨h4, h5⟩
      have hsO : ∀ kk, OwnFrom w3.heap.size (fun (_ : Unit) W' => AJ n1 l Rc Inv w3.heap.size (k : Int) p kk ds wr.heap.size (wr.heap.size + 1) W') := fun kk => AJ.own HRC.out (k : Int) p kk ds _ _ (by have := HZ3.out; omega) (Nat.le_refl _) (HO.out kk _ (by have := HZ3.out; omega))
      have IT := entries_iter 3 (wr.heap.size + 1) p vp lk (by omega) (fun j W' => AJ n1 l Rc Inv w3.heap.size (k : Int) p ((chT ls k).length + j) ds wr.heap.size (wr.heap.size + 1) W')
        (fun j W' h => ⟨h.b1.cell rfl, (hst _ _ h.inv).1, (hst _ _ h.inv).2⟩) (fun j W' o h => by
          have ha : Below W'.heap.size W' (W'.alloc o) := (Below.refl _ W').alloc (Nat.le_refl _) _
          exact ⟨h.by_.belowS ha, h.bi_.belowS ha, h.b1.belowS ha, HBL.out _ _ _ h.inv ha, HRC.out _ _ h.rc (KU.grown (gb_none ha) (fun r e => by cases e)), h.m.below ha, Nat.le_trans h.sz ha.size⟩)
      clear hat hse hst
      go_wp2_with fail
      refine wpIn_wide.1 (range_gen (F := Fence.wide) (n := 4) rfl (by omega) (gf := 70) (lb := #[.pointer (some ⟨wr.heap.size + 1, 0, none⟩)]) rfl trivial (enters_of Try.func70 (by kernel_rfl) rfl) (encs := fun j : Nat => #[.int .u64 (lk.getD j dE).1, .int .i64 (lk.getD j dE).2]) (fun _ => rfl)
        (fun W' => AJ n1 l Rc Inv w3.heap.size (k : Int) p ((chT ls k).length + 0) ds wr.heap.size (wr.heap.size + 1) W')
        (fun j W' => j < lk.length ∧ AJ n1 l Rc Inv w3.heap.size (k : Int) p ((chT ls k).length + j) ds wr.heap.size (wr.heap.size + 1) W')
        (fun j W' => AJ n1 l Rc Inv w3.heap.size (k : Int) p ((chT ls k).length + j + 1) ds wr.heap.size (wr.heap.size + 1) W')
        (fun c W' => c = .ret ∧ JX W' ∧ Marks n1 w3.heap.size ds W')
        (fun W' => AJ n1 l Rc Inv w3.heap.size (k : Int) p ((chT ls k).length + lk.length) ds wr.heap.size (wr.heap.size + 1) W')
        (fun j a' W' => a' = { tmps := #[.func (.yield l) #[] #[], .pointer (some ⟨Bb, 0, none⟩), .pointer (some ⟨n1, 0, none⟩), .pointer (some ⟨wr.heap.size, 0, none⟩), .pointer (some ⟨p, 0, none⟩), .int .u64 (lk.getD j dE).1, .int .i64 (lk.getD j dE).2, .slice (some ⟨g, 0, none⟩) ls.length co, .int .i64 (ls.length : Int), .int .i64 (k : Int), .bool true, .int .i64 (k : Int), .pointer (some ⟨g, k, none⟩), .pointer (some ⟨p, 0, none⟩), .pointer (some ⟨p, 0, none⟩), .func (.func 70) #[] #[.pointer (some ⟨wr.heap.size + 1, 0, none⟩)], .int .u64 (lk.getD j dE).1, .int .i64 (lk.getD j dE).2, undef, undef, undef, undef, undef, undef, undef, undef, u26], defers := [] } ∧ j < lk.length ∧ AJ n1 l Rc Inv w3.heap.size (k : Int) p ((chT ls k).length + j) ds wr.heap.size (wr.heap.size + 1) W')
        (hsO _)
        (fun j => hsO _)
        (fun c s A B row hs hg hr => ⟨hs.1, HJX.out A B row hs.2.1 hg (fun r e => ⟨by have := (hr r e).1; have := HZ3.out; omega, (hr r e).2⟩), hs.2.2.gb hg (fun r e => .inl (hr r e).1)⟩)
        (hsO _)
        (fun j a' => OwnFrom.and (fun _ _ _ _ hs _ _ => hs) (OwnFrom.and (fun _ _ _ _ hs _ _ => hs) (hsO _)))
        HJ0.out IT ?assign ?body ?done ?stop)
      case assign =>
        clear IT hsO
        rintro l2 j W' K ⟨hj, hP⟩ hK
        obtain ⟨⟨x, y⟩, hx⟩ : ∃ x, lk.getD j dE = x := ⟨_, rfl⟩
        have HPR := Lib.hid hP
        have HK := Lib.hid (fun a' h => hK a' W' (KeepsFrom.refl _ _) ⟨h, hj, HPR.out⟩)
        rw [hx] at HK ⊢
        clear hP hK hx
        gi_wp2
        exact HK.out _ rfl
      case body =>
        clear IT hsO
        rintro l2 j a' W' hl2 hr ⟨rfl, hj, hP⟩
        have hy0 := HY.out ((chT ls k).length + j) W' ⟨(HAT.out j hj).1, hP.inv⟩ hP.rc (by have := hP.sz; have := HZ3.out; omega)
        rw [(HAT.out j hj).2] at hy0
        obtain ⟨⟨x, y⟩, hx⟩ : ∃ x, lk.getD j dE = x := ⟨_, rfl⟩
        rw [hx] at hy0 ⊢
        obtain ⟨fn, tm, as_, bd, hy, hRd⟩ := yieldAny 1 hy0
        have HRD := Lib.hid hRd; have HP := Lib.hid hP
        have cy := hP.by_.cell (i := 0) rfl
        have ci := hP.bi_.cell (i := 0) rfl
        clear hx hy0 hRd hP
        gi_wp2_with fail
        refine RoundIn.mono (F := Fence.wide) HRD.out ?_
        clear hy
        rintro e w5 ⟨hfy, (⟨rfl, hI5, hR5⟩ | ⟨rfl, hJ⟩)⟩
        · gi_wp2_with fail
          exact ⟨kf_up hfy.1 (by have := HZ3.out; omega), (hfy.2 _ (.inl rfl)).blk HP.out.by_, (hfy.2 _ (.inr (.inl rfl))).blk HP.out.bi_, (hfy.2 _ (.inr (.inr rfl))).blk HP.out.b1, hI5, hR5, HP.out.m.kf hfy.1, Nat.le_trans HP.out.sz hfy.1.size⟩
        · gi_wp2_with fail
          exact ⟨kf_up hfy.1 (by have := HZ3.out; omega), rfl, hJ, HP.out.m.kf hfy.1⟩
      case done =>
        clear IT hsO
        rintro D W' hD hP hK
        have hk2 : (k : Int) + 1 ≤ 9223372036854775807 := by omega
        have hm := hP.m.cons (by have := HZ3.out; omega) hD hK
        have hDl : D < W'.heap.size := (Array.getElem?_eq_some_iff.1 hK).1
        have hln : (chT ls (k + 1)).length = (chT ls k).length + lk.length := by rw [chT_succ, List.length_append, List.length_map, HGD.out]
        have HN := Lib.hid (show AO n1 l Rc Inv (chT ls (k + 1)).length (mk D :: ds) W' from ⟨hP.by_, by rw [hln]; exact hP.inv, hP.rc, hm.up (by omega)⟩)
        clear hP hK hm hln
        go_wp2_with fail
        refine ⟨⟨_, _, _, _, _, _, _, _, _, _, _, ⟨k + 1, by omega, by simp, HN.out⟩, rfl⟩, ?_⟩
        simp [intOf]; omega
      case stop =>
        clear IT hsO
        rintro D c W' hD ⟨rfl, hJ, hM⟩ hK
        have HM := Lib.hid (hM.cons (by have := HZ3.out; omega) hD hK); have HJ := Lib.hid hJ
        clear hJ hM hK
        gi_wp2
        refine HM.out.leave JX ?_ ?_ HJ.out
        · intro A1 D2 hD2 h1 hK2
          exact HJX.out _ _ _ h1 (grownBy_putObj' A1 D2 (.deferred none)) (fun r e => by cases e; exact ⟨hD2, _, hK2, rfl⟩)
        · intro A1 h1
          exact ⟨.tuple #[], by simp [results, Try.f105, go_sem], ⟨_, rfl⟩, .inr h1⟩
    · obtain rfl : k = ls.length := by omega
      go_wp2_with fail
      refine HA.out.m.leave (fun A => Inv (chT ls ls.length).length A ∧ Rc A) ?_ ?_ ⟨HA.out.inv, HA.out.rc⟩
      · rintro A1 D hD ⟨h1, h2⟩ hK
        exact ⟨(HO.out _ n1 hbn).putObj (s := ()) (.deferred none) h1 hD hK rfl, HRC.out _ _ h2 (KU.grown (grownBy_putObj' A1 D (.deferred none)) (fun r e => by cases e; exact .inl hD))⟩
      · rintro A1 ⟨h1, h2⟩
        exact ⟨.tuple #[], by simp [results, Try.f105, go_sem], ⟨_, rfl⟩, .inl ⟨h1, h2⟩⟩
end Go.Proofs.Ytnlhgnioedalpaa.Pri

/- delta: the document's Few, SameBooks. -/
set_option linter.unusedSimpArgs false
set_option linter.unusedVariables false
namespace Go.Proofs.Ytnlhgnioedalpaa.Pri
open Go.RowKit Go.Proofs.YtnlhgnioedalpaaW.PrintWords Go.Proofs.Ytnlhgnioedalpaa.PPricePlays Go.Maps
attribute [local go_sem] Oper.semAt_some

theorem rsame_c (W : World) (v u : Value) (l m : List En) (h : PE W v l) (k : PE W u m) (hl : l.length ≤ 1099511627776) (o : Bool) (ho : decide (l = m) = o) :
    Calls Try.prog 16 #[v, u] W fun e w' => e = .returned (.bool o) ∧ Below W.heap.size W w' := by
  have := rsame_any W v u l m h k hl
  rw [ho] at this
  exact this
set_option maxRecDepth 100000 in
set_option maxHeartbeats 4000000 in
theorem books_any (W : World) (v u : Value) (L M : List (List En)) (h : PEE W v L) (k : PEE W u M) (hl : L.length ≤ 1000000) (hl2 : ∀ l ∈ L, l.length ≤ 1000000) :
    Calls Try.prog 53 #[v, u] W fun e w' => e = .returned (.bool (decide (L = M))) ∧ Below W.heap.size W w' := by
  have H := Lib.hid h; have K := Lib.hid k
  obtain ⟨A, c, rfl, -⟩ := h
  obtain ⟨A2, c2, rfl, -⟩ := k
  obtain ⟨R, hR⟩ : ∃ R, decide (L = M) = R := ⟨_, rfl⟩
  have HR := Lib.hid hR
  rw [hR]
  clear hR
  by_cases hn : L.length = M.length
  · have hn2 : (L.length : Int) = (M.length : Int) := by omega
    have HN := Lib.hid hn
    clear hn
    go_enter Try.func53, Try.ntmps53
    go_wp2_with fail
    go_loopw [5] (fun i wr => ∃ k : Nat, k ≤ L.length ∧ i = .int .i64 (k : Int) ∧ Below W.heap.size W wr ∧ ∀ j, j < k → L[j]? = M[j]?) (fun i _ => L.length - (intOf i).toNat)
    case atStart => exact ⟨0, Nat.zero_le _, rfl, Below.refl _ W, fun j hj => by omega⟩
    case round =>
      obtain ⟨k, hk, rfl, hB, hno⟩ := hrel
      have HNO := Lib.hid hno; have HB := Lib.hid hB
      clear hno
      by_cases hlt : k < L.length
      · obtain ⟨l, hx⟩ : ∃ x, L[k] = x := ⟨_, rfl⟩
        have hx2 : L[k]? = some l := by rw [List.getElem?_eq_getElem hlt, hx]
        obtain ⟨m, hy⟩ : ∃ x, M[k]'(by have := HN.out; omega) = x := ⟨_, rfl⟩
        have hy2 : M[k]? = some m := by rw [List.getElem?_eq_getElem (by have := HN.out; omega), hy]
        have hll := hl2 _ (List.mem_of_getElem? hx2)
        have hkm : (k : Int) < (M.length : Int) := by omega
        obtain ⟨b3, off3, c4, A3, c3, e1, hlb, r0, hpe⟩ := (H.out.below hB).at hx2
        obtain ⟨rfl, rfl⟩ : A = some ⟨b3, off3, none⟩ ∧ c = c4 := by injection e1 with e1 e2 e3; exact ⟨e1, e3⟩
        obtain ⟨b5, off5, c6, A5, c5, e2, hlb5, s0, hpe5⟩ := (K.out.below hB).at hy2
        obtain ⟨rfl, rfl⟩ : A2 = some ⟨b5, off5, none⟩ ∧ c2 = c6 := by injection e2 with e1 e2 e3; exact ⟨e1, e3⟩
        obtain ⟨o, ho⟩ : ∃ o, decide (l = m) = o := ⟨_, rfl⟩
        have hdr : Below wr.heap.size wr wr.drew := (Below.refl _ _).drew
        have hsm := rsame_c wr.drew _ _ l m (hpe.below hdr) (hpe5.below hdr) (by omega) o ho
        have HSM := Lib.hid hsm; have HO := Lib.hid ho; have HX := Lib.hid hx2; have HY := Lib.hid hy2; have HDR := Lib.hid hdr
        clear hx hx2 hy hy2 e1 e2 hpe hpe5 ho hdr hsm hB
        go_wp2_with fail
        go_region_held3 (fun w' => w'.cell? ⟨b3, off3 + k, none⟩ = some (.slice A3 l.length c3) ∧ w'.cell? ⟨b5, off5 + k, none⟩ = some (.slice A5 m.length c5)) (go_keep) ((go_at_call 16; refine HSM.out.mono ?_; rintro e w1 ⟨rfl, hb1⟩; have q0 := ((HDR.out.trans hb1).cell (p := ⟨b3, off3 + k, none⟩) hlb).trans r0; have q1 := ((HDR.out.trans hb1).cell (p := ⟨b5, off5 + k, none⟩) hlb5).trans s0))
        all_goals
          have HB1 := Lib.hid (HB.out.trans ((HDR.out.trans hb1).mono HB.out.size))
          clear q0 q1 hb1
          cases o with
          | true =>
            have hlm := of_decide_eq_true HO.out
            have HLM := Lib.hid hlm
            clear hlm
            go_wp2_with fail
            go_roundw
            case rel => exact ⟨k + 1, by omega, by simp, HB1.out, fun j hj => by
              rcases Nat.lt_succ_iff_lt_or_eq.1 hj with h | rfl
              · exact HNO.out j h
              · rw [HX.out, HY.out, HLM.out]⟩
            case measure => simp [intOf]; omega
          | false =>
            have hr : R = false := by
              rw [← HR.out]
              refine decide_eq_false (fun e => ?_)
              have h1 := HX.out
              rw [e, HY.out] at h1
              have := of_decide_eq_false HO.out
              exact this (Option.some.inj h1).symm
            have HRR := Lib.hid hr
            clear hr
            go_wp2_with fail
            go_ret
            exact ⟨by have := HRR.out; subst this; rfl, HB1.out⟩
      · obtain rfl : k = L.length := by omega
        have hr : R = true := by
          rw [← HR.out]
          refine decide_eq_true (List.ext_getElem? (fun j => ?_))
          by_cases hj : j < L.length
          · exact HNO.out j hj
          · rw [List.getElem?_eq_none (by omega), List.getElem?_eq_none (by have := HN.out; omega)]
        have HRR := Lib.hid hr
        clear hr
        go_wp2_with fail
        go_ret
        exact ⟨by have := HRR.out; subst this; rfl, hB⟩
  · have hn2 : ¬ (L.length : Int) = (M.length : Int) := by omega
    have hr : R = false := by
      rw [← HR.out]
      exact decide_eq_false (fun e => hn (by rw [e]))
    have HRR := Lib.hid hr
    clear hr hn
    go_enter Try.func53, Try.ntmps53
    go_wp2_with fail
    go_ret
    exact ⟨by have := HRR.out; subst this; rfl, Below.refl _ W⟩
end Go.Proofs.Ytnlhgnioedalpaa.Pri
