/- a range over an iterator that ranges itself. -/
import Derived.Test.YtmdacfgofilbdaaOpen
import Derived.Test.YtmdacfgofilbdaaTabB4
set_option linter.unusedSimpArgs false
set_option linter.unusedVariables false

namespace Go.Proofs.Ytmdacfgofilbdaa
open Go.RowKit

/-- blocks of cells of a type are kept -/
def KTy (t : TypeId) (W W' : World) : Prop := W.heap.size ≤ W'.heap.size ∧ ∀ (b : Nat) cs fr, W.heap[b]? = some (Obj.cells cs t fr) → W'.heap[b]? = some (Obj.cells cs t fr)
theorem KTy.refl (t : TypeId) (W : World) : KTy t W W := ⟨Nat.le_refl _, fun _ _ _ h => h⟩
theorem KTy.trans {t : TypeId} {A B C : World} (h : KTy t A B) (k : KTy t B C) : KTy t A C := ⟨Nat.le_trans h.1 k.1, fun b cs fr hb => k.2 b cs fr (h.2 b cs fr hb)⟩
theorem KTy.putObj {t : TypeId} {W : World} {l : Nat} {o : Obj} (o' : Obj) (hl : W.heap[l]? = some o) (ho : o.isCells = false) : KTy t W (W.putObj l o') :=
  ⟨by simp, fun b cs fr hb => (World.putObj_heap_other (fun e => by subst e; rw [hb] at hl; cases hl; simp [Obj.isCells] at ho)).trans hb⟩
theorem KTy.below {t : TypeId} {A B : World} (h : Below A.heap.size A B) : KTy t A B := ⟨h.size, fun b cs fr hb => (h.block b (Array.getElem?_eq_some_iff.1 hb).1).trans hb⟩
theorem KTy.blk {t : TypeId} {A B : World} (h : KTy t A B) {b : Nat} {l : List Value} (hb : Blk A b t l) : Blk B b t l := h.2 b _ _ hb

/-- what is no row of cells and lies ahead of N is kept -/
structure KU (N : Nat) (W W' : World) : Prop where
  size : W.heap.size ≤ W'.heap.size
  same : ∀ (k : Nat) (o : Obj), k < N → W.heap[k]? = some o → o.isCells = false → W'.heap[k]? = some o
theorem KU.refl (N : Nat) (W : World) : KU N W W := ⟨Nat.le_refl _, fun _ _ _ h _ => h⟩
theorem KU.trans {N : Nat} {A B C : World} (h : KU N A B) (k : KU N B C) : KU N A C := ⟨Nat.le_trans h.size k.size, fun i o hi ha ho => k.same i o hi (h.same i o hi ha ho) ho⟩
theorem KU.grown {N : Nat} {A B : World} {row : Option Nat} (hg : A.grownBy B row) (hr : ∀ r, row = some r → N ≤ r ∨ ∃ o : Obj, A.heap[r]? = some o ∧ o.isCells = true) : KU N A B :=
  ⟨hg.size, fun k o hk ha ho => (hg.block k (Array.getElem?_eq_some_iff.1 ha).1 (fun e => by
    rcases hr k e.symm with h | ⟨o', h1, h2⟩
    · omega
    · rw [ha] at h1; cases h1; rw [ho] at h2; cases h2)).trans ha⟩
theorem KU.others {N : Nat} {A B : World} (h : KeepsOthers A B) : KU N A B := ⟨h.size, fun k o _ ha ho => h.same k o ha ho⟩
theorem kf_up {B B' : Nat} {W W' : World} (h : KeepsFrom B W W') (hb : B ≤ B') : KeepsFrom B' W W' := ⟨h.size, fun k o hk hh ho => h.same k o (Nat.le_trans hb hk) hh ho⟩
/-- what each round keeps for the iterator: its walks' objects, and blocks of some types -/
def FY (N : Nat) (Ts : TypeId → Prop) (W W' : World) : Prop := KeepsFrom N W W' ∧ ∀ t, Ts t → KTy t W W'

/-- what a body owes at each of its ways out -/
def genPost3 (B : Nat) (Ts : TypeId → Prop) (Post : World → Prop) (Ix : Code → World → Prop) (W : World) : Exit → Act → World → Prop
  | .normal, _, W' => KeepsFrom B W W' ∧ (∀ t, Ts t → KTy t W W') ∧ Post W'
  | .ret, _, W' => KeepsFrom B W W' ∧ (∀ t, Ts t → KTy t W W') ∧ Ix .ret W'
  | .exit id, _, W' => KeepsFrom B W W' ∧ (∀ t, Ts t → KTy t W W') ∧ Ix (.exit id) W'
  | .goto t, _, W' => KeepsFrom B W W' ∧ (∀ t, Ts t → KTy t W W') ∧ Ix (.goto t) W'
  | .panic _, _, _ => False
  | .outgrown, _, _ => False

/-- what an iterator owes that may range itself -/
def IterOk3 (F : Fence) (n : Nat) (P : Program) (gf : Nat) (lb : Array Value) (Ts : TypeId → Prop) {α : Type} (encs : α → Array Value) (Start : World → Prop) (Pre Post : α → World → Prop) (Fin : World → Prop) : Prop :=
  ∀ (l : Nat) (Rc JX : World → Prop) (W1 : World), (∀ A A', Rc A → KU W1.heap.size A A' → Rc A') →
    (∀ A A' row, JX A → A.grownBy A' row → (∀ r, row = some r → W1.heap.size ≤ r ∧ ∃ o : Obj, A.heap[r]? = some o ∧ o.isCells = false) → JX A') → Rc W1 → Start W1 →
    (∀ x W, Pre x W → Rc W → W1.heap.size ≤ W.heap.size → YieldAt F (n - 1) P l (encs x) W fun e W' => FY W1.heap.size Ts W W' ∧ ((e = .returned (.bool true) ∧ Post x W' ∧ Rc W') ∨ (e = .returned (.bool false) ∧ JX W'))) →
    CallsIn F n P gf (#[.func (.yield l) #[] #[]] ++ lb) W1 fun e W' => (∃ v, e = .returned v) ∧ ((Fin W' ∧ Rc W') ∨ JX W')

section
variable {F : Fence} {n : Nat} {P : Program}

theorem range_gen3 {α : Type} {g : Operand} {ps : Array Tmp} {assign body : Code} {Q : Exit → Act → World → Prop} {a : Act} {w : World}
    (hro : F.round = none) (h1 : 1 ≤ n) {gf : Nat} {lb : Array Value} (hg : a.eval g = .func (.func gf) #[] lb) (hFg : F.fn gf) (eg : ∀ args w, (callFunc gf args).run P w = .ok (.enter gf args) w)
    {encs : α → Array Value} (hps : ∀ x, (encs x).size = ps.size)
    (Ts : TypeId → Prop) (Start : World → Prop) (Pre Post : α → World → Prop) (Ix : Code → World → Prop) (Fin : World → Prop) (Mid : α → Act → World → Prop)
    (sStart : OwnFrom w.heap.size (fun (_ : Unit) W => Start W)) (sPost : ∀ x, OwnFrom w.heap.size (fun (_ : Unit) W => Post x W)) (sIx : ∀ c, OwnFrom w.heap.size (fun (_ : Unit) W => Ix c W)) (sFin : OwnFrom w.heap.size (fun (_ : Unit) W => Fin W)) (sMid : ∀ x a', OwnFrom w.heap.size (fun (_ : Unit) W => Mid x a' W))
    (h0 : Start w) (hit : IterOk3 F (n - 1) P gf lb Ts encs Start Pre Post Fin)
    (hassign : ∀ (l : Nat) (x : α) (W : World) (K : Act → World → Prop), Pre x W → (∀ a' W', KeepsFrom w.heap.size W W' → (∀ t, Ts t → KTy t W W') → Mid x a' W' → K a' W') →
      assign.wpIn (F.inRound l) (n - 1 - 1) P (Exit.then K (fun _ _ _ => False)) { tmps := (ps.zip (encs x)).foldl (fun t (p, v) => t.setIfInBounds p v) a.tmps, defers := [] } W)
    (hbody : ∀ (l : Nat) (x : α) (a' : Act) (W : World), w.heap.size ≤ l → (∃ r, W.heap[l]? = some (.loop r)) → Mid x a' W → body.wpIn (F.inRound l) (n - 1 - 1) P (genPost3 w.heap.size Ts (Post x) Ix W) a' W)
    (hdone : ∀ (D : Nat) (W : World), w.heap.size ≤ D → Fin W → W.heap[D]? = some (.deferred (some [])) → Q .normal { a with defers := { target := .collected D, args := #[] } :: a.defers } W)
    (hstop : ∀ (D : Nat) (c : Code) (W : World), w.heap.size ≤ D → Ix c W → W.heap[D]? = some (.deferred (some [])) → c.wpIn F n P Q { a with defers := { target := .collected D, args := #[] } :: a.defers } W) :
    (Code.rangeFunc g ps assign body).wpIn F n P Q a w := by
  refine wpIn_rangeFunc ?_
  intro fn hfn
  rw [hro]
  obtain ⟨rec, hrec⟩ : ∃ rec : LoopState → Option Code → Loop, rec = fun st pe => { state := st, pending := pe, fn, tmps := a.tmps, params := ps, assign, body, defers := w.heap.size } := ⟨_, rfl⟩
  obtain ⟨W1, hW1⟩ : ∃ W1, (w.alloc (.deferred (some []))).alloc (.loop (rec .ready none)) = W1 := ⟨_, rfl⟩
  have hz1 : W1.heap.size = w.heap.size + 2 := by rw [← hW1]; simp
  have hL1 : W1.heap[w.heap.size + 1]? = some (.loop (rec .ready none)) := by
    rw [← hW1]; have := World.alloc_heap_new (w.alloc (.deferred (some []))) (.loop (rec .ready none)); rwa [World.size_alloc] at this
  have hK1 : W1.heap[w.heap.size]? = some (.deferred (some [])) := by
    rw [← hW1]; exact (Below.heap_alloc _ _ _ (by simp)).trans (World.alloc_heap_new w _)
  have hS1 : Start W1 := by rw [← hW1]; exact sStart.alloc (s := ()) _ (sStart.alloc (s := ()) _ h0)
  refine ⟨w.heap.size + 1, [{ target := .collected w.heap.size, args := #[] }], W1, { target := .fn (.func gf) lb, args := #[.func (.yield (w.heap.size + 1)) #[] #[]] }, W1, gf,
    #[.func (.yield (w.heap.size + 1)) #[] #[]] ++ lb, W1, ?_, ?_, ?_, ?_, fun _ => h1, ?_⟩
  · rw [← hW1, hrec]; exact run_enterLoop_outer _ _ _ _ _
  · simp only [resolve, hg]
    simp [go_sem]
  · intro f' hf'; simp [Target.leads] at hf'; subst hf'; exact hFg
  · simp [invoke, go_sem, eg]
  · have hRc := hit (w.heap.size + 1)
      (fun W => W.heap[w.heap.size + 1]? = some (.loop (rec .ready none)) ∧ W.heap[w.heap.size]? = some (.deferred (some [])))
      (fun W => ∃ c, Ix c W ∧ W.heap[w.heap.size + 1]? = some (.loop (rec .done (some c))) ∧ W.heap[w.heap.size]? = some (.deferred (some [])))
      W1 (fun A A' hA hk => ⟨hk.same _ _ (by omega) hA.1 rfl, hk.same _ _ (by omega) hA.2 rfl⟩)
      (fun A A' row hA hg' hr => by
        obtain ⟨c, hc, hl, hk⟩ := hA
        exact ⟨c, sIx c () A A' row hc hg' (fun r e => ⟨by have := (hr r e).1; omega, (hr r e).2⟩), (hg'.block _ (Array.getElem?_eq_some_iff.1 hl).1 (fun e => by have := (hr _ e.symm).1; omega)).trans hl, (hg'.block _ (Array.getElem?_eq_some_iff.1 hk).1 (fun e => by have := (hr _ e.symm).1; omega)).trans hk⟩)
      ⟨hL1, hK1⟩ hS1 ?_
    · refine hRc.mono ?_
      rintro e W2 ⟨⟨v, rfl⟩, (⟨hF, hl, hk⟩ | ⟨c, hi, hl, hk⟩)⟩
      · exact ⟨none, _, by have := run_endLoop (P := P) hl (by rw [hrec]; simp); rw [hrec] at this; exact this, hdone _ _ (Nat.le_refl _) (sFin.putObj (s := ()) _ hF (by omega) hl rfl) ((World.putObj_heap_other (by omega)).trans hk)⟩
      · exact ⟨some c, _, by have := run_endLoop (P := P) hl (by rw [hrec]; simp); rw [hrec] at this; exact this, hstop _ c _ (Nat.le_refl _) ((sIx c).putObj (s := ()) _ hi (by omega) hl rfl) ((World.putObj_heap_other (by omega)).trans hk)⟩
    · rintro x W hp ⟨hl, hk⟩ hWz
      have hy := run_yield (P := P) (args := encs x) hl (by rw [hrec]; exact hps x)
      rw [hrec] at hy
      refine ⟨fn, _, assign, body, hy, roundIn_of_wpIn hfn (hassign _ x W _ hp ?_)⟩
      clear hy
      intro a' Wa hkfa hkta hmid
      have hl0 := hl
      replace hl := hkfa.same _ _ (by omega) hl rfl
      replace hk := hkfa.same _ _ (Nat.le_refl _) hk rfl
      have hlt : w.heap.size + 1 < Wa.heap.size := (Array.getElem?_eq_some_iff.1 hl).1
      refine ⟨_, run_beginRound hl (by rw [hrec]), ?_⟩
      have hl2 : (Wa.putObj (w.heap.size + 1) (.loop { rec .ready none with state := .busy })).heap[w.heap.size + 1]? = some (.loop { rec .ready none with state := .busy }) := World.putObj_heap_same hlt
      have hk2 : (Wa.putObj (w.heap.size + 1) (.loop { rec .ready none with state := .busy })).heap[w.heap.size]? = some (.deferred (some [])) := (World.putObj_heap_other (by omega)).trans hk
      refine wpIn_mono (hbody _ x a' _ (by omega) ⟨_, hl2⟩ ((sMid x a').putObj (s := ()) _ hmid (by omega) hl rfl)) ?_
      have hla := hl
      have fy : ∀ (jump : Option Code) (W3 : World), KeepsFrom w.heap.size (Wa.putObj (w.heap.size + 1) (.loop { rec .ready none with state := .busy })) W3 → (∀ t, Ts t → KTy t (Wa.putObj (w.heap.size + 1) (.loop { rec .ready none with state := .busy })) W3) →
          FY W1.heap.size Ts W (W3.putObj (w.heap.size + 1) (.loop (rec (if jump.isNone then .ready else .done) jump))) := fun jump W3 hk3 ht3 => by
        have hl3 := hk3.same _ _ (by omega) hl2 rfl
        exact ⟨(((kf_up hkfa (by omega)).trans (KeepsFrom.of_grownBy (grownBy_putObj' _ _ _) (fun j e => by cases e; omega))).trans (kf_up hk3 (by omega))).trans (KeepsFrom.of_grownBy (grownBy_putObj' _ _ _) (fun j e => by cases e; omega)), fun t ht => (((hkta t ht).trans (KTy.putObj _ hla rfl)).trans (ht3 t ht)).trans (KTy.putObj _ hl3 rfl)⟩
      have fin : ∀ (jump : Option Code) (W3 : World), KeepsFrom w.heap.size (Wa.putObj (w.heap.size + 1) (.loop { rec .ready none with state := .busy })) W3 →
          (Instr.endRound (w.heap.size + 1) jump).run P W3 = .ok (.bool jump.isNone) (W3.putObj (w.heap.size + 1) (.loop (rec (if jump.isNone then .ready else .done) jump))) ∧
          W3.heap[w.heap.size + 1]? = some (.loop { rec .ready none with state := .busy }) ∧
          (W3.putObj (w.heap.size + 1) (.loop (rec (if jump.isNone then .ready else .done) jump))).heap[w.heap.size + 1]? = some (.loop (rec (if jump.isNone then .ready else .done) jump)) ∧
          (W3.putObj (w.heap.size + 1) (.loop (rec (if jump.isNone then .ready else .done) jump))).heap[w.heap.size]? = some (.deferred (some [])) := fun jump W3 hk3 => by
        have hl3 := hk3.same _ _ (by omega) hl2 rfl
        have := run_endRound (P := P) jump hl3
        rw [hrec] at this ⊢
        exact ⟨this, by rw [hrec] at hl3; exact hl3, World.putObj_heap_same (Array.getElem?_eq_some_iff.1 hl3).1, (World.putObj_heap_other (by omega)).trans (hk3.same _ _ (Nat.le_refl _) hk2 rfl)⟩
      rintro e a3 W3 hp3
      cases e with
      | normal =>
        obtain ⟨hk3, ht3, hi3⟩ := hp3
        obtain ⟨hr, hl3, hl4, hk4⟩ := fin none W3 hk3
        exact ⟨_, _, hr, fy none W3 hk3 ht3, .inl ⟨rfl, (sPost x).putObj (s := ()) _ hi3 (by omega) hl3 rfl, hl4, hk4⟩⟩
      | ret =>
        obtain ⟨hk3, ht3, hi3⟩ := hp3
        obtain ⟨hr, hl3, hl4, hk4⟩ := fin (some .ret) W3 hk3
        exact ⟨_, _, hr, fy (some .ret) W3 hk3 ht3, .inr ⟨rfl, .ret, (sIx _).putObj (s := ()) _ hi3 (by omega) hl3 rfl, hl4, hk4⟩⟩
      | exit id =>
        obtain ⟨hk3, ht3, hi3⟩ := hp3
        obtain ⟨hr, hl3, hl4, hk4⟩ := fin (some (.exit id)) W3 hk3
        exact ⟨_, _, hr, fy (some (.exit id)) W3 hk3 ht3, .inr ⟨rfl, .exit id, (sIx _).putObj (s := ()) _ hi3 (by omega) hl3 rfl, hl4, hk4⟩⟩
      | goto t =>
        obtain ⟨hk3, ht3, hi3⟩ := hp3
        obtain ⟨hr, hl3, hl4, hk4⟩ := fin (some (.goto t)) W3 hk3
        exact ⟨_, _, hr, fy (some (.goto t)) W3 hk3 ht3, .inr ⟨rfl, .goto t, (sIx _).putObj (s := ()) _ hi3 (by omega) hl3 rfl, hl4, hk4⟩⟩
      | panic ch => exact hp3.elim
      | outgrown => exact hp3.elim
end

theorem cell_own {b : Nat} (a : Addr) (v : Value) : OwnFrom b (fun (_ : Unit) W => W.cell? a = some v) := fun s A B row h3' hg hr => by
  have h3 : A.cell? a = some v := h3'
  show B.cell? a = some v
  rw [← h3]
  refine World.cell?_of_block (hg.block _ (World.block_lt_of_cell? _ _ h3) (fun e => ?_))
  obtain ⟨_, o, ho, hno⟩ := hr _ e.symm
  unfold World.cell? at h3
  rw [ho] at h3
  cases o <;> simp [Obj.isCells] at hno h3
end Go.Proofs.Ytmdacfgofilbdaa

/- table B: the methods of a table. -/
set_option linter.unusedSimpArgs false
set_option linter.unusedVariables false
namespace Go.Proofs.Ytmdacfgofilbdaa.TabB
open Go.RowKit Go.Proofs.Ytmdacfgofilbdaa.TabL

theorem gb_below {W w1 w2 : World} {p : Nat} (hb : Below W.heap.size W w1) (h : w1.grownBy w2 (some p)) : W.grownBy w2 (some p) :=
  ⟨h.os.trans hb.os, h.tape.trans hb.tape, h.output.trans hb.output, Nat.le_trans hb.size h.size, fun k hk hne => (h.block k (Nat.lt_of_lt_of_le hk hb.size) hne).trans (hb.block k hk)⟩
theorem gb_trans {W w1 w2 : World} {r : Option Nat} (hb : W.grownBy w1 r) (h : w1.grownBy w2 r) : W.grownBy w2 r :=
  ⟨h.os.trans hb.os, h.tape.trans hb.tape, h.output.trans hb.output, Nat.le_trans hb.size h.size, fun k hk hne => (h.block k (Nat.lt_of_lt_of_le hk hb.size) hne).trans (hb.block k hk hne)⟩
theorem gb_refl (W : World) (r : Option Nat) : W.grownBy W r := ⟨rfl, rfl, rfl, Nat.le_refl _, fun _ _ _ => rfl⟩

/-- a table that lies in a block of whatever type -/
abbrev TMg (tt : TypeId) (W : World) (p : Nat) (xs : List (Int × Int)) : Prop := TM tt 145 ek ev W p xs
/-- what a table answers to a key -/
def getV (xs : List (Int × Int)) (k : Int) : Int := match getL ltI xs k with | none => 0 | some v => v
set_option maxRecDepth 100000 in
set_option maxHeartbeats 4000000 in
theorem get_any (W : World) (p : Nat) (xs : List (Int × Int)) (k : Int) {tt : TypeId} (htt : tt ≠ 145) (h : TMg tt W p xs) (hs : Sd ltI xs) :
    Calls Try.prog 69 #[.pointer (some ⟨p, 0, none⟩), (.int .i64 k)] W fun e w' => e = .returned (.tuple #[(.int .i64 (getV xs k)), .bool (getL ltI xs k).isSome]) ∧ W = w' := by
  obtain ⟨q, T, h1, h2, rfl⟩ := h
  have c0 := h1.cell (i := 0) rfl
  have F := Lib.hid (find_any k T W q h2 hs)
  clear h1 h2 hs
  go_enter Try.func69, Try.ntmps69
  go_wp2_with fail
  refine F.out.mono ?_; rintro e w1 ⟨rfl, q1, rfl, (⟨hg, rfl⟩ | ⟨v, b, hg, rfl, c1⟩)⟩
  · have HG := Lib.hid hg
    clear hg
    go_wp2_with fail
    go_ret2
    refine ⟨?_, rfl⟩
    unfold getV
    rw [HG.out]
    rfl
  · have HG := Lib.hid hg
    clear hg
    go_wp2_with fail
    go_ret2
    refine ⟨?_, rfl⟩
    unfold getV
    rw [HG.out]
    rfl
set_option maxRecDepth 100000 in
set_option maxHeartbeats 4000000 in
theorem putM_any (W : World) (p : Nat) (xs : List (Int × Int)) (k : Int) (v : Int) {tt : TypeId} (htt : tt ≠ 145) (h : TMg tt W p xs) (hs : Sd ltI xs) (hl : xs.length < 1099511627776) :
    Calls Try.prog 93 #[.pointer (some ⟨p, 0, none⟩), (.int .i64 k), (.int .i64 v)] W fun e w' => e = .returned (.bool (getL ltI xs k).isNone) ∧ TMg tt w' p (putL ltI xs k v) ∧ W.grownBy w' (some p) := by
  obtain ⟨q, T, h1, h2, rfl⟩ := h
  have c0 := h1.cell (i := 0) rfl
  have f0 := h1.frozen 0
  have plt := h1.lt
  have F := Lib.hid (find_any k T W q h2 hs)
  have PU := Lib.hid (put_any k v T W q h2 hs hl)
  have H1 := Lib.hid h1
  clear h1 h2 hs hl
  go_enter Try.func93, Try.ntmps93
  go_wp2_with fail
  refine F.out.mono ?_; rintro e w1 ⟨rfl, q1, rfl, (⟨hg, rfl⟩ | ⟨v1, b, hg, rfl, c1⟩)⟩
  all_goals
    have HG := Lib.hid hg
    clear hg
    go_wp2_with fail
    refine PU.out.mono ?_; rintro e w2 ⟨q2, t2, rfl, hT2, ht2, hb2⟩
    obtain ⟨hc2, hf2⟩ := bcell hb2
    have c0' := (hc2 p 0 plt).trans c0
    have f0' := (hf2 p 0 plt).trans f0
    have plt2 := Nat.lt_of_lt_of_le plt hb2.size
    have HB2 := Lib.hid hb2; have HT2 := Lib.hid hT2; have HE2 := Lib.hid ht2
    clear hc2 hf2 hb2 hT2 ht2
    go_wp2_with fail
    go_ret
    have hP2 : Blk w2 p tt [.pointer q] := H1.out.belowS HB2.out
    refine ⟨by rw [HG.out]; rfl, ⟨q2, t2, hP2.set 0 (.pointer q2), HT2.out.kept (KT.setOther hP2 htt), HE2.out⟩, gb_below HB2.out (grownBy_setAt w2 p 0 _)⟩
set_option maxRecDepth 100000 in
set_option maxHeartbeats 4000000 in
theorem dropM_any (W : World) (p : Nat) (xs : List (Int × Int)) (k : Int) {tt : TypeId} (htt : tt ≠ 145) (h : TMg tt W p xs) (hs : Sd ltI xs) (hl : xs.length ≤ 1099511627776) :
    Calls Try.prog 92 #[.pointer (some ⟨p, 0, none⟩), (.int .i64 k)] W fun e w' => e = .returned (.bool (getL ltI xs k).isSome) ∧ TMg tt w' p (dropL ltI xs k) ∧ W.grownBy w' (some p) := by
  obtain ⟨q, T, h1, h2, rfl⟩ := h
  have c0 := h1.cell (i := 0) rfl
  have f0 := h1.frozen 0
  have plt := h1.lt
  have F := Lib.hid (find_any k T W q h2 hs)
  have PU := Lib.hid (drop_any k T W q h2 hs hl)
  have H1 := Lib.hid h1; have H2 := Lib.hid h2
  clear h1 h2 hs hl
  go_enter Try.func92, Try.ntmps92
  go_wp2_with fail
  refine F.out.mono ?_; rintro e w1 ⟨rfl, q1, rfl, (⟨hg, rfl⟩ | ⟨v1, b, hg, rfl, c1⟩)⟩
  · have HG := Lib.hid hg
    clear hg
    go_wp2_with fail
    go_ret
    refine ⟨by rw [HG.out]; rfl, ⟨q, T, H1.out, H2.out, (getL_none.1 HG.out).symm⟩, gb_refl _ _⟩
  · have HG := Lib.hid hg
    clear hg
    go_wp2_with fail
    refine PU.out.mono ?_; rintro e w2 ⟨q2, t2, rfl, hT2, ht2, hb2⟩
    obtain ⟨hc2, hf2⟩ := bcell hb2
    have c0' := (hc2 p 0 plt).trans c0
    have f0' := (hf2 p 0 plt).trans f0
    have plt2 := Nat.lt_of_lt_of_le plt hb2.size
    have HB2 := Lib.hid hb2; have HT2 := Lib.hid hT2; have HE2 := Lib.hid ht2
    clear hc2 hf2 hb2 hT2 ht2
    go_wp2_with fail
    go_ret
    have hP2 : Blk w2 p tt [.pointer q] := H1.out.belowS HB2.out
    refine ⟨by rw [HG.out]; rfl, ⟨q2, t2, hP2.set 0 (.pointer q2), HT2.out.kept (KT.setOther hP2 htt), HE2.out⟩, gb_below HB2.out (grownBy_setAt w2 p 0 _)⟩



set_option maxRecDepth 100000 in
set_option maxHeartbeats 4000000 in
theorem clone_any (W : World) (p : Nat) (xs : List (Int × Int)) {tt : TypeId} (h : TMg tt W p xs) : Calls Try.prog 76 #[.pointer (some ⟨p, 0, none⟩)] W fun e w' => e = .returned (.pointer (some ⟨W.heap.size, 0, none⟩)) ∧ TMx w' W.heap.size xs ∧ Below W.heap.size W w' := by
  obtain ⟨q, T, h1, h2, rfl⟩ := h
  have c0 := h1.cell (i := 0) rfl
  have H2 := Lib.hid h2
  clear h1 h2
  go_enter Try.func76, Try.ntmps76
  go_wp2_with fail
  go_ret
  have hb : Below W.heap.size W (W.alloc (.cells #[.pointer q] 28)) := (Below.refl _ W).alloc (Nat.le_refl _) _
  exact ⟨rfl, ⟨q, T, Blk.new W [.pointer q] 28, H2.out.below hb, rfl⟩, hb⟩

set_option maxHeartbeats 400000 in
theorem all_any (W : World) (q : Option Addr) :
    Calls Try.prog 87 #[.pointer q] W fun e w' => e = .returned (.func (.func 102) #[] #[.pointer (some ⟨W.heap.size, 0, none⟩)]) ∧ w' = W.alloc (.cells #[.pointer q] 129) := by
  go_enter Try.func87, Try.ntmps87
  go_wp2_with fail
  go_ret
  exact ⟨rfl, rfl⟩


end Go.Proofs.Ytmdacfgofilbdaa.TabB

/- table B: the nodes come, rising. -/
set_option linter.unusedSimpArgs false
set_option linter.unusedVariables false
namespace Go.Proofs.Ytmdacfgofilbdaa.TabB
open Go.RowKit Go.Proofs.Ytmdacfgofilbdaa.TabL
attribute [local go_sem] Oper.semAt_some

theorem roundAny {m m' : Nat} {P : Program} {l : Nat} {f : FuncId} {tmps : Array Value} {assign body : Code} {w : World} {R : Ending → World → Prop}
    (h : RoundIn Fence.wide m P l f tmps assign body w R) : RoundIn Fence.wide m' P l f tmps assign body w R := ⟨h.1, fun c cs _ => h.2 c cs (fun d h => by cases h)⟩
theorem yieldAny {m : Nat} (m' : Nat) {P : Program} {l : Nat} {args : Array Value} {W : World} {R : Ending → World → Prop} (h : YieldAt Fence.wide m P l args W R) : YieldAt Fence.wide m' P l args W R := by
  obtain ⟨fn, tmps, assign, body, hy, hR⟩ := h
  exact ⟨fn, tmps, assign, body, hy, roundAny hR⟩

section
variable (zs : List (Int × Int)) (d : Int × Int) (w0 : World) (l : Nat) (Rc JX : World → Prop) (Inv : Nat → World → Prop)
/-- what holds when k have come -/
def KI (k : Nat) (W : World) : Prop := KT 145 w0 W ∧ Inv k W ∧ Rc W

set_option maxRecDepth 100000 in
set_option maxHeartbeats 4000000 in
theorem rise_in (m : Nat) (hR : ∀ k A n, KI w0 Rc Inv k A → KI w0 Rc Inv k (A.drewN n))
    (hY : ∀ k W, k < zs.length → KI w0 Rc Inv k W → YieldAt Fence.wide m Try.prog l #[ek (zs.getD k d).1, ev (zs.getD k d).2] W fun e W' => (e = .returned (.bool true) ∧ KI w0 Rc Inv (k + 1) W') ∨ (e = .returned (.bool false) ∧ JX W')) :
    ∀ (t : Tr) (n : Nat) (p : Option Addr) (A B : List (Int × Int)) (W : World), T w0 p t → zs = A ++ t.toL ++ B → KI w0 Rc Inv A.length W →
      CallsIn Fence.wide n Try.prog 103 #[.pointer p, .pointer none, .func (.yield l) #[] #[]] W fun e W' => (e = .returned (.bool true) ∧ KI w0 Rc Inv (A.length + t.toL.length) W') ∨ (e = .returned (.bool false) ∧ JX W') := by
  intro t
  induction t with
  | leaf =>
    intro n p A B W hT hz hK
    obtain rfl : p = none := hT
    refine callsIn_of_wp Try.func103 rfl trivial ?_ rfl
    simp only [Try.ntmps103, List.size_toArray, List.length_cons, List.length_nil, Nat.reduceAdd, Nat.reduceSub, Array.replicate_succ, Array.replicate_zero, List.push_toArray, List.append_toArray, List.nil_append, List.cons_append]
    gi_wp2
    go_ret
    exact .inl ⟨rfl, by simpa [BT.toL] using hK⟩
  | node tl k0 v0 tr ihl ihr =>
    intro n p A B W hT hz hK
    obtain ⟨bn, pl, pr, rfl, hn, hl, hr⟩ := hT
    have e1 : zs = A ++ tl.toL ++ ((k0, v0) :: tr.toL ++ B) := by rw [hz]; simp [BT.toL]
    have e2 : zs = (A ++ tl.toL ++ [(k0, v0)]) ++ tr.toL ++ B := by rw [hz]; simp [BT.toL]
    have e3 : zs.getD (A.length + tl.toL.length) d = (k0, v0) := by rw [e1]; simp [List.getD]
    have e4 : A.length + tl.toL.length < zs.length := by rw [e1]; simp
    have e5 : (A ++ tl.toL ++ [(k0, v0)]).length = A.length + tl.toL.length + 1 := by simp only [List.length_append, List.length_singleton]
    have e6 : A.length + tl.toL.length + 1 + tr.toL.length = A.length + (BT.node tl k0 v0 tr).toL.length := by simp only [BT.toL, List.length_append, List.length_cons]; omega
    have cc : ∀ k W', KI w0 Rc Inv k W' → W'.cell? ⟨bn, 0, none⟩ = some (.int .i64 k0) ∧ W'.cell? ⟨bn, 1, none⟩ = some (.int .i64 v0) ∧ W'.cell? ⟨bn, 2, none⟩ = some (.pointer pl) ∧ W'.cell? ⟨bn, 3, none⟩ = some (.pointer pr) := fun k W' h => by
      have hb : Blk W' bn 145 _ := h.1.2 bn _ _ hn
      exact ⟨hb.cell (i := 0) rfl, hb.cell (i := 1) rfl, hb.cell (i := 2) rfl, hb.cell (i := 3) rfl⟩
    have I1 := fun W (h : KI w0 Rc Inv A.length W) => ihl (n - 1) pl A _ W hl e1 h
    have I2 := fun W (h : KI w0 Rc Inv (A.length + tl.toL.length + 1) W) => ihr (n - 1) pr _ B W hr e2 (by rw [e5]; exact h)
    have Y := fun W (h : KI w0 Rc Inv (A.length + tl.toL.length) W) => yieldAny (n - 1) (hY _ W e4 h)
    rw [e3] at Y
    rw [e5, e6] at I2
    unfold ek ev at Y
    have H1 := Lib.hid I1; have H2 := Lib.hid I2; have HY := Lib.hid Y; have HC := Lib.hid cc
    have HK := Lib.hid hK
    clear I1 I2 Y cc hY ihl ihr hz e1 e2 e3 e4 e5 e6 hl hr hn hK
    refine callsIn_of_wp Try.func103 rfl trivial ?_ rfl
    simp only [Try.ntmps103, List.size_toArray, List.length_cons, List.length_nil, Nat.reduceAdd, Nat.reduceSub, Array.replicate_succ, Array.replicate_zero, List.push_toArray, List.append_toArray, List.nil_append, List.cons_append]
    gi_wp2_with fail
    refine wpIn_wide.2 ?_
    go_quiet (fail)
    gi_wp2_with fail
    refine wpIn_region_any (by kernel_rfl) ?_
    change wpAnyIn _ _ _ _ _ _ _ _ _ (World.drew _)
    have HK1 : KI w0 Rc Inv A.length (World.drew (W.drewN nq)) := hR _ _ 1 (hR _ _ nq HK.out)
    obtain ⟨w1, hw1⟩ : ∃ w1, World.drew (W.drewN nq) = w1 := ⟨_, rfl⟩
    rw [hw1] at HK1 ⊢
    clear hw1
    obtain ⟨c0, c1, c2, c3⟩ := HC.out _ _ HK1
    have HK1 := Lib.hid HK1
    refine wpAnyIn_take (i := 0) (v := ?_) rfl rfl (by kernel_rfl) (by kernel_rfl) (by kernel_rfl) (fun _ _ _ h => h) ⟨Or.inl ⟨by rfl, ?_⟩, fun _ => rfl⟩ ?_
    rotate_left
    · (intro w; go_simp) <;> with_reducible rfl
    try go_simp
    refine wpAnyIn_take (i := 1) (v := ?_) rfl rfl (by kernel_rfl) (by kernel_rfl) (by kernel_rfl) (fun _ _ _ h => h) ⟨Or.inl ⟨by rfl, ?_⟩, fun _ => rfl⟩ ?_
    rotate_left
    · (intro w; go_simp) <;> with_reducible rfl
    try go_simp
    refine wpAnyIn_take (i := 2) (v := ?_) rfl rfl (by kernel_rfl) (by kernel_rfl) (by kernel_rfl) (fun _ _ _ h => h) ⟨Or.inl ⟨by rfl, ?_⟩, fun _ => rfl⟩ ?_
    rotate_left
    · (intro w; go_simp) <;> with_reducible rfl
    try go_simp
    refine wpAnyIn_take (i := 4) (v := ?_) rfl rfl (by kernel_rfl) (by kernel_rfl) (by kernel_rfl) (fun _ _ _ h => h) ⟨Or.inl ⟨by rfl, ?_⟩, fun _ => rfl⟩ ?_
    rotate_left
    · (intro w; go_simp) <;> with_reducible rfl
    try go_simp
    refine wpAnyIn_take (i := 5) (v := ?_) rfl rfl (by kernel_rfl) (by kernel_rfl) (by kernel_rfl) (fun _ _ _ h => h) ⟨Or.inl ⟨by rfl, ?_⟩, fun _ => rfl⟩ ?_
    rotate_left
    · (intro w; go_simp) <;> with_reducible rfl
    try go_simp
    refine wpAnyIn_ready (rs := [3]) (by kernel_rfl) (by simp) (AllReadyIn.cons rfl (fun K hK => ?_) AllReadyIn.nil)
    go_simp
    refine hK _ _ ?_
    clear hK K
    try go_simp
    refine wpAnyIn_ready (rs := [6]) (by kernel_rfl) (by simp) (AllReadyIn.cons rfl (fun K hK => ?_) AllReadyIn.nil)
    go_simp
    gi_wp2_with (refine ⟨trivial, (fun h => (by cases h)), ?_⟩; gi_at_call 103; refine (H1.out _ HK1.out).mono ?_; rintro e w2 (⟨rfl, HK2⟩ | ⟨rfl, hJ⟩))
    · clear c0 c1 c2 c3 HK1
      obtain ⟨c0, c1, c2, c3⟩ := HC.out _ _ HK2
      obtain ⟨fn, tmps, assign, body, hy, hRn⟩ := HY.out _ HK2
      clear HK2
      refine wpAnyIn_take (i := 7) (v := ?_) rfl rfl (by kernel_rfl) (by kernel_rfl) (by kernel_rfl) (fun _ _ _ h => h) ⟨Or.inl ⟨by rfl, ?_⟩, fun _ => rfl⟩ ?_
      rotate_left
      · (intro w; go_simp) <;> with_reducible rfl
      try go_simp
      refine wpAnyIn_take (i := 8) (v := ?_) rfl rfl (by kernel_rfl) (by kernel_rfl) (by kernel_rfl) (fun _ _ _ h => h) ⟨Or.inl ⟨by rfl, ?_⟩, fun _ => rfl⟩ ?_
      rotate_left
      · (intro w; go_simp) <;> with_reducible rfl
      try go_simp
      refine wpAnyIn_take (i := 9) (v := ?_) rfl rfl (by kernel_rfl) (by kernel_rfl) (by kernel_rfl) (fun _ _ _ h => h) ⟨Or.inl ⟨by rfl, ?_⟩, fun _ => rfl⟩ ?_
      rotate_left
      · (intro w; go_simp) <;> with_reducible rfl
      try go_simp
      refine wpAnyIn_take (i := 10) (v := ?_) rfl rfl (by kernel_rfl) (by kernel_rfl) (by kernel_rfl) (fun _ _ _ h => h) ⟨Or.inl ⟨by rfl, ?_⟩, fun _ => rfl⟩ ?_
      rotate_left
      · (intro w; go_simp) <;> with_reducible rfl
      try go_simp
      refine wpAnyIn_take (i := 11) (v := ?_) rfl rfl (by kernel_rfl) (by kernel_rfl) (by kernel_rfl) (fun _ _ _ h => h) ⟨Or.inl ⟨by rfl, ?_⟩, fun _ => rfl⟩ ?_
      rotate_left
      · (intro w; go_simp) <;> with_reducible rfl
      try go_simp
      refine wpAnyIn_take (i := 13) (v := ?_) rfl rfl (by kernel_rfl) (by kernel_rfl) (by kernel_rfl) (fun _ _ _ h => h) ⟨Or.inl ⟨by rfl, ?_⟩, fun _ => rfl⟩ ?_
      rotate_left
      · (intro w; go_simp) <;> with_reducible rfl
      try go_simp
      refine wpAnyIn_take (i := 14) (v := ?_) rfl rfl (by kernel_rfl) (by kernel_rfl) (by kernel_rfl) (fun _ _ _ h => h) ⟨Or.inl ⟨by rfl, ?_⟩, fun _ => rfl⟩ ?_
      rotate_left
      · (intro w; go_simp) <;> with_reducible rfl
      try go_simp
      refine wpAnyIn_take (i := 15) (v := ?_) rfl rfl (by kernel_rfl) (by kernel_rfl) (by kernel_rfl) (fun _ _ _ h => h) ⟨Or.inl ⟨by rfl, ?_⟩, fun _ => rfl⟩ ?_
      rotate_left
      · (intro w; go_simp) <;> with_reducible rfl
      try go_simp
      refine wpAnyIn_ready (rs := [12, 16]) (by kernel_rfl) (by simp) (AllReadyIn.cons rfl (fun K hK => ?_) (AllReadyIn.cons rfl (fun K hK => ?_) AllReadyIn.nil))
      all_goals
        go_simp
        refine hK _ _ ?_
        clear hK K
        try go_simp
      refine wpAnyIn_ready (rs := [16]) (by kernel_rfl) (by simp) (AllReadyIn.cons rfl (fun K hK => ?_) AllReadyIn.nil)
      go_simp
      refine hK _ _ ?_
      clear hK K
      try go_simp
      rotate_left
      refine wpAnyIn_ready (rs := [12]) (by kernel_rfl) (by simp) (AllReadyIn.cons rfl (fun K hK => ?_) AllReadyIn.nil)
      go_simp
      refine hK _ _ ?_
      clear hK K
      try go_simp
      all_goals
        refine wpAnyIn_ready (rs := [17]) (by kernel_rfl) (by simp) (AllReadyIn.cons rfl (fun K hK => ?_) AllReadyIn.nil)
        go_simp
        refine ⟨fun h => (by cases h), ?_⟩
        refine hRn.mono ?_
        clear hRn hy
        rintro e w3 (⟨rfl, HK3⟩ | ⟨rfl, hJ⟩)
        · refine hK _ _ ?_
          clear hK K c0 c1 c2 c3
          obtain ⟨c0, c1, c2, c3⟩ := HC.out _ _ HK3
          have HK3 := Lib.hid HK3
          try go_simp
          refine wpAnyIn_take (i := 18) (v := ?_) rfl rfl (by kernel_rfl) (by kernel_rfl) (by kernel_rfl) (fun _ _ _ h => h) ⟨Or.inl ⟨by rfl, ?_⟩, fun _ => rfl⟩ ?_
          rotate_left
          · (intro w; go_simp) <;> with_reducible rfl
          try go_simp
          refine wpAnyIn_take (i := 19) (v := ?_) rfl rfl (by kernel_rfl) (by kernel_rfl) (by kernel_rfl) (fun _ _ _ h => h) ⟨Or.inl ⟨by rfl, ?_⟩, fun _ => rfl⟩ ?_
          rotate_left
          · (intro w; go_simp) <;> with_reducible rfl
          try go_simp
          refine wpAnyIn_take (i := 20) (v := ?_) rfl rfl (by kernel_rfl) (by kernel_rfl) (by kernel_rfl) (fun _ _ _ h => h) ⟨Or.inl ⟨by rfl, ?_⟩, fun _ => rfl⟩ ?_
          rotate_left
          · (intro w; go_simp) <;> with_reducible rfl
          try go_simp
          refine wpAnyIn_take (i := 21) (v := ?_) rfl rfl (by kernel_rfl) (by kernel_rfl) (by kernel_rfl) (fun _ _ _ h => h) ⟨Or.inl ⟨by rfl, ?_⟩, fun _ => rfl⟩ ?_
          rotate_left
          · (intro w; go_simp) <;> with_reducible rfl
          try go_simp
          refine wpAnyIn_take (i := 22) (v := ?_) rfl rfl (by kernel_rfl) (by kernel_rfl) (by kernel_rfl) (fun _ _ _ h => h) ⟨Or.inl ⟨by rfl, ?_⟩, fun _ => rfl⟩ ?_
          rotate_left
          · (intro w; go_simp) <;> with_reducible rfl
          try go_simp
          refine wpAnyIn_take (i := 24) (v := ?_) rfl rfl (by kernel_rfl) (by kernel_rfl) (by kernel_rfl) (fun _ _ _ h => h) ⟨Or.inl ⟨by rfl, ?_⟩, fun _ => rfl⟩ ?_
          rotate_left
          · (intro w; go_simp) <;> with_reducible rfl
          try go_simp
          refine wpAnyIn_ready (rs := [23]) (by kernel_rfl) (by simp) (AllReadyIn.cons rfl (fun K hK => ?_) AllReadyIn.nil)
          go_simp
          refine hK _ _ ?_
          clear hK K
          try go_simp
          refine wpAnyIn_ready (rs := [25]) (by kernel_rfl) (by simp) (AllReadyIn.cons rfl (fun K hK => ?_) AllReadyIn.nil)
          go_simp
          gi_wp2_with (refine ⟨trivial, (fun h => (by cases h)), ?_⟩; gi_at_call 103; refine (H2.out _ HK3.out).mono ?_; rintro e w4 (⟨rfl, HK4⟩ | ⟨rfl, hJ⟩))
          all_goals
            refine wpAnyIn_take (i := 26) (v := ?_) rfl rfl (by kernel_rfl) (by kernel_rfl) (by kernel_rfl) (fun _ _ _ h => h) ⟨Or.inl ⟨by rfl, ?_⟩, fun _ => rfl⟩ ?_
            rotate_left
            · (intro w; go_simp) <;> with_reducible rfl
            try go_simp
            refine wpAnyIn_take (i := 27) (v := ?_) rfl rfl (by kernel_rfl) (by kernel_rfl) (by kernel_rfl) (fun _ _ _ h => h) ⟨Or.inl ⟨by rfl, ?_⟩, fun _ => rfl⟩ ?_
            rotate_left
            · (intro w; go_simp) <;> with_reducible rfl
            try go_simp
            refine wpAnyIn_done (by kernel_rfl) ?_ _
            gi_wp2_with fail
            go_ret
          · exact .inl ⟨rfl, HK4⟩
          · exact .inr ⟨rfl, hJ⟩
        · refine hK _ _ ?_
          clear hK K
          try go_simp
          refine wpAnyIn_take (i := 18) (v := ?_) rfl rfl (by kernel_rfl) (by kernel_rfl) (by kernel_rfl) (fun _ _ _ h => h) ⟨Or.inl ⟨by rfl, ?_⟩, fun _ => rfl⟩ ?_
          rotate_left
          · (intro w; go_simp) <;> with_reducible rfl
          try go_simp
          refine wpAnyIn_take (i := 19) (v := ?_) rfl rfl (by kernel_rfl) (by kernel_rfl) (by kernel_rfl) (fun _ _ _ h => h) ⟨Or.inl ⟨by rfl, ?_⟩, fun _ => rfl⟩ ?_
          rotate_left
          · (intro w; go_simp) <;> with_reducible rfl
          try go_simp
          refine wpAnyIn_take (i := 20) (v := undef) rfl rfl (by kernel_rfl) (by kernel_rfl) (by kernel_rfl) (fun _ _ _ h => h) ⟨Or.inr ⟨by rfl, rfl⟩, fun _ => rfl⟩ ?_
          try go_simp
          refine wpAnyIn_take (i := 21) (v := undef) rfl rfl (by kernel_rfl) (by kernel_rfl) (by kernel_rfl) (fun _ _ _ h => h) ⟨Or.inr ⟨by rfl, rfl⟩, fun _ => rfl⟩ ?_
          try go_simp
          refine wpAnyIn_take (i := 22) (v := undef) rfl rfl (by kernel_rfl) (by kernel_rfl) (by kernel_rfl) (fun _ _ _ h => h) ⟨Or.inr ⟨by rfl, rfl⟩, fun _ => rfl⟩ ?_
          try go_simp
          refine wpAnyIn_take (i := 23) (v := undef) rfl rfl (by kernel_rfl) (by kernel_rfl) (by kernel_rfl) (fun _ _ _ h => h) ⟨Or.inr ⟨by rfl, rfl⟩, fun _ => rfl⟩ ?_
          try go_simp
          refine wpAnyIn_take (i := 24) (v := undef) rfl rfl (by kernel_rfl) (by kernel_rfl) (by kernel_rfl) (fun _ _ _ h => h) ⟨Or.inr ⟨by rfl, rfl⟩, fun _ => rfl⟩ ?_
          try go_simp
          refine wpAnyIn_ready (rs := [25]) (by kernel_rfl) (by simp) (AllReadyIn.cons rfl (fun K hK => ?_) AllReadyIn.nil)
          refine Eq.mpr (if_neg (Bool.eq_false_iff.mp (by rfl))) ?_
          refine ⟨fun _ _ => trivial, hK _ _ ?_⟩
          clear hK K
          try go_simp
          refine wpAnyIn_take (i := 26) (v := ?_) rfl rfl (by kernel_rfl) (by kernel_rfl) (by kernel_rfl) (fun _ _ _ h => h) ⟨Or.inl ⟨by rfl, ?_⟩, fun _ => rfl⟩ ?_
          rotate_left
          · (intro w; go_simp) <;> with_reducible rfl
          try go_simp
          refine wpAnyIn_take (i := 27) (v := ?_) rfl rfl (by kernel_rfl) (by kernel_rfl) (by kernel_rfl) (fun _ _ _ h => h) ⟨Or.inl ⟨by rfl, ?_⟩, fun _ => rfl⟩ ?_
          rotate_left
          · (intro w; go_simp) <;> with_reducible rfl
          try go_simp
          refine wpAnyIn_done (by kernel_rfl) ?_ _
          gi_wp2_with fail
          go_ret
          exact .inr ⟨rfl, hJ⟩
    ·
      refine wpAnyIn_take (i := 7) (v := ?_) rfl rfl (by kernel_rfl) (by kernel_rfl) (by kernel_rfl) (fun _ _ _ h => h) ⟨Or.inl ⟨by rfl, ?_⟩, fun _ => rfl⟩ ?_
      rotate_left
      · (intro w; go_simp) <;> with_reducible rfl
      try go_simp
      refine wpAnyIn_take (i := 8) (v := undef) rfl rfl (by kernel_rfl) (by kernel_rfl) (by kernel_rfl) (fun _ _ _ h => h) ⟨Or.inr ⟨by rfl, rfl⟩, fun _ => rfl⟩ ?_
      try go_simp
      refine wpAnyIn_take (i := 9) (v := undef) rfl rfl (by kernel_rfl) (by kernel_rfl) (by kernel_rfl) (fun _ _ _ h => h) ⟨Or.inr ⟨by rfl, rfl⟩, fun _ => rfl⟩ ?_
      try go_simp
      refine wpAnyIn_take (i := 10) (v := undef) rfl rfl (by kernel_rfl) (by kernel_rfl) (by kernel_rfl) (fun _ _ _ h => h) ⟨Or.inr ⟨by rfl, rfl⟩, fun _ => rfl⟩ ?_
      try go_simp
      refine wpAnyIn_take (i := 11) (v := undef) rfl rfl (by kernel_rfl) (by kernel_rfl) (by kernel_rfl) (fun _ _ _ h => h) ⟨Or.inr ⟨by rfl, rfl⟩, fun _ => rfl⟩ ?_
      try go_simp
      refine wpAnyIn_take (i := 12) (v := undef) rfl rfl (by kernel_rfl) (by kernel_rfl) (by kernel_rfl) (fun _ _ _ h => h) ⟨Or.inr ⟨by rfl, rfl⟩, fun _ => rfl⟩ ?_
      try go_simp
      refine wpAnyIn_take (i := 13) (v := undef) rfl rfl (by kernel_rfl) (by kernel_rfl) (by kernel_rfl) (fun _ _ _ h => h) ⟨Or.inr ⟨by rfl, rfl⟩, fun _ => rfl⟩ ?_
      try go_simp
      refine wpAnyIn_take (i := 14) (v := undef) rfl rfl (by kernel_rfl) (by kernel_rfl) (by kernel_rfl) (fun _ _ _ h => h) ⟨Or.inr ⟨by rfl, rfl⟩, fun _ => rfl⟩ ?_
      try go_simp
      refine wpAnyIn_take (i := 15) (v := undef) rfl rfl (by kernel_rfl) (by kernel_rfl) (by kernel_rfl) (fun _ _ _ h => h) ⟨Or.inr ⟨by rfl, rfl⟩, fun _ => rfl⟩ ?_
      try go_simp
      refine wpAnyIn_take (i := 16) (v := undef) rfl rfl (by kernel_rfl) (by kernel_rfl) (by kernel_rfl) (fun _ _ _ h => h) ⟨Or.inr ⟨by rfl, rfl⟩, fun _ => rfl⟩ ?_
      try go_simp
      refine wpAnyIn_ready (rs := [17]) (by kernel_rfl) (by simp) (AllReadyIn.cons rfl (fun K hK => ?_) AllReadyIn.nil)
      refine Eq.mpr (if_neg (Bool.eq_false_iff.mp (by rfl))) ?_
      refine ⟨fun _ _ => trivial, hK _ _ ?_⟩
      clear hK K
      try go_simp
      refine wpAnyIn_take (i := 18) (v := ?_) rfl rfl (by kernel_rfl) (by kernel_rfl) (by kernel_rfl) (fun _ _ _ h => h) ⟨Or.inl ⟨by rfl, ?_⟩, fun _ => rfl⟩ ?_
      rotate_left
      · (intro w; go_simp) <;> with_reducible rfl
      try go_simp
      refine wpAnyIn_take (i := 19) (v := ?_) rfl rfl (by kernel_rfl) (by kernel_rfl) (by kernel_rfl) (fun _ _ _ h => h) ⟨Or.inl ⟨by rfl, ?_⟩, fun _ => rfl⟩ ?_
      rotate_left
      · (intro w; go_simp) <;> with_reducible rfl
      try go_simp
      refine wpAnyIn_take (i := 20) (v := undef) rfl rfl (by kernel_rfl) (by kernel_rfl) (by kernel_rfl) (fun _ _ _ h => h) ⟨Or.inr ⟨by rfl, rfl⟩, fun _ => rfl⟩ ?_
      try go_simp
      refine wpAnyIn_take (i := 21) (v := undef) rfl rfl (by kernel_rfl) (by kernel_rfl) (by kernel_rfl) (fun _ _ _ h => h) ⟨Or.inr ⟨by rfl, rfl⟩, fun _ => rfl⟩ ?_
      try go_simp
      refine wpAnyIn_take (i := 22) (v := undef) rfl rfl (by kernel_rfl) (by kernel_rfl) (by kernel_rfl) (fun _ _ _ h => h) ⟨Or.inr ⟨by rfl, rfl⟩, fun _ => rfl⟩ ?_
      try go_simp
      refine wpAnyIn_take (i := 23) (v := undef) rfl rfl (by kernel_rfl) (by kernel_rfl) (by kernel_rfl) (fun _ _ _ h => h) ⟨Or.inr ⟨by rfl, rfl⟩, fun _ => rfl⟩ ?_
      try go_simp
      refine wpAnyIn_take (i := 24) (v := undef) rfl rfl (by kernel_rfl) (by kernel_rfl) (by kernel_rfl) (fun _ _ _ h => h) ⟨Or.inr ⟨by rfl, rfl⟩, fun _ => rfl⟩ ?_
      try go_simp
      refine wpAnyIn_ready (rs := [25]) (by kernel_rfl) (by simp) (AllReadyIn.cons rfl (fun K hK => ?_) AllReadyIn.nil)
      refine Eq.mpr (if_neg (Bool.eq_false_iff.mp (by rfl))) ?_
      refine ⟨fun _ _ => trivial, hK _ _ ?_⟩
      clear hK K
      try go_simp
      refine wpAnyIn_take (i := 26) (v := ?_) rfl rfl (by kernel_rfl) (by kernel_rfl) (by kernel_rfl) (fun _ _ _ h => h) ⟨Or.inl ⟨by rfl, ?_⟩, fun _ => rfl⟩ ?_
      rotate_left
      · (intro w; go_simp) <;> with_reducible rfl
      try go_simp
      refine wpAnyIn_take (i := 27) (v := ?_) rfl rfl (by kernel_rfl) (by kernel_rfl) (by kernel_rfl) (fun _ _ _ h => h) ⟨Or.inl ⟨by rfl, ?_⟩, fun _ => rfl⟩ ?_
      rotate_left
      · (intro w; go_simp) <;> with_reducible rfl
      try go_simp
      refine wpAnyIn_done (by kernel_rfl) ?_ _
      gi_wp2_with fail
      go_ret
      exact .inr ⟨rfl, hJ⟩
end

end Go.Proofs.Ytmdacfgofilbdaa.TabB

/- table B: what goes over a table. -/
set_option linter.unusedSimpArgs false
set_option linter.unusedVariables false
namespace Go.Proofs.Ytmdacfgofilbdaa.TabB
open Go.RowKit Go.Proofs.Ytmdacfgofilbdaa.TabL
attribute [local go_sem] Oper.semAt_some

abbrev Pr := Int × Int
def d0 : Pr := (0, 0)
/-- all of zs come, in order, where St is at the beginning and N all the time -/
def Gives2 (G : Nat) (lb : Array Value) (St N : World → Prop) (zs : List Pr) : Prop :=
  (∀ args w, (callFunc G args).run Try.prog w = .ok (.enter G args) w) ∧
  ∀ (n : Nat) (Inv : Nat → World → Prop), (∀ k W, Inv k W → N W) → (∀ k W m, Inv k W → Inv k (W.drewN m)) →
    IterOk Fence.wide n Try.prog G lb (fun k : Nat => #[ek (zs.getD k d0).1, ev (zs.getD k d0).2]) (fun W => St W ∧ Inv 0 W) (fun k W => k < zs.length ∧ Inv k W) (fun k W => Inv (k + 1) W) (Inv zs.length)

theorem yieldMono {F : Fence} {m : Nat} {P : Program} {l : Nat} {args : Array Value} {W : World} {R R' : Ending → World → Prop} (h : YieldAt F m P l args W R) (f : ∀ e w, R e w → R' e w) : YieldAt F m P l args W R' := by
  obtain ⟨fn, tmps, assign, body, hy, hR⟩ := h
  exact ⟨fn, tmps, assign, body, hy, RoundIn.mono hR f⟩
theorem kt_drewN {t : TypeId} (W : World) (n : Nat) : KT t W (W.drewN n) := ⟨Nat.le_refl _, fun _ _ _ h => h⟩
theorem ko_drewN (W : World) (n : Nat) : KeepsOthers W (W.drewN n) := ⟨Nat.le_refl _, fun _ _ h _ => h⟩

set_option maxRecDepth 100000 in
set_option maxHeartbeats 4000000 in
theorem all_gives (w0 : World) (B p : Nat) (q : Option Addr) (T0 : Tr) (hT : T w0 q T0) :
    Gives2 102 #[.pointer (some ⟨B, 0, none⟩)] (fun W => W.cell? ⟨B, 0, none⟩ = some (.pointer (some ⟨p, 0, none⟩)) ∧ W.cell? ⟨p, 0, none⟩ = some (.pointer q)) (KT 145 w0) T0.toL := by
  refine ⟨enters_of Try.func102 (by kernel_rfl) rfl, fun n Inv hN hD => ?_⟩
  intro l Rc JX W1 hRc hJX hR0 hS0 hY
  obtain ⟨⟨c0, c1⟩, hI0⟩ := hS0
  have J := rise_in T0.toL d0 w0 l Rc JX Inv (n - 1) (fun k A m h => ⟨h.1.trans (kt_drewN A m), hD k A m h.2.1, hRc _ _ h.2.2 (ko_drewN A m)⟩)
    (fun k W hk h => yieldMono (hY k W ⟨hk, h.2.1⟩ h.2.2) (fun e W' h => h.elim (fun ⟨a, b, c⟩ => .inl ⟨a, hN _ _ b, b, c⟩) .inr)) T0 (n - 1) q [] [] W1 hT (by simp) ⟨hN _ _ hI0, hI0, hR0⟩
  have HJ := Lib.hid J
  clear J hY hI0 hR0 hRc hJX hN hD hT
  refine callsIn_of_wp Try.func102 rfl trivial ?_ rfl
  simp only [Try.ntmps102, List.size_toArray, List.length_cons, List.length_nil, Nat.reduceAdd, Nat.reduceSub, Array.replicate_succ, Array.replicate_zero, List.push_toArray, List.append_toArray, List.nil_append, List.cons_append]
  gi_wp2_with (refine ⟨trivial, (fun h => (by cases h)), ?_⟩; gi_at_call 103; refine HJ.out.mono ?_; rintro e w4 (⟨rfl, HK4⟩ | ⟨rfl, hJ⟩))
  · go_end0
    exact ⟨⟨_, rfl⟩, .inl ⟨by simpa using HK4.2.1, HK4.2.2⟩⟩
  · go_end0
    exact ⟨⟨_, rfl⟩, .inr hJ⟩

end Go.Proofs.Ytmdacfgofilbdaa.TabB
