/- MgI, HeapM9, MgA, MgH, laid together. -/
import Derived.Test.YtbhpokcnkdgcmaaGr01
import Derived.Test.YtbhpokcnkdgcmaaGr05
import Derived.Sort.LoopGhostIn
import Derived.Deep.RegionHeld3
import Derived.OrdersIn

/- a range over an iterator that ranges itself. -/

set_option linter.unusedSimpArgs false
set_option linter.unusedVariables false

namespace Go.Proofs.Ytbhpokcnkdgcmaa
open Go.RowKit

/-- blocks of cells of a type are kept -/
def KTy (t : TypeId) (W W' : World) : Prop := W.heap.size ≤ W'.heap.size ∧ ∀ (b : Nat) cs fr, W.heap[b]? = some (Obj.cells cs t fr) → W'.heap[b]? = some (Obj.cells cs t fr)
theorem KTy.refl (t : TypeId) (W : World) : KTy t W W := ⟨Nat.le_refl _, fun _ _ _ h => h⟩
theorem KTy.trans {t : TypeId} {A B C : World} (h : KTy t A B) (k : KTy t B C) : KTy t A C := ⟨Nat.le_trans h.1 k.1, fun b cs fr hb => k.2 b cs fr (h.2 b cs fr hb)⟩
theorem KTy.putObj {t : TypeId} {W : World} {l : Nat} {o : Obj} (o' : Obj) (hl : W.heap[l]? = some o) (ho : o.isCells = false) : KTy t W (W.putObj l o') :=
  ⟨by simp, fun b cs fr hb => (World.putObj_heap_other (fun e => by subst e; rw [hb] at hl; cases hl; simp [Obj.isCells] at ho)).trans hb⟩
theorem KTy.below {t : TypeId} {A B : World} (h : Below A.heap.size A B) : KTy t A B := ⟨h.size, fun b cs fr hb => (h.block b (Array.getElem?_eq_some_iff.1 hb).1).trans hb⟩
theorem KTy.blk {t : TypeId} {A B : World} (h : KTy t A B) {b : Nat} {l : List Value} (hb : Blk A b t l) : Blk B b t l := h.2 b _ _ hb

/-- what is no row of cells and lies ahead of N is kept -/
structure KU (N : Nat) (W W' : World) : Prop where
  size : W.heap.size ≤ W'.heap.size
  same : ∀ (k : Nat) (o : Obj), k < N → W.heap[k]? = some o → o.isCells = false → W'.heap[k]? = some o
theorem KU.refl (N : Nat) (W : World) : KU N W W := ⟨Nat.le_refl _, fun _ _ _ h _ => h⟩
theorem KU.trans {N : Nat} {A B C : World} (h : KU N A B) (k : KU N B C) : KU N A C := ⟨Nat.le_trans h.size k.size, fun i o hi ha ho => k.same i o hi (h.same i o hi ha ho) ho⟩
theorem KU.grown {N : Nat} {A B : World} {row : Option Nat} (hg : A.grownBy B row) (hr : ∀ r, row = some r → N ≤ r ∨ ∃ o : Obj, A.heap[r]? = some o ∧ o.isCells = true) : KU N A B :=
  ⟨hg.size, fun k o hk ha ho => (hg.block k (Array.getElem?_eq_some_iff.1 ha).1 (fun e => by
    rcases hr k e.symm with h | ⟨o', h1, h2⟩
    · omega
    · rw [ha] at h1; cases h1; rw [ho] at h2; cases h2)).trans ha⟩
theorem KU.others {N : Nat} {A B : World} (h : KeepsOthers A B) : KU N A B := ⟨h.size, fun k o _ ha ho => h.same k o ha ho⟩
theorem kf_up {B B' : Nat} {W W' : World} (h : KeepsFrom B W W') (hb : B ≤ B') : KeepsFrom B' W W' := ⟨h.size, fun k o hk hh ho => h.same k o (Nat.le_trans hb hk) hh ho⟩
/-- what each round keeps for the iterator: its walks' objects, and blocks of some types -/
def FY (N : Nat) (Ts : TypeId → Prop) (W W' : World) : Prop := KeepsFrom N W W' ∧ ∀ t, Ts t → KTy t W W'

/-- what a body owes at each of its ways out -/
def genPost3 (B : Nat) (Ts : TypeId → Prop) (Post : World → Prop) (Ix : Code → World → Prop) (W : World) : Exit → Act → World → Prop
  | .normal, _, W' => KeepsFrom B W W' ∧ (∀ t, Ts t → KTy t W W') ∧ Post W'
  | .ret, _, W' => KeepsFrom B W W' ∧ (∀ t, Ts t → KTy t W W') ∧ Ix .ret W'
  | .exit id, _, W' => KeepsFrom B W W' ∧ (∀ t, Ts t → KTy t W W') ∧ Ix (.exit id) W'
  | .goto t, _, W' => KeepsFrom B W W' ∧ (∀ t, Ts t → KTy t W W') ∧ Ix (.goto t) W'
  | .panic _, _, _ => False
  | .outgrown, _, _ => False

/-- what an iterator owes that may range itself -/
def IterOk3 (F : Fence) (n : Nat) (P : Program) (gf : Nat) (lb : Array Value) (Ts : TypeId → Prop) {α : Type} (encs : α → Array Value) (Start : World → Prop) (Pre Post : α → World → Prop) (Fin : World → Prop) : Prop :=
  ∀ (l : Nat) (Rc JX : World → Prop) (W1 : World), (∀ A A', Rc A → KU W1.heap.size A A' → Rc A') →
    (∀ A A' row, JX A → A.grownBy A' row → (∀ r, row = some r → W1.heap.size ≤ r ∧ ∃ o : Obj, A.heap[r]? = some o ∧ o.isCells = false) → JX A') → Rc W1 → Start W1 →
    (∀ x W, Pre x W → Rc W → W1.heap.size ≤ W.heap.size → YieldAt F (n - 1) P l (encs x) W fun e W' => FY W1.heap.size Ts W W' ∧ ((e = .returned (.bool true) ∧ Post x W' ∧ Rc W') ∨ (e = .returned (.bool false) ∧ JX W'))) →
    CallsIn F n P gf (#[.func (.yield l) #[] #[]] ++ lb) W1 fun e W' => (∃ v, e = .returned v) ∧ ((Fin W' ∧ Rc W') ∨ JX W')

section
variable {F : Fence} {n : Nat} {P : Program}

theorem range_gen3 {α : Type} {g : Operand} {ps : Array Tmp} {assign body : Code} {Q : Exit → Act → World → Prop} {a : Act} {w : World}
    (hro : F.round = none) (h1 : 1 ≤ n) {gf : Nat} {lb : Array Value} (hg : a.eval g = .func (.func gf) #[] lb) (hFg : F.fn gf) (eg : ∀ args w, (callFunc gf args).run P w = .ok (.enter gf args) w)
    {encs : α → Array Value} (hps : ∀ x, (encs x).size = ps.size)
    (Ts : TypeId → Prop) (Start : World → Prop) (Pre Post : α → World → Prop) (Ix : Code → World → Prop) (Fin : World → Prop) (Mid : α → Act → World → Prop)
    (sStart : OwnFrom w.heap.size (fun (_ : Unit) W => Start W)) (sPost : ∀ x, OwnFrom w.heap.size (fun (_ : Unit) W => Post x W)) (sIx : ∀ c, OwnFrom w.heap.size (fun (_ : Unit) W => Ix c W)) (sFin : OwnFrom w.heap.size (fun (_ : Unit) W => Fin W)) (sMid : ∀ x a', OwnFrom w.heap.size (fun (_ : Unit) W => Mid x a' W))
    (h0 : Start w) (hit : IterOk3 F (n - 1) P gf lb Ts encs Start Pre Post Fin)
    (hassign : ∀ (l : Nat) (x : α) (W : World) (K : Act → World → Prop), Pre x W → (∀ a' W', KeepsFrom w.heap.size W W' → (∀ t, Ts t → KTy t W W') → Mid x a' W' → K a' W') →
      assign.wpIn (F.inRound l) (n - 1 - 1) P (Exit.then K (fun _ _ _ => False)) { tmps := (ps.zip (encs x)).foldl (fun t (p, v) => t.setIfInBounds p v) a.tmps, defers := [] } W)
    (hbody : ∀ (l : Nat) (x : α) (a' : Act) (W : World), w.heap.size ≤ l → (∃ r, W.heap[l]? = some (.loop r)) → Mid x a' W → body.wpIn (F.inRound l) (n - 1 - 1) P (genPost3 w.heap.size Ts (Post x) Ix W) a' W)
    (hdone : ∀ (D : Nat) (W : World), w.heap.size ≤ D → Fin W → W.heap[D]? = some (.deferred (some [])) → Q .normal { a with defers := { target := .collected D, args := #[] } :: a.defers } W)
    (hstop : ∀ (D : Nat) (c : Code) (W : World), w.heap.size ≤ D → Ix c W → W.heap[D]? = some (.deferred (some [])) → c.wpIn F n P Q { a with defers := { target := .collected D, args := #[] } :: a.defers } W) :
    (Code.rangeFunc g ps assign body).wpIn F n P Q a w := by
  refine wpIn_rangeFunc ?_
  intro fn hfn
  rw [hro]
  obtain ⟨rec, hrec⟩ : ∃ rec : LoopState → Option Code → Loop, rec = fun st pe => { state := st, pending := pe, fn, tmps := a.tmps, params := ps, assign, body, defers := w.heap.size } := ⟨_, rfl⟩
  obtain ⟨W1, hW1⟩ : ∃ W1, (w.alloc (.deferred (some []))).alloc (.loop (rec .ready none)) = W1 := ⟨_, rfl⟩
  have hz1 : W1.heap.size = w.heap.size + 2 := by rw [← hW1]; simp
  have hL1 : W1.heap[w.heap.size + 1]? = some (.loop (rec .ready none)) := by
    rw [← hW1]; have := World.alloc_heap_new (w.alloc (.deferred (some []))) (.loop (rec .ready none)); rwa [World.size_alloc] at this
  have hK1 : W1.heap[w.heap.size]? = some (.deferred (some [])) := by
    rw [← hW1]; exact (Below.heap_alloc _ _ _ (by simp)).trans (World.alloc_heap_new w _)
  have hS1 : Start W1 := by rw [← hW1]; exact sStart.alloc (s := ()) _ (sStart.alloc (s := ()) _ h0)
  refine ⟨w.heap.size + 1, [{ target := .collected w.heap.size, args := #[] }], W1, { target := .fn (.func gf) lb, args := #[.func (.yield (w.heap.size + 1)) #[] #[]] }, W1, gf,
    #[.func (.yield (w.heap.size + 1)) #[] #[]] ++ lb, W1, ?_, ?_, ?_, ?_, fun _ => h1, ?_⟩
  · rw [← hW1, hrec]; exact run_enterLoop_outer _ _ _ _ _
  · simp only [resolve, hg]
    simp [go_sem]
  · intro f' hf'; simp [Target.leads] at hf'; subst hf'; exact hFg
  · simp [invoke, go_sem, eg]
  · have hRc := hit (w.heap.size + 1)
      (fun W => W.heap[w.heap.size + 1]? = some (.loop (rec .ready none)) ∧ W.heap[w.heap.size]? = some (.deferred (some [])))
      (fun W => ∃ c, Ix c W ∧ W.heap[w.heap.size + 1]? = some (.loop (rec .done (some c))) ∧ W.heap[w.heap.size]? = some (.deferred (some [])))
      W1 (fun A A' hA hk => ⟨hk.same _ _ (by omega) hA.1 rfl, hk.same _ _ (by omega) hA.2 rfl⟩)
      (fun A A' row hA hg' hr => by
        obtain ⟨c, hc, hl, hk⟩ := hA
        exact ⟨c, sIx c () A A' row hc hg' (fun r e => ⟨by have := (hr r e).1; omega, (hr r e).2⟩), (hg'.block _ (Array.getElem?_eq_some_iff.1 hl).1 (fun e => by have := (hr _ e.symm).1; omega)).trans hl, (hg'.block _ (Array.getElem?_eq_some_iff.1 hk).1 (fun e => by have := (hr _ e.symm).1; omega)).trans hk⟩)
      ⟨hL1, hK1⟩ hS1 ?_
    · refine hRc.mono ?_
      rintro e W2 ⟨⟨v, rfl⟩, (⟨hF, hl, hk⟩ | ⟨c, hi, hl, hk⟩)⟩
      · exact ⟨none, _, by have := run_endLoop (P := P) hl (by rw [hrec]; simp); rw [hrec] at this; exact this, hdone _ _ (Nat.le_refl _) (sFin.putObj (s := ()) _ hF (by omega) hl rfl) ((World.putObj_heap_other (by omega)).trans hk)⟩
      · exact ⟨some c, _, by have := run_endLoop (P := P) hl (by rw [hrec]; simp); rw [hrec] at this; exact this, hstop _ c _ (Nat.le_refl _) ((sIx c).putObj (s := ()) _ hi (by omega) hl rfl) ((World.putObj_heap_other (by omega)).trans hk)⟩
    · rintro x W hp ⟨hl, hk⟩ hWz
      have hy := run_yield (P := P) (args := encs x) hl (by rw [hrec]; exact hps x)
      rw [hrec] at hy
      refine ⟨fn, _, assign, body, hy, roundIn_of_wpIn hfn (hassign _ x W _ hp ?_)⟩
      clear hy
      intro a' Wa hkfa hkta hmid
      have hl0 := hl
      replace hl := hkfa.same _ _ (by omega) hl rfl
      replace hk := hkfa.same _ _ (Nat.le_refl _) hk rfl
      have hlt : w.heap.size + 1 < Wa.heap.size := (Array.getElem?_eq_some_iff.1 hl).1
      refine ⟨_, run_beginRound hl (by rw [hrec]), ?_⟩
      have hl2 : (Wa.putObj (w.heap.size + 1) (.loop { rec .ready none with state := .busy })).heap[w.heap.size + 1]? = some (.loop { rec .ready none with state := .busy }) := World.putObj_heap_same hlt
      have hk2 : (Wa.putObj (w.heap.size + 1) (.loop { rec .ready none with state := .busy })).heap[w.heap.size]? = some (.deferred (some [])) := (World.putObj_heap_other (by omega)).trans hk
      refine wpIn_mono (hbody _ x a' _ (by omega) ⟨_, hl2⟩ ((sMid x a').putObj (s := ()) _ hmid (by omega) hl rfl)) ?_
      have hla := hl
      have fy : ∀ (jump : Option Code) (W3 : World), KeepsFrom w.heap.size (Wa.putObj (w.heap.size + 1) (.loop { rec .ready none with state := .busy })) W3 → (∀ t, Ts t → KTy t (Wa.putObj (w.heap.size + 1) (.loop { rec .ready none with state := .busy })) W3) →
          FY W1.heap.size Ts W (W3.putObj (w.heap.size + 1) (.loop (rec (if jump.isNone then .ready else .done) jump))) := fun jump W3 hk3 ht3 => by
        have hl3 := hk3.same _ _ (by omega) hl2 rfl
        exact ⟨(((kf_up hkfa (by omega)).trans (KeepsFrom.of_grownBy (grownBy_putObj' _ _ _) (fun j e => by cases e; omega))).trans (kf_up hk3 (by omega))).trans (KeepsFrom.of_grownBy (grownBy_putObj' _ _ _) (fun j e => by cases e; omega)), fun t ht => (((hkta t ht).trans (KTy.putObj _ hla rfl)).trans (ht3 t ht)).trans (KTy.putObj _ hl3 rfl)⟩
      have fin : ∀ (jump : Option Code) (W3 : World), KeepsFrom w.heap.size (Wa.putObj (w.heap.size + 1) (.loop { rec .ready none with state := .busy })) W3 →
          (Instr.endRound (w.heap.size + 1) jump).run P W3 = .ok (.bool jump.isNone) (W3.putObj (w.heap.size + 1) (.loop (rec (if jump.isNone then .ready else .done) jump))) ∧
          W3.heap[w.heap.size + 1]? = some (.loop { rec .ready none with state := .busy }) ∧
          (W3.putObj (w.heap.size + 1) (.loop (rec (if jump.isNone then .ready else .done) jump))).heap[w.heap.size + 1]? = some (.loop (rec (if jump.isNone then .ready else .done) jump)) ∧
          (W3.putObj (w.heap.size + 1) (.loop (rec (if jump.isNone then .ready else .done) jump))).heap[w.heap.size]? = some (.deferred (some [])) := fun jump W3 hk3 => by
        have hl3 := hk3.same _ _ (by omega) hl2 rfl
        have := run_endRound (P := P) jump hl3
        rw [hrec] at this ⊢
        exact ⟨this, by rw [hrec] at hl3; exact hl3, World.putObj_heap_same (Array.getElem?_eq_some_iff.1 hl3).1, (World.putObj_heap_other (by omega)).trans (hk3.same _ _ (Nat.le_refl _) hk2 rfl)⟩
      rintro e a3 W3 hp3
      cases e with
      | normal =>
        obtain ⟨hk3, ht3, hi3⟩ := hp3
        obtain ⟨hr, hl3, hl4, hk4⟩ := fin none W3 hk3
        exact ⟨_, _, hr, fy none W3 hk3 ht3, .inl ⟨rfl, (sPost x).putObj (s := ()) _ hi3 (by omega) hl3 rfl, hl4, hk4⟩⟩
      | ret =>
        obtain ⟨hk3, ht3, hi3⟩ := hp3
        obtain ⟨hr, hl3, hl4, hk4⟩ := fin (some .ret) W3 hk3
        exact ⟨_, _, hr, fy (some .ret) W3 hk3 ht3, .inr ⟨rfl, .ret, (sIx _).putObj (s := ()) _ hi3 (by omega) hl3 rfl, hl4, hk4⟩⟩
      | exit id =>
        obtain ⟨hk3, ht3, hi3⟩ := hp3
        obtain ⟨hr, hl3, hl4, hk4⟩ := fin (some (.exit id)) W3 hk3
        exact ⟨_, _, hr, fy (some (.exit id)) W3 hk3 ht3, .inr ⟨rfl, .exit id, (sIx _).putObj (s := ()) _ hi3 (by omega) hl3 rfl, hl4, hk4⟩⟩
      | goto t =>
        obtain ⟨hk3, ht3, hi3⟩ := hp3
        obtain ⟨hr, hl3, hl4, hk4⟩ := fin (some (.goto t)) W3 hk3
        exact ⟨_, _, hr, fy (some (.goto t)) W3 hk3 ht3, .inr ⟨rfl, .goto t, (sIx _).putObj (s := ()) _ hi3 (by omega) hl3 rfl, hl4, hk4⟩⟩
      | panic ch => exact hp3.elim
      | outgrown => exact hp3.elim
end

end Go.Proofs.Ytbhpokcnkdgcmaa


namespace Go.Proofs.Ytbhpokcnkdgcmaa.Pri
open Go.RowKit
theorem roundAny {m m' : Nat} {P : Program} {l : Nat} {f : FuncId} {tmps : Array Value} {assign body : Code} {w : World} {R : Ending → World → Prop}
    (h : RoundIn Fence.wide m P l f tmps assign body w R) : RoundIn Fence.wide m' P l f tmps assign body w R := ⟨h.1, fun c cs _ => h.2 c cs (fun d h => by cases h)⟩
theorem yieldAny {m : Nat} (m' : Nat) {P : Program} {l : Nat} {args : Array Value} {W : World} {R : Ending → World → Prop} (h : YieldAt Fence.wide m P l args W R) : YieldAt Fence.wide m' P l args W R := by
  obtain ⟨fn, tmps, assign, body, hy, hR⟩ := h
  exact ⟨fn, tmps, assign, body, hy, roundAny hR⟩

end Go.Proofs.Ytbhpokcnkdgcmaa.Pri

/- heap M: it is drained. -/
set_option linter.unusedSimpArgs false
set_option linter.unusedVariables false
namespace Go.Proofs.Ytbhpokcnkdgcmaa.HeapM
open Go.RowKit Go.Shelf Go.Proofs.Ytbhpokcnkdgcmaa.HeapL
attribute [local go_sem] Oper.semAt_some

set_option maxHeartbeats 400000 in
theorem drain_any (W : World) (q : Option Addr) :
    Calls Try.prog 111 #[.pointer q] W fun e w' => e = .returned (.func (.func 124) #[] #[.pointer (some ⟨W.heap.size, 0, none⟩)]) ∧ w' = W.alloc (.cells #[.pointer q] 140) := by
  go_enter Try.func111, Try.ntmps111
  go_wp2_with fail
  go_ret
  exact ⟨rfl, rfl⟩

/-- a station of the draining: how many rounds at most are to come, the thing that is handed out, what is left -/
abbrev Gh := Nat × (Int × Int × Int × Option Addr × Nat × Nat) × List (Int × Int × Int × Option Addr × Nat × Nat)

set_option maxRecDepth 100000 in
set_option maxHeartbeats 4000000 in
theorem drain_iter (lt : (Int × Int × Int × Option Addr × Nat × Nat) → (Int × Int × Int × Option Addr × Nat × Nat) → Bool) (ho : Ord lt) (base p Fb B : Nat) (lb : Array Value) (n : Nat) (Inv : Nat → List (Int × Int × Int × Option Addr × Nat × Nat) → World → Prop) (Mid : Gh → World → Prop) (Fin : World → Prop)
    (hInv : ∀ m xs W, Inv m xs W → (∃ T, HS W base p lt Fb lb xs T) ∧ BF lt base p W Fb lb ∧ xs.length < 1099511627776 ∧ Boxed W B 140 (.pointer (some ⟨p, 0, none⟩)))
    (hmid : ∀ m x xs W W', Inv m (x :: xs) W → Fr base p 160 W W' → (∀ T, HS W base p lt Fb lb (x :: xs) T → HS W' base p lt Fb lb xs T) → Mid (m, x, xs) W')
    (hend : ∀ m W W', Inv m [] W → Below W.heap.size W W' → Fin W') :
    IterOk Fence.wide n Try.prog 124 #[.pointer (some ⟨B, 0, none⟩)] (fun (g : Gh) => #[ev g.2.1]) (fun W => ∃ m xs, Inv m xs W) Mid (fun g W => ∃ m' xs', m' < g.1 ∧ Inv m' xs' W) Fin := by
  intro l Rc JX W1 hRc hJX hR0 hS0 hY
  obtain ⟨m0, xs0, hI0⟩ := hS0
  refine callsIn_of_wp Try.func124 rfl trivial ?_ rfl
  simp only [Try.ntmps124, List.size_toArray, List.length_cons, List.length_nil, Nat.reduceAdd, Nat.reduceSub, Array.replicate_succ, Array.replicate_zero, List.push_toArray, List.append_toArray, List.nil_append, List.cons_append]
  gi_wp2_with fail
  gi_loopg [] m0 (fun m wr => Rc wr ∧ ∃ xs, Inv m xs wr)
  case atStart => exact ⟨hR0, xs0, hI0⟩
  case round =>
    obtain ⟨hR, xs, hI⟩ := hrel
    obtain ⟨⟨T, hS⟩, hB, hsm, hbx⟩ := hInv _ _ _ hI
    have cb := hbx.cell
    have hlt := hS.lt'
    cases xs with
    | nil =>
      gi_wp2_with (refine ⟨trivial, (fun h => (by cases h)), ?_⟩; gi_at_call 125; refine CallsIn.mono (callsIn_wide.2 (pop_hs_nil lt _ base p Fb lb T hS)) ?_; rintro e w2 ⟨rfl, hb⟩; unfold ev)
      refine ⟨fun _ h => (by cases h), ?_⟩
      gi_wp2
      refine bodyPost_ret (results_none rfl _ _ _) rfl ?_
      exact ⟨⟨_, rfl⟩, .inl ⟨hend _ _ _ hI (hb.trans (((Below.refl _ w2).alloc (Nat.le_refl _) _).mono hb.size)), hRc _ _ hR (KeepsOthers.trans (belowOthers hb) (KeepsOthers.alloc _ _))⟩⟩
    | cons x xs =>
      simp only [List.length_cons] at hsm
      obtain ⟨es0, _, hM0⟩ := hS.length
      obtain ⟨_, vv, hPb, _⟩ := hM0
      obtain ⟨⟨kx, vx, lix, sAx, snx, scx⟩, rfl⟩ : ∃ y, y = x := ⟨_, rfl⟩
      have hbs := hS.lt'
      gi_wp2_with (refine ⟨trivial, (fun h => (by cases h)), ?_⟩; gi_at_call 125; refine CallsIn.mono (callsIn_wide.2 (pop_hs_cons lt ho _ base p Fb lb (kx, vx, lix, sAx, snx, scx) xs T (by omega) hS hB)) ?_; rintro e w2 ⟨rfl, hS2, hF2⟩; have hz2 := hF2.size; have hF3 := hF2.alloc (by omega) (.cells #[.int .i64 kx, .int .i64 vx, .int .i64 lix, .slice sAx snx scx] 143); have hMd := hmid gk (kx, vx, lix, sAx, snx, scx) xs wr _ hI hF3 (fun T' hS' => (by rw [← hS.turn hS']; exact hS2.below ((Below.refl _ w2).alloc (Nat.le_refl _) _))); have hR3 := hRc _ _ hR (hF3.others hPb); obtain ⟨fn, tmps, assign, body, hy, hRn⟩ := hY (gk, (kx, vx, lix, sAx, snx, scx), xs) _ hMd hR3; dsimp only [ev] at hy; unfold ev)
      refine ⟨fun h => (by cases h), ?_⟩
      refine hRn.mono ?_
      rintro e W3 (⟨rfl, ⟨m', xs', hlt', hI'⟩, hR'⟩ | ⟨rfl, hJ⟩)
      · gi_wp2
        gi_roundg m'
        case rel => exact ⟨hR', xs', hI'⟩
        case measure => exact hlt'
      · gi_wp2
        refine bodyPost_ret (results_none rfl _ _ _) rfl ?_
        exact ⟨⟨_, rfl⟩, .inr hJ⟩

end Go.Proofs.Ytbhpokcnkdgcmaa.HeapM

/- heap: which head stands first. -/
set_option linter.unusedSimpArgs false
set_option linter.unusedVariables false
namespace Go.Proofs.Ytbhpokcnkdgcmaa.HeapM
open Go.RowKit Go.Shelf Go.Proofs.Ytbhpokcnkdgcmaa.HeapL
attribute [local go_sem] Oper.semAt_some

abbrev tBf : TypeId := 38
abbrev tMt : TypeId := 143
abbrev tMH : TypeId := 158
abbrev tME : TypeId := 160
abbrev tMP : TypeId := 140
theorem before_c (W : World) (a b c d : Int) (r : Bool) (hr : decide (a < c) = r) : Calls Try.prog 31 #[.agg #[.int .i64 a, .int .i64 b], .agg #[.int .i64 c, .int .i64 d]] W fun e w' => e = .returned (.bool r) ∧ Below W.heap.size W w' := by
  subst hr
  go_enter Try.func31, Try.ntmps31
  go_wp2_with fail
  go_ret
  exact ⟨rfl, ((Below.refl _ W).alloc (Nat.le_refl _) _).alloc (by simp) _⟩
set_option maxRecDepth 100000 in
set_option maxHeartbeats 2000000 in
theorem bfm (b p : Nat) (W : World) (Bx : Nat) (hp : Bx ≠ p) (hx : Blk W Bx tBf [.func (.func 31) #[] #[]]) : BF ltM b p W 109 #[.pointer (some ⟨Bx, 0, none⟩)] := by
  refine ⟨enters_of Try.func109 (by kernel_rfl) rfl, fun x y W' hF => ?_⟩
  have hx' := hF.blk hx hp (by decide)
  obtain ⟨k1, v1, l1, A1, n1, c1⟩ := x
  obtain ⟨k2, v2, l2, A2, n2, c2⟩ := y
  obtain ⟨R, hR⟩ : ∃ R, ltM (k1, v1, l1, A1, n1, c1) (k2, v2, l2, A2, n2, c2) = R := ⟨_, rfl⟩
  rw [hR]
  have hR2 : R = (decide (k1 < k2) || (!decide (k2 < k1) && decide (l1 < l2))) := hR.symm
  have eg : ∀ args w, (callFunc 31 args).run Try.prog w = .ok (.enter 31 args) w := enters_of Try.func31 (by kernel_rfl) rfl
  have HX := Lib.hid hx'; have HR := Lib.hid hR2
  clear hR hR2 hF hx hx'
  show Calls Try.prog 109 #[.agg #[.int .i64 k1, .int .i64 v1, .int .i64 l1, .slice A1 n1 c1], .agg #[.int .i64 k2, .int .i64 v2, .int .i64 l2, .slice A2 n2 c2], .pointer (some ⟨Bx, 0, none⟩)] W' _
  have hal : Below W'.heap.size W' ((W'.alloc (.cells #[.int .i64 k1, .int .i64 v1, .int .i64 l1, .slice A1 n1 c1] tMt)).alloc (.cells #[.int .i64 k2, .int .i64 v2, .int .i64 l2, .slice A2 n2 c2] tMt)) := bel_alloc2 W' _ _
  have ba := (Blk.new W' [.int .i64 k1, .int .i64 v1, .int .i64 l1, .slice A1 n1 c1] tMt).alloc (.cells #[.int .i64 k2, .int .i64 v2, .int .i64 l2, .slice A2 n2 c2] tMt)
  have bb := Blk.new2 W' (.cells #[.int .i64 k1, .int .i64 v1, .int .i64 l1, .slice A1 n1 c1] tMt) [.int .i64 k2, .int .i64 v2, .int .i64 l2, .slice A2 n2 c2] tMt
  have cx := HX.out.cell (i := 0) rfl
  have cxl := HX.out.lt
  have cxa := ((HX.out.alloc (.cells #[.int .i64 k1, .int .i64 v1, .int .i64 l1, .slice A1 n1 c1] tMt)).alloc (.cells #[.int .i64 k2, .int .i64 v2, .int .i64 l2, .slice A2 n2 c2] tMt)).cell (i := 0) rfl
  have HAL := Lib.hid hal; have HA := Lib.hid ba; have HBB := Lib.hid bb
  clear hal ba bb
  obtain ⟨r12, h12⟩ : ∃ r, decide (k1 < k2) = r := ⟨_, rfl⟩
  obtain ⟨r21, h21⟩ : ∃ r, decide (k2 < k1) = r := ⟨_, rfl⟩
  have hR3 := HR.out
  rw [h12, h21] at hR3
  have HR3 := Lib.hid hR3; have H12 := Lib.hid h12; have H21 := Lib.hid h21
  clear hR3 h12 h21 HR
  go_enter Try.func109, Try.ntmps109
  go_wp2_with fail
  refine (before_c _ k1 v1 k2 v2 r12 H12.out).mono ?_; rintro e w1 ⟨rfl, hb1⟩
  have HB1 := Lib.hid (HAL.out.trans (hb1.mono HAL.out.size)); have HA1 := Lib.hid (HA.out.belowS hb1); have HBB1 := Lib.hid (HBB.out.belowS hb1)
  have cx1 := (HX.out.belowS HB1.out).cell (i := 0) rfl
  have a0 := HA1.out.cell (i := 0) rfl
  have a1 := HA1.out.cell (i := 1) rfl
  have a2 := HA1.out.cell (i := 2) rfl
  have b0 := HBB1.out.cell (i := 0) rfl
  have b1 := HBB1.out.cell (i := 1) rfl
  have b2 := HBB1.out.cell (i := 2) rfl
  clear hb1 cx cxa
  cases r12 with
  | true =>
    go_wp2_with fail
    go_ret
    exact ⟨by rw [HR3.out]; rfl, HB1.out⟩
  | false =>
    go_wp2_with fail
    refine (before_c _ k2 v2 k1 v1 r21 H21.out).mono ?_; rintro e w2 ⟨rfl, hb2⟩
    have HB2 := Lib.hid (HB1.out.trans (hb2.mono HB1.out.size))
    have a2' := (HA1.out.belowS hb2).cell (i := 2) rfl
    have b2' := (HBB1.out.belowS hb2).cell (i := 2) rfl
    clear hb2 a0 a1 a2 b0 b1 b2 cx1
    cases r21 with
    | true =>
      go_wp2_with fail
      go_ret
      exact ⟨by rw [HR3.out]; rfl, HB2.out⟩
    | false =>
      go_wp2_with fail
      go_ret
      exact ⟨by rw [HR3.out]; simp, HB2.out⟩
end Go.Proofs.Ytbhpokcnkdgcmaa.HeapM

/- a region that draws, within a round: the walk under a condition on the world. -/
set_option linter.unusedSimpArgs false
set_option linter.unusedVariables false
namespace Go.Proofs.Ytbhpokcnkdgcmaa

section
variable {F : Fence} {n : Nat} {P : Program} {ops : Array Oper} {Q : Exit → Act → World → Prop} {md : Region.Mode}
def noDefer (ops : Array Oper) : Bool := ops.all (fun o => match o.op with | .defer _ => false | _ => true)
theorem wpOpIn_inRound (l : Nat) (hro : F.round = none) (hnd : noDefer ops = true) {i : Nat} {K : Act → World → Prop} {a : Act} {w : World} (h : wpOpIn F n P ops Q i K a w) : wpOpIn (F.inRound l) n P ops Q i K a w := by
  unfold wpOpIn at *
  cases ho : ops[i]? with
  | none => simpa [ho] using h
  | some o =>
    have hd : ∀ c, o.op ≠ .defer c := fun c e => by
      have h1 := Array.all_eq_true.1 hnd i (Array.getElem?_eq_some_iff.1 ho).1
      rw [(Array.getElem?_eq_some_iff.1 ho).2, e] at h1
      simp at h1
    simp only [ho] at h ⊢
    split
    · rename_i hw
      rw [if_pos hw] at h
      unfold Oper.wpIn at *
      rw [hro, Oper.semAt_none] at h
      rw [show (F.inRound l).round = some l from rfl, Oper.semAt_some l _ _ hd]
      exact h
    · rename_i hw
      rw [if_neg hw] at h
      exact h
/-- a region within a round goes as anywhere -/
theorem wpAnyIn_inRound (l : Nat) (hro : F.round = none) (hnd : noDefer ops = true) : ∀ {fuel : Nat} {listed : Array Bool} {a : Act} {w : World}, wpAnyIn F n P md ops Q fuel listed a w → wpAnyIn (F.inRound l) n P md ops Q fuel listed a w
  | 0, _, _, _, h => h
  | fuel + 1, _, _, _, h => ⟨h.1, fun i hi => wpOpIn_inRound l hro hnd (wpOpIn_mono (fun a w => wpAnyIn_inRound l hro hnd) (h.2 i hi))⟩
theorem rows_wide {m : Nat} {row : String} {args : Array Value} {w : World} {R : Value → World → Prop} (h : Rows P row args w R) : RowsIn Fence.wide m P row args w R := fun c cs _ => by
  obtain ⟨v, w', r, s⟩ := h c cs
  exact ⟨v, w', r, stepsIn_wide.2 s⟩
theorem oper_wide {o : Oper} {a : Act} {w : World} {K : Act → World → Prop} (h : o.wp P a w K Q) : o.wpIn Fence.wide n P a w K Q := by
  unfold Oper.wp at h
  unfold Oper.wpIn
  refine ⟨fun _ _ => trivial, ?_⟩
  rw [show Fence.wide.round = none from rfl, Oper.semAt_none]
  generalize (execOp a.eval o).run P w = r at *
  cases r with
  | ok x w' =>
    cases x <;> simp only [Oper.upon, Oper.uponIn] at h ⊢ <;>
      first
        | exact h
        | exact ⟨fun e => (by cases e), callsIn_wide.2 h⟩
        | exact ⟨fun e => (by cases e), rows_wide h⟩
  | halt x w' => cases x <;> simp only [Oper.upon, Oper.uponIn] at h ⊢ <;> exact h
theorem wpOp_wide (hq : ¬ LetsOut Q) {i : Nat} {K : Act → World → Prop} {a : Act} {w : World} (h : wpOp P ops Q i K a w) : wpOpIn Fence.wide n P ops Q i K a w := by
  unfold wpOp at h
  unfold wpOpIn
  cases ho : ops[i]? with
  | none => simpa [ho] using h
  | some o =>
    simp only [ho] at h ⊢
    split
    · rename_i hw
      rw [if_pos hw] at h
      rcases h with h | h
      · exact oper_wide h
      · exact absurd h.2 hq
    · rename_i hw
      rw [if_neg hw] at h
      exact ⟨fun _ _ => trivial, h⟩
theorem wpAny_wide (hq : ¬ LetsOut Q) : ∀ {fuel : Nat} {listed : Array Bool} {a : Act} {w : World}, wpAny P md ops Q fuel listed a w → wpAnyIn Fence.wide n P md ops Q fuel listed a w
  | 0, _, _, _, h => h
  | fuel + 1, _, _, _, h => ⟨h.1, fun i hi => wpOpIn_mono (fun a w => wpAny_wide hq) (wpOp_wide hq (h.2 i hi))⟩
/-- a region that draws, within a round, under a condition on the world -/
theorem wpIn_held_round {S : World → Prop} (l : Nat) {id : Nat} {a : Act} {w : World} (hm : P.follows .mixedOrders = true) (hnd : noDefer ops = true) (hq : ¬ LetsOut Q) (hS : S w.drew)
    (h : S w.drew → wpAnyH P .any ops Q S ops.size (Array.replicate ops.size false) a w.drew) : (Code.region id ops true).wpIn (Fence.wide.inRound l) n P Q a w :=
  wpIn_region_any hm (wpAnyIn_inRound l rfl hnd (wpAny_wide hq (wpAny_of_held _ _ _ _ (h hS))))
end
end Go.Proofs.Ytbhpokcnkdgcmaa
