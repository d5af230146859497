/- PriceClones: a clone goes its own way. -/
import Derived.Test.YtnlhgnioedalpaaPriR
import Derived.Test.YtnlhgnioedalpaaPriW
import Derived.Test.YtnlhgnioedalpaaPriceGrows
set_option linter.unusedSimpArgs false
set_option linter.unusedVariables false
namespace Go.Proofs.Ytnlhgnioedalpaa.Pri
open Go.RowKit Go.Proofs.YtnlhgnioedalpaaW.PrintWords Go.Proofs.Ytnlhgnioedalpaa.PPricePlays
attribute [local go_sem] Oper.semAt_some

theorem blk_ne {W : World} {a b : Nat} {t u : TypeId} {l m : List Value} (h : Blk W a t l) (k : Blk W b u m) (hn : t ≠ u) : a ≠ b := fun e => by
  subst e
  exact hn (h.inj k).1
/-- the result's cell and that of the number asked for -/
structure C0 (W : World) (mo : Int) (W' : World) : Prop where
  b5 : Blk W' W.heap.size 3 [.int .i64 mo]
  b6 : Blk W' (W.heap.size + 1) 4 [.bool false]
  bel : Below W.heap.size W W'
theorem C0.below {W : World} {mo : Int} {A B : World} (h : C0 W mo A) (hb : Below A.heap.size A B) : C0 W mo B := ⟨h.b5.belowS hb, h.b6.belowS hb, h.bel.trans (hb.mono h.bel.size)⟩
theorem C0.row {W : World} {mo : Int} {A B : World} (h : C0 W mo A) {row : Option Nat} (hg : A.grownBy B row) (hr : ∀ r, row = some r → W.heap.size ≤ r ∧ ∃ o : Obj, A.heap[r]? = some o ∧ o.isCells = false) : C0 W mo B :=
  have k : RowOk A row := fun r e => (hr r e).2
  ⟨blk_row1 h.b5 hg k, blk_row1 h.b6 hg k, h.bel.grown hg h.bel.size (fun r e => (hr r e).1)⟩
theorem C0.turn {W : World} {mo : Int} {A B : World} {q : Nat} {m : List En} (h : C0 W mo A) (hq : PR A q m) (hw : W.heap.size ≤ q) (hg : A.grownBy B (some q)) : C0 W mo B := by
  obtain ⟨v, hb, _⟩ := hq
  exact ⟨h.b5.kept hg (by have := blk_ne h.b5 hb (by decide); simpa using this), h.b6.kept hg (by have := blk_ne h.b6 hb (by decide); simpa using this), h.bel.grown hg h.bel.size (fun r e => by cases e; exact hw)⟩
/-- and the store, and what it was -/
structure CK (W : World) (p b8 : Nat) (v1 : Value) (P : List En) (mo : Int) (W' : World) : Prop where
  c : C0 W mo W'
  bw : Blk W' b8 tL [v1]
  lt : W.heap.size + 1 < b8
  p : SR W' p P
  v : PE W' v1 P
theorem CK.below {W : World} {p b8 : Nat} {v1 : Value} {P : List En} {mo : Int} {A B : World} (h : CK W p b8 v1 P mo A) (hb : Below A.heap.size A B) : CK W p b8 v1 P mo B :=
  ⟨h.c.below hb, h.bw.belowS hb, h.lt, h.p.below hb, h.v.below hb⟩
theorem CK.row {W : World} {p b8 : Nat} {v1 : Value} {P : List En} {mo : Int} {A B : World} (h : CK W p b8 v1 P mo A) {row : Option Nat} (hg : A.grownBy B row) (hr : ∀ r, row = some r → W.heap.size ≤ r ∧ ∃ o : Obj, A.heap[r]? = some o ∧ o.isCells = false) : CK W p b8 v1 P mo B :=
  have k : RowOk A row := fun r e => (hr r e).2
  ⟨h.c.row hg hr, blk_row1 h.bw hg k, h.lt, h.p.row hg k, h.v.row hg k⟩
theorem CK.turn {W : World} {p b8 q : Nat} {v1 : Value} {P m : List En} {mo : Int} {A B : World} (h : CK W p b8 v1 P mo A) (hq : SR A q m) (hw : W.heap.size ≤ q) (hne : p ≠ q) (hg : A.grownBy B (some q)) : CK W p b8 v1 P mo B := by
  have h2 := h.p.turn hq hne hg
  have h1 := h.c.turn hq.pr hw hg
  obtain ⟨u, hb, hpe⟩ := hq.pr
  obtain ⟨A2, c2, rfl, -⟩ := hpe
  exact ⟨h1, h.bw.kept hg (by have := blk_ne h.bw hb (by decide); simpa using this), h.lt, h2, h.v.turn hb hg⟩
theorem PE.one {W W' : World} {v : Value} {l : List En} {b : Nat} {t : TypeId} {x : Value} (h : PE W v l) (hb : Blk W b t [x]) (hx : ∀ z, x ≠ .int .u64 z) (hg : W.grownBy W' (some b)) : PE W' v l := by
  have hat := fun j q (hj : l[j]? = some q) => h.at hj
  obtain ⟨A, c, rfl, h1, h2, h3⟩ := h
  refine ⟨A, c, rfl, h1, h2, h3.1, h3.2.1, fun hpos => ?_⟩
  obtain ⟨a, rfl, hr⟩ := h3.2.2 hpos
  obtain ⟨b', off, c', e, hlt, r0, _⟩ := hat 0 _ (List.getElem?_eq_getElem (by simpa using hpos))
  injection e with e _ _
  injection e with e
  subst e
  have hne : b' ≠ b := fun e => by
    subst e
    have hrow := cell_of_row W b' (off + 0 * 2) [x].toArray t (0, 0) hb
    rw [hrow] at r0
    obtain ⟨o, ho⟩ : ∃ o, off + 0 * 2 = o := ⟨_, rfl⟩
    rw [ho] at r0
    cases o with
    | zero => exact hx _ (by simpa using r0)
    | succ o => simp at r0
  refine ⟨_, rfl, fun j q hq => ?_⟩
  obtain ⟨cs, hl, hk, hc⟩ := hr j q hq
  obtain rfl := k41_open hk
  refine ⟨_, hl, k41_mk W' q, fun i u hu => ?_⟩
  have hcu := hc i u hu
  rw [addr_add] at hcu ⊢
  have e : W'.cell? ⟨b', off + (j * k41.sz + i), none⟩ = W.cell? ⟨b', off + (j * k41.sz + i), none⟩ := by
    unfold World.cell?
    rw [hg.block _ hlt (by simpa using hne)]
  rw [e]; exact hcu
theorem SR.one {W W' : World} {p : Nat} {l : List En} {b : Nat} {t : TypeId} {x : Value} (h : SR W p l) (hb : Blk W b t [x]) (ht : tS ≠ t) (hx : ∀ z, x ≠ .int .u64 z) (hg : W.grownBy W' (some b)) : SR W' p l := by
  obtain ⟨v, kb, hpe⟩ := h.pr
  exact ⟨⟨v, kb.kept hg (by have := blk_ne kb hb ht; simpa using this), hpe.one hb hx hg⟩, h.ue, h.ti, h.len⟩
theorem CK.num {W : World} {p b8 : Nat} {v1 : Value} {P : List En} {mo : Int} {A : World} (h : CK W p b8 v1 P mo A) (m : Int) : CK W p b8 v1 P m (A.setCell ⟨W.heap.size, 0, none⟩ (.int .i64 m)) := by
  have hg := grownBy_setAt A W.heap.size 0 (.int .i64 m)
  have b5 := h.c.b5
  exact ⟨⟨b5.set 0 _, h.c.b6.other (p := ⟨W.heap.size, 0, none⟩) (by simp) _, h.c.bel.setCell (p := ⟨W.heap.size, 0, none⟩) (Nat.le_refl _) _⟩, h.bw.other (p := ⟨W.heap.size, 0, none⟩) (by have := h.lt; simp; omega) _, h.lt, h.p.one b5 (by decide) (by simp) hg, h.v.one b5 (by simp) hg⟩
/-- while entries go on: how many there were -/
def RI (w : World) (p : Nat) (x : Int) (W' : World) : Prop := Blk W' w.heap.size 3 [.int .i64 x] ∧ Blk W' (w.heap.size + 1) 25 [.pointer (some ⟨p, 0, none⟩)] ∧ Below w.heap.size w W'
theorem RI.ownF (w : World) (p : Nat) (x : Int) {b : Nat} (hb : w.heap.size ≤ b) : OwnFrom b (fun (_ : Unit) W' => RI w p x W') := fun s A B row hs hg hr => by
  have k : RowOk A row := fun r e => (hr r e).2
  exact ⟨blk_row1 hs.1 hg k, blk_row1 hs.2.1 hg k, hs.2.2.grown hg hs.2.2.size (fun r e => Nat.le_trans hb (hr r e).1)⟩
/-- a row of the call's own, of entries whose asks are numbers -/
def AR (W : World) (B : Nat) (A : Option Addr) (n : Nat) : Prop := n = 0 ∨ ∃ g L, A = some ⟨g, 0, none⟩ ∧ B ≤ g ∧ Blk W g tE L ∧ ∀ i, i < n → ∃ y, L[i * 2 + 1]? = some (.int .i64 y)
theorem AR.own {W : World} {B : Nat} {A : Option Addr} {c : Nat} {es : List En} (h : W.ownsRow B tE 2 (.slice A es.length c) es.length (cellsOf cE es)) : AR W B A es.length := by
  rcases h.2 with ⟨_, h0⟩ | ⟨g, cap, cur, e, hB, hg, _, _, _, ht⟩
  · exact .inl h0
  · injection e with e1 e2 e3
    refine .inr ⟨g, cur.toList, e1, hB, by unfold Blk; rw [Array.toArray_toList]; exact hg, fun i hi => ⟨(es.getD i dE).2, ?_⟩⟩
    have h1 := cellsOf_at cE_length es dE (i := i) (j := 1) hi (by omega)
    rw [← ht, List.getElem?_take, if_pos (by omega)] at h1
    rw [h1]; rfl
theorem AR.set {W : World} {B n i : Nat} {A : Option Addr} {g : Nat} (h : AR W B A n) (hA : A = some ⟨g, 0, none⟩) (hi : i < n) (y : Int) : AR (W.setCell ⟨g, i * 2 + 1, none⟩ (.int .i64 y)) B A n := by
  rcases h with h0 | ⟨g', L, e, hB, hb, hl⟩
  · omega
  · subst hA
    injection e with e
    injection e with e
    subst e
    refine .inr ⟨g, _, rfl, hB, hb.set (i * 2 + 1) _, fun j hj => ?_⟩
    rw [List.getElem?_set]
    by_cases hij : i * 2 + 1 = j * 2 + 1
    · obtain ⟨z, hz⟩ := hl i hi
      rw [if_pos hij, if_pos (List.getElem?_eq_some_iff.1 hz).1]
      exact ⟨y, rfl⟩
    · rw [if_neg hij]
      exact hl j hj
theorem AR.at {W : World} {B n i : Nat} {A : Option Addr} (h : AR W B A n) (hi : i < n) : ∃ g y, A = some ⟨g, 0, none⟩ ∧ B ≤ g ∧ g < W.heap.size ∧ W.cell? ⟨g, i * 2 + 1, none⟩ = some (.int .i64 y) ∧ W.frozen? ⟨g, i * 2 + 1, none⟩ = false := by
  rcases h with h0 | ⟨g, L, rfl, hB, hb, hl⟩
  · omega
  · obtain ⟨y, hy⟩ := hl i hi
    exact ⟨g, y, rfl, hB, hb.lt, hb.cell hy, hb.frozen _⟩
theorem results_cell1 {fn : Func} {p : Tmp} {ty : TypeId} (h : fn.results = #[.cell p ty]) (tmps : Array Value) (P : Program) (w : World) :
    (results fn tmps).run P w = ((asAddr (tmps.getD p undef)).run P w).andThen fun a w₁ => (loadVar ty a).run P w₁ := by
  simp only [results, h]
  simp [Sem.run_bind]

end Go.Proofs.Ytnlhgnioedalpaa.Pri
