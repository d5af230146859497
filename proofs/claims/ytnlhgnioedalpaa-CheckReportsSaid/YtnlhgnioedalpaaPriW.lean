/- price: Less, Merge. -/
import Derived.Test.YtnlhgnioedalpaaPriV
set_option linter.unusedSimpArgs false
set_option linter.unusedVariables false
namespace Go.Proofs.Ytnlhgnioedalpaa.Pri
open Go.RowKit Go.Proofs.YtnlhgnioedalpaaW.PrintWords Go.Proofs.Ytnlhgnioedalpaa.PPricePlays
attribute [local go_sem] Oper.semAt_some

/-- a step that turns one thing that is no cell -/
abbrev RowOk (A : World) (row : Option Nat) : Prop := ∀ r, row = some r → ∃ o : Obj, A.heap[r]? = some o ∧ o.isCells = false
theorem blk_row1 {A B : World} {b : Nat} {t : TypeId} {l : List Value} (h : Blk A b t l) {row : Option Nat} (hg : A.grownBy B row) (hr : RowOk A row) : Blk B b t l :=
  h.kept hg (fun e => by
    obtain ⟨o, ho, hc⟩ := hr b e.symm
    have hs' : A.heap[b]? = _ := h
    rw [hs'] at ho
    cases ho
    simp [Obj.isCells] at hc)
theorem PE.row {A B : World} {row : Option Nat} {v : Value} {l : List En} (h : PE A v l) (hg : A.grownBy B row) (hr : RowOk A row) : PE B v l := by
  obtain ⟨a, c, rfl, h1, h2, h3⟩ := h
  refine ⟨a, c, rfl, h1, h2, h3.1, h3.2.1, fun hpos => ?_⟩
  obtain ⟨a, rfl, hq⟩ := h3.2.2 hpos
  refine ⟨a, rfl, fun j x hx => ?_⟩
  obtain ⟨cs, hl, hk, hc⟩ := hq j x hx
  obtain rfl := k41_open hk
  refine ⟨_, hl, k41_mk B x, fun i u hu => ?_⟩
  have hcu := hc i u hu
  have hsp := cell_spot hcu
  rw [hsp.1] at hcu ⊢
  have e : B.cell? ⟨(a.add (j * k41.sz + i)).block, (a.add (j * k41.sz + i)).off, none⟩ = A.cell? ⟨(a.add (j * k41.sz + i)).block, (a.add (j * k41.sz + i)).off, none⟩ := by
    unfold World.cell?
    rw [hg.block _ hsp.2 (fun e => ?_)]
    obtain ⟨o, ho, hcell⟩ := hr _ e.symm
    simp only [World.cell?, ho] at hcu
    cases o with
    | cells => simp [Obj.isCells] at hcell
    | _ => simp at hcu
  rw [e]; exact hcu
theorem PR.row {A B : World} {row : Option Nat} {p : Nat} {l : List En} (h : PR A p l) (hg : A.grownBy B row) (hr : RowOk A row) : PR B p l := by
  obtain ⟨v, h1, h2⟩ := h
  exact ⟨v, blk_row1 h1 hg hr, h2.row hg hr⟩
theorem SR.row {A B : World} {row : Option Nat} {p : Nat} {l : List En} (h : SR A p l) (hg : A.grownBy B row) (hr : RowOk A row) : SR B p l := ⟨h.pr.row hg hr, h.ue, h.ti, h.len⟩
theorem SR.alloc {A : World} {p : Nat} {l : List En} (h : SR A p l) (o : Obj) : SR (A.alloc o) p l := h.below ((Below.refl _ A).alloc (Nat.le_refl _) o)

def mk (D : Nat) : Deferred := { target := .collected D, args := #[] }
/-- the marks of ranges that are over -/
def Marks (lo hi : Nat) (ds : List Deferred) (W : World) : Prop := ∃ Ds : List Nat, ds = Ds.map mk ∧ Ds.Nodup ∧ ∀ D ∈ Ds, (lo ≤ D ∧ D < hi) ∧ W.heap[D]? = some (.deferred (some []))
theorem Marks.nil (lo hi : Nat) (W : World) : Marks lo hi [] W := ⟨[], rfl, List.nodup_nil, by simp⟩
theorem Marks.up {lo hi hi' : Nat} {ds : List Deferred} {W : World} (h : Marks lo hi ds W) (hh : hi ≤ hi') : Marks lo hi' ds W := by
  obtain ⟨Ds, h1, h2, h3⟩ := h
  exact ⟨Ds, h1, h2, fun D hD => ⟨⟨(h3 D hD).1.1, Nat.lt_of_lt_of_le (h3 D hD).1.2 hh⟩, (h3 D hD).2⟩⟩
theorem Marks.cons {lo hi D : Nat} {ds : List Deferred} {W : World} (h : Marks lo hi ds W) (hl : lo ≤ D) (hh : hi ≤ D) (hD : W.heap[D]? = some (.deferred (some []))) : Marks lo (D + 1) (mk D :: ds) W := by
  obtain ⟨Ds, h1, h2, h3⟩ := h
  refine ⟨D :: Ds, by rw [h1]; rfl, List.nodup_cons.2 ⟨fun hm => by have := (h3 D hm).1.2; omega, h2⟩, fun E hE => ?_⟩
  rcases List.mem_cons.1 hE with rfl | hE
  · exact ⟨⟨hl, by omega⟩, hD⟩
  · exact ⟨⟨(h3 E hE).1.1, by have := (h3 E hE).1.2; omega⟩, (h3 E hE).2⟩
theorem Marks.gb {lo hi : Nat} {ds : List Deferred} {A B : World} (h : Marks lo hi ds A) {row : Option Nat} (hg : A.grownBy B row) (hr : ∀ r, row = some r → hi ≤ r ∨ ∃ o : Obj, A.heap[r]? = some o ∧ o.isCells = true) : Marks lo hi ds B := by
  obtain ⟨Ds, h1, h2, h3⟩ := h
  refine ⟨Ds, h1, h2, fun D hD => ⟨(h3 D hD).1, (hg.block D (Array.getElem?_eq_some_iff.1 (h3 D hD).2).1 (fun e => ?_)).trans (h3 D hD).2⟩⟩
  rcases hr D e.symm with h | ⟨o, ho, hc⟩
  · have := (h3 D hD).1.2; omega
  · rw [(h3 D hD).2] at ho
    cases ho
    simp [Obj.isCells] at hc
theorem Marks.below {lo hi : Nat} {ds : List Deferred} {A B : World} (h : Marks lo hi ds A) (hb : Below A.heap.size A B) : Marks lo hi ds B :=
  h.gb (row := none) ⟨hb.os, hb.tape, hb.output, hb.size, fun k hk _ => hb.block k hk⟩ (fun r e => by cases e)
/-- a function with marks leaves as one without -/
theorem Marks.leave {lo hi : Nat} {F : Fence} {n : Nat} {P : Program} {fn : Func} {tmps : Array Value} {R : Ending → World → Prop} (G : World → Prop)
    (hG : ∀ A D, lo ≤ D → G A → A.heap[D]? = some (.deferred (some [])) → G (A.putObj D (.deferred none)))
    (hR : ∀ A, G A → LeavesIn F n P fn tmps R [] .returning A) : ∀ {ds : List Deferred} {W : World}, Marks lo hi ds W → G W → LeavesInM F n P fn tmps R ds .returning W := by
  rintro ds W ⟨Ds, rfl, h2, h3⟩ hW
  induction Ds generalizing W with
  | nil => exact hR W hW
  | cons D Ds ih =>
    have hD := h3 D (List.mem_cons_self ..)
    refine ⟨by simp, .inl ⟨_, _, rfl, run_takeDeferred hD.2, ?_⟩⟩
    refine ih (W := W.putObj D (.deferred none)) (List.nodup_cons.1 h2).2 (fun E hE => ⟨(h3 E (List.mem_cons_of_mem _ hE)).1, ?_⟩) (hG W D hD.1.1 hW hD.2)
    rw [World.putObj_heap_other (fun e => (List.nodup_cons.1 h2).1 (by rw [e] at hE; exact hE))]
    exact (h3 E (List.mem_cons_of_mem _ hE)).2

/-- for none of the first k do es ask less -/
def NL (es fs : List En) (k : Nat) : Prop := ∀ j, j < k → ¬ askL es (fs.getD j dE).1 < (fs.getD j dE).2
theorem NL.succ {es fs : List En} {k : Nat} (h : NL es fs k) (hk : ¬ askL es (fs.getD k dE).1 < (fs.getD k dE).2) : NL es fs (k + 1) := fun j hj => by
  by_cases hjk : j = k
  · subst hjk; exact hk
  · exact h j (by omega)
/-- what Less keeps -/
structure LI (W : World) (p q : Nat) (x y : Value) (W' : World) : Prop where
  b1 : Blk W' W.heap.size 25 [.pointer (some ⟨p, 0, none⟩)]
  b2 : Blk W' (W.heap.size + 1) 32 [x]
  b3 : Blk W' (W.heap.size + 1 + 1) 4 [y]
  b4 : Blk W' (W.heap.size + 1 + 1 + 1) 25 [.pointer (some ⟨q, 0, none⟩)]
  bel : Below W.heap.size W W'
theorem LI.row {W : World} {p q : Nat} {x y : Value} {A B : World} (h : LI W p q x y A) {row : Option Nat} (hg : A.grownBy B row) (hr : ∀ r, row = some r → W.heap.size ≤ r ∧ ∃ o : Obj, A.heap[r]? = some o ∧ o.isCells = false) : LI W p q x y B :=
  have k : RowOk A row := fun r e => (hr r e).2
  ⟨blk_row1 h.b1 hg k, blk_row1 h.b2 hg k, blk_row1 h.b3 hg k, blk_row1 h.b4 hg k, h.bel.grown hg h.bel.size (fun r e => (hr r e).1)⟩
theorem LI.ownF (W : World) (p q : Nat) (x y : Value) {b : Nat} (hb : W.heap.size ≤ b) : OwnFrom b (fun (_ : Unit) W' => LI W p q x y W') := fun s A B row hs hg hr =>
  hs.row hg (fun r e => ⟨Nat.le_trans hb (hr r e).1, (hr r e).2⟩)
theorem LI.alloc {W : World} {p q : Nat} {x y : Value} {A : World} (h : LI W p q x y A) (o : Obj) : LI W p q x y (A.alloc o) := h.row (World.grownBy_alloc A o none) (fun r e => by cases e)
theorem LI.below {W : World} {p q : Nat} {x y : Value} {A B : World} (h : LI W p q x y A) (hb : Below A.heap.size A B) : LI W p q x y B :=
  ⟨h.b1.belowS hb, h.b2.belowS hb, h.b3.belowS hb, h.b4.belowS hb, h.bel.trans (hb.mono h.bel.size)⟩
/-- the slice v reads as pointers to the stores ps -/
def MS (W : World) (v : Value) (ps : List (Nat × List En)) : Prop := ∃ A c, v = .slice A ps.length c ∧ ∀ (i : Nat) q, ps[i]? = some q → ∃ b off, A = some ⟨b, off, none⟩ ∧ b < W.heap.size ∧ W.cell? ⟨b, off + i, none⟩ = some (.pointer (some ⟨q.1, 0, none⟩)) ∧ SR W q.1 q.2
theorem MS.below {W W' : World} {v : Value} {ps : List (Nat × List En)} (h : MS W v ps) (hb : Below W.heap.size W W') : MS W' v ps := by
  obtain ⟨A, c, rfl, hp⟩ := h
  refine ⟨A, c, rfl, fun i q hq => ?_⟩
  obtain ⟨b, off, e, hlt, hc, hs⟩ := hp i q hq
  exact ⟨b, off, e, Nat.lt_of_lt_of_le hlt hb.size, (hb.cell (p := ⟨b, off + i, none⟩) hlt).trans hc, hs.below hb⟩
theorem ofL_len (es : List En) : (ofL es).length ≤ es.length := by
  suffices h : ∀ (es o : List En), (es.foldl (fun o e => putP o e.1 e.2) o).length ≤ o.length + es.length from by have := h es []; unfold ofL; simpa using this
  intro es
  induction es with
  | nil => intro o; simp
  | cons e es ih => intro o; have := ih (putP o e.1 e.2); have := put_len o e.1 e.2; simp only [List.foldl_cons, List.length_cons]; omega
/-- and between two entries -/
structure MJ (W : World) (L : List En) (B1 hi p : Nat) (ds : List Deferred) (W' : World) : Prop where
  s : SR W' W.heap.size (ofL L)
  b : Blk W' (W.heap.size + 1) 25 [.pointer (some ⟨W.heap.size, 0, none⟩)]
  b1 : Blk W' B1 25 [.pointer (some ⟨p, 0, none⟩)]
  bel : Below W.heap.size W W'
  m : Marks W.heap.size hi ds W'
theorem MJ.row {W : World} {L : List En} {B1 hi p : Nat} {ds : List Deferred} {A B : World} (h : MJ W L B1 hi p ds A) {row : Option Nat} (hg : A.grownBy B row) (hr : ∀ r, row = some r → hi ≤ r ∧ ∃ o : Obj, A.heap[r]? = some o ∧ o.isCells = false) (hh : W.heap.size ≤ hi) : MJ W L B1 hi p ds B :=
  have k : RowOk A row := fun r e => (hr r e).2
  ⟨h.s.row hg k, blk_row1 h.b hg k, blk_row1 h.b1 hg k, h.bel.grown hg h.bel.size (fun r e => Nat.le_trans hh (hr r e).1), h.m.gb hg (fun r e => .inl (hr r e).1)⟩
theorem MJ.alloc {W : World} {L : List En} {B1 hi p : Nat} {ds : List Deferred} {A : World} (h : MJ W L B1 hi p ds A) (o : Obj) (hh : W.heap.size ≤ hi) : MJ W L B1 hi p ds (A.alloc o) := h.row (World.grownBy_alloc A o none) (fun r e => by cases e) hh
theorem MJ.put {W : World} {L L' : List En} {B1 hi p : Nat} {ds : List Deferred} {A B : World} (h : MJ W L B1 hi p ds A) (hs : SR B W.heap.size (ofL L')) (hg : A.grownBy B (some W.heap.size)) (h1 : B1 ≠ W.heap.size) : MJ W L' B1 hi p ds B :=
  ⟨hs, h.b.kept hg (by simp), h.b1.kept hg (by simp; omega), h.bel.grown hg h.bel.size (fun r e => by cases e; exact Nat.le_refl _), h.m.gb hg (fun r e => by
    cases e
    obtain ⟨v, hb, _⟩ := h.s.pr
    exact .inr ⟨_, hb, rfl⟩)⟩
end Go.Proofs.Ytnlhgnioedalpaa.Pri
