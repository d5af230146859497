/- PriW, ChkR, PriR, laid together. -/
import Derived.Test.YtnlhgnioedalpaaGr06
import Derived.BigRegionIn
import Derived.Test.YtnlhgnioedalpaaPPricePlaysx5
import Derived.Test.YtnlhgnioedalpaaPPricePlaysx6

/- price: Less, Merge. -/
set_option linter.unusedSimpArgs false
set_option linter.unusedVariables false
namespace Go.Proofs.Ytnlhgnioedalpaa.Pri
open Go.RowKit Go.Proofs.YtnlhgnioedalpaaW.PrintWords Go.Proofs.Ytnlhgnioedalpaa.PPricePlays
attribute [local go_sem] Oper.semAt_some

/-- a step that turns one thing that is no cell -/
abbrev RowOk (A : World) (row : Option Nat) : Prop := ∀ r, row = some r → ∃ o : Obj, A.heap[r]? = some o ∧ o.isCells = false
theorem blk_row1 {A B : World} {b : Nat} {t : TypeId} {l : List Value} (h : Blk A b t l) {row : Option Nat} (hg : A.grownBy B row) (hr : RowOk A row) : Blk B b t l :=
  h.kept hg (fun e => by
    obtain ⟨o, ho, hc⟩ := hr b e.symm
    have hs' : A.heap[b]? = _ := h
    rw [hs'] at ho
    cases ho
    simp [Obj.isCells] at hc)
theorem PE.row {A B : World} {row : Option Nat} {v : Value} {l : List En} (h : PE A v l) (hg : A.grownBy B row) (hr : RowOk A row) : PE B v l := by
  obtain ⟨a, c, rfl, h1, h2, h3⟩ := h
  refine ⟨a, c, rfl, h1, h2, h3.1, h3.2.1, fun hpos => ?_⟩
  obtain ⟨a, rfl, hq⟩ := h3.2.2 hpos
  refine ⟨a, rfl, fun j x hx => ?_⟩
  obtain ⟨cs, hl, hk, hc⟩ := hq j x hx
  obtain rfl := k41_open hk
  refine ⟨_, hl, k41_mk B x, fun i u hu => ?_⟩
  have hcu := hc i u hu
  have hsp := cell_spot hcu
  rw [hsp.1] at hcu ⊢
  have e : B.cell? ⟨(a.add (j * k41.sz + i)).block, (a.add (j * k41.sz + i)).off, none⟩ = A.cell? ⟨(a.add (j * k41.sz + i)).block, (a.add (j * k41.sz + i)).off, none⟩ := by
    unfold World.cell?
    rw [hg.block _ hsp.2 (fun e => ?_)]
    obtain ⟨o, ho, hcell⟩ := hr _ e.symm
    simp only [World.cell?, ho] at hcu
    cases o with
    | cells => simp [Obj.isCells] at hcell
    | _ => simp at hcu
  rw [e]; exact hcu
theorem PR.row {A B : World} {row : Option Nat} {p : Nat} {l : List En} (h : PR A p l) (hg : A.grownBy B row) (hr : RowOk A row) : PR B p l := by
  obtain ⟨v, h1, h2⟩ := h
  exact ⟨v, blk_row1 h1 hg hr, h2.row hg hr⟩
theorem SR.row {A B : World} {row : Option Nat} {p : Nat} {l : List En} (h : SR A p l) (hg : A.grownBy B row) (hr : RowOk A row) : SR B p l := ⟨h.pr.row hg hr, h.ue, h.ti, h.len⟩
theorem SR.alloc {A : World} {p : Nat} {l : List En} (h : SR A p l) (o : Obj) : SR (A.alloc o) p l := h.below ((Below.refl _ A).alloc (Nat.le_refl _) o)

def mk (D : Nat) : Deferred := { target := .collected D, args := #[] }
/-- the marks of ranges that are over -/
def Marks (lo hi : Nat) (ds : List Deferred) (W : World) : Prop := ∃ Ds : List Nat, ds = Ds.map mk ∧ Ds.Nodup ∧ ∀ D ∈ Ds, (lo ≤ D ∧ D < hi) ∧ W.heap[D]? = some (.deferred (some []))
theorem Marks.nil (lo hi : Nat) (W : World) : Marks lo hi [] W := ⟨[], rfl, List.nodup_nil, by simp⟩
theorem Marks.up {lo hi hi' : Nat} {ds : List Deferred} {W : World} (h : Marks lo hi ds W) (hh : hi ≤ hi') : Marks lo hi' ds W := by
  obtain ⟨Ds, h1, h2, h3⟩ := h
  exact ⟨Ds, h1, h2, fun D hD => ⟨⟨(h3 D hD).1.1, Nat.lt_of_lt_of_le (h3 D hD).1.2 hh⟩, (h3 D hD).2⟩⟩
theorem Marks.cons {lo hi D : Nat} {ds : List Deferred} {W : World} (h : Marks lo hi ds W) (hl : lo ≤ D) (hh : hi ≤ D) (hD : W.heap[D]? = some (.deferred (some []))) : Marks lo (D + 1) (mk D :: ds) W := by
  obtain ⟨Ds, h1, h2, h3⟩ := h
  refine ⟨D :: Ds, by rw [h1]; rfl, List.nodup_cons.2 ⟨fun hm => by have := (h3 D hm).1.2; omega, h2⟩, fun E hE => ?_⟩
  rcases List.mem_cons.1 hE with rfl | hE
  · exact ⟨⟨hl, by omega⟩, hD⟩
  · exact ⟨⟨(h3 E hE).1.1, by have := (h3 E hE).1.2; omega⟩, (h3 E hE).2⟩
theorem Marks.gb {lo hi : Nat} {ds : List Deferred} {A B : World} (h : Marks lo hi ds A) {row : Option Nat} (hg : A.grownBy B row) (hr : ∀ r, row = some r → hi ≤ r ∨ ∃ o : Obj, A.heap[r]? = some o ∧ o.isCells = true) : Marks lo hi ds B := by
  obtain ⟨Ds, h1, h2, h3⟩ := h
  refine ⟨Ds, h1, h2, fun D hD => ⟨(h3 D hD).1, (hg.block D (Array.getElem?_eq_some_iff.1 (h3 D hD).2).1 (fun e => ?_)).trans (h3 D hD).2⟩⟩
  rcases hr D e.symm with h | ⟨o, ho, hc⟩
  · have := (h3 D hD).1.2; omega
  · rw [(h3 D hD).2] at ho
    cases ho
    simp [Obj.isCells] at hc
theorem Marks.below {lo hi : Nat} {ds : List Deferred} {A B : World} (h : Marks lo hi ds A) (hb : Below A.heap.size A B) : Marks lo hi ds B :=
  h.gb (row := none) ⟨hb.os, hb.tape, hb.output, hb.size, fun k hk _ => hb.block k hk⟩ (fun r e => by cases e)
/-- a function with marks leaves as one without -/
theorem Marks.leave {lo hi : Nat} {F : Fence} {n : Nat} {P : Program} {fn : Func} {tmps : Array Value} {R : Ending → World → Prop} (G : World → Prop)
    (hG : ∀ A D, lo ≤ D → G A → A.heap[D]? = some (.deferred (some [])) → G (A.putObj D (.deferred none)))
    (hR : ∀ A, G A → LeavesIn F n P fn tmps R [] .returning A) : ∀ {ds : List Deferred} {W : World}, Marks lo hi ds W → G W → LeavesInM F n P fn tmps R ds .returning W := by
  rintro ds W ⟨Ds, rfl, h2, h3⟩ hW
  induction Ds generalizing W with
  | nil => exact hR W hW
  | cons D Ds ih =>
    have hD := h3 D (List.mem_cons_self ..)
    refine ⟨by simp, .inl ⟨_, _, rfl, run_takeDeferred hD.2, ?_⟩⟩
    refine ih (W := W.putObj D (.deferred none)) (List.nodup_cons.1 h2).2 (fun E hE => ⟨(h3 E (List.mem_cons_of_mem _ hE)).1, ?_⟩) (hG W D hD.1.1 hW hD.2)
    rw [World.putObj_heap_other (fun e => (List.nodup_cons.1 h2).1 (by rw [e] at hE; exact hE))]
    exact (h3 E (List.mem_cons_of_mem _ hE)).2

/-- for none of the first k do es ask less -/
def NL (es fs : List En) (k : Nat) : Prop := ∀ j, j < k → ¬ askL es (fs.getD j dE).1 < (fs.getD j dE).2
theorem NL.succ {es fs : List En} {k : Nat} (h : NL es fs k) (hk : ¬ askL es (fs.getD k dE).1 < (fs.getD k dE).2) : NL es fs (k + 1) := fun j hj => by
  by_cases hjk : j = k
  · subst hjk; exact hk
  · exact h j (by omega)
/-- what Less keeps -/
structure LI (W : World) (p q : Nat) (x y : Value) (W' : World) : Prop where
  b1 : Blk W' W.heap.size 25 [.pointer (some ⟨p, 0, none⟩)]
  b2 : Blk W' (W.heap.size + 1) 32 [x]
  b3 : Blk W' (W.heap.size + 1 + 1) 4 [y]
  b4 : Blk W' (W.heap.size + 1 + 1 + 1) 25 [.pointer (some ⟨q, 0, none⟩)]
  bel : Below W.heap.size W W'
theorem LI.row {W : World} {p q : Nat} {x y : Value} {A B : World} (h : LI W p q x y A) {row : Option Nat} (hg : A.grownBy B row) (hr : ∀ r, row = some r → W.heap.size ≤ r ∧ ∃ o : Obj, A.heap[r]? = some o ∧ o.isCells = false) : LI W p q x y B :=
  have k : RowOk A row := fun r e => (hr r e).2
  ⟨blk_row1 h.b1 hg k, blk_row1 h.b2 hg k, blk_row1 h.b3 hg k, blk_row1 h.b4 hg k, h.bel.grown hg h.bel.size (fun r e => (hr r e).1)⟩
theorem LI.ownF (W : World) (p q : Nat) (x y : Value) {b : Nat} (hb : W.heap.size ≤ b) : OwnFrom b (fun (_ : Unit) W' => LI W p q x y W') := fun s A B row hs hg hr =>
  hs.row hg (fun r e => ⟨Nat.le_trans hb (hr r e).1, (hr r e).2⟩)
theorem LI.alloc {W : World} {p q : Nat} {x y : Value} {A : World} (h : LI W p q x y A) (o : Obj) : LI W p q x y (A.alloc o) := h.row (World.grownBy_alloc A o none) (fun r e => by cases e)
theorem LI.below {W : World} {p q : Nat} {x y : Value} {A B : World} (h : LI W p q x y A) (hb : Below A.heap.size A B) : LI W p q x y B :=
  ⟨h.b1.belowS hb, h.b2.belowS hb, h.b3.belowS hb, h.b4.belowS hb, h.bel.trans (hb.mono h.bel.size)⟩
theorem LI.wrote {W : World} {p q : Nat} {x y : Value} {A : World} (h : LI W p q x y A) (u v : Value) : LI W p q u v ((A.setCell ⟨W.heap.size + 1, 0, none⟩ u).setCell ⟨W.heap.size + 1 + 1, 0, none⟩ v) :=
  ⟨(h.b1.other (by simp) _).other (by simp; omega) _, (h.b2.set 0 _).other (by simp) _, (h.b3.other (by simp) _).set 0 _, (h.b4.other (by simp; omega) _).other (by simp) _,
    (h.bel.setCell (p := ⟨W.heap.size + 1, 0, none⟩) (by simp) _).setCell (p := ⟨W.heap.size + 1 + 1, 0, none⟩) (by simp; omega) _⟩
/-- the slice v reads as pointers to the stores ps -/
def MS (W : World) (v : Value) (ps : List (Nat × List En)) : Prop := ∃ A c, v = .slice A ps.length c ∧ ∀ (i : Nat) q, ps[i]? = some q → ∃ b off, A = some ⟨b, off, none⟩ ∧ b < W.heap.size ∧ W.cell? ⟨b, off + i, none⟩ = some (.pointer (some ⟨q.1, 0, none⟩)) ∧ SR W q.1 q.2
theorem MS.below {W W' : World} {v : Value} {ps : List (Nat × List En)} (h : MS W v ps) (hb : Below W.heap.size W W') : MS W' v ps := by
  obtain ⟨A, c, rfl, hp⟩ := h
  refine ⟨A, c, rfl, fun i q hq => ?_⟩
  obtain ⟨b, off, e, hlt, hc, hs⟩ := hp i q hq
  exact ⟨b, off, e, Nat.lt_of_lt_of_le hlt hb.size, (hb.cell (p := ⟨b, off + i, none⟩) hlt).trans hc, hs.below hb⟩
theorem ofL_len (es : List En) : (ofL es).length ≤ es.length := by
  suffices h : ∀ (es o : List En), (es.foldl (fun o e => putP o e.1 e.2) o).length ≤ o.length + es.length from by have := h es []; unfold ofL; simpa using this
  intro es
  induction es with
  | nil => intro o; simp
  | cons e es ih => intro o; have := ih (putP o e.1 e.2); have := put_len o e.1 e.2; simp only [List.foldl_cons, List.length_cons]; omega
/-- and between two entries -/
structure MJ (W : World) (L : List En) (B1 hi p : Nat) (ds : List Deferred) (W' : World) : Prop where
  s : SR W' W.heap.size (ofL L)
  b : Blk W' (W.heap.size + 1) 25 [.pointer (some ⟨W.heap.size, 0, none⟩)]
  b1 : Blk W' B1 25 [.pointer (some ⟨p, 0, none⟩)]
  bel : Below W.heap.size W W'
  m : Marks W.heap.size hi ds W'
theorem MJ.row {W : World} {L : List En} {B1 hi p : Nat} {ds : List Deferred} {A B : World} (h : MJ W L B1 hi p ds A) {row : Option Nat} (hg : A.grownBy B row) (hr : ∀ r, row = some r → hi ≤ r ∧ ∃ o : Obj, A.heap[r]? = some o ∧ o.isCells = false) (hh : W.heap.size ≤ hi) : MJ W L B1 hi p ds B :=
  have k : RowOk A row := fun r e => (hr r e).2
  ⟨h.s.row hg k, blk_row1 h.b hg k, blk_row1 h.b1 hg k, h.bel.grown hg h.bel.size (fun r e => Nat.le_trans hh (hr r e).1), h.m.gb hg (fun r e => .inl (hr r e).1)⟩
theorem MJ.alloc {W : World} {L : List En} {B1 hi p : Nat} {ds : List Deferred} {A : World} (h : MJ W L B1 hi p ds A) (o : Obj) (hh : W.heap.size ≤ hi) : MJ W L B1 hi p ds (A.alloc o) := h.row (World.grownBy_alloc A o none) (fun r e => by cases e) hh
theorem MJ.put {W : World} {L L' : List En} {B1 hi p : Nat} {ds : List Deferred} {A B : World} (h : MJ W L B1 hi p ds A) (hs : SR B W.heap.size (ofL L')) (hg : A.grownBy B (some W.heap.size)) (h1 : B1 ≠ W.heap.size) : MJ W L' B1 hi p ds B :=
  ⟨hs, h.b.kept hg (by simp), h.b1.kept hg (by simp; omega), h.bel.grown hg h.bel.size (fun r e => by cases e; exact Nat.le_refl _), h.m.gb hg (fun r e => by
    cases e
    obtain ⟨v, hb, _⟩ := h.s.pr
    exact .inr ⟨_, hb, rfl⟩)⟩
end Go.Proofs.Ytnlhgnioedalpaa.Pri

/- check: the report. -/
set_option linter.unusedSimpArgs false
set_option linter.unusedVariables false
namespace Go.Proofs.Ytnlhgnioedalpaa.Pri
open Go.RowKit Go.Proofs.YtnlhgnioedalpaaW.PrintWords Go.Proofs.Ytnlhgnioedalpaa.PPricePlays Go.Maps
attribute [local go_sem] Oper.semAt_some

/-- the slice v reads as slices that read as the lists of L -/
def PEE (W : World) (v : Value) (L : List (List En)) : Prop := ∃ A c, v = .slice A L.length c ∧ ∀ (i : Nat) l, L[i]? = some l → ∃ b off A1 c1, A = some ⟨b, off, none⟩ ∧ b < W.heap.size ∧ W.cell? ⟨b, off + i, none⟩ = some (.slice A1 l.length c1) ∧ PE W (.slice A1 l.length c1) l
theorem PEE.below {W W' : World} {v : Value} {L : List (List En)} (h : PEE W v L) (hb : Below W.heap.size W W') : PEE W' v L := by
  obtain ⟨A, c, rfl, h1⟩ := h
  refine ⟨A, c, rfl, fun i l hl => ?_⟩
  obtain ⟨b, off, A1, c1, e, hlt, hc, hp⟩ := h1 i l hl
  exact ⟨b, off, A1, c1, e, Nat.lt_of_lt_of_le hlt hb.size, (hb.cell (p := ⟨b, off + i, none⟩) hlt).trans hc, hp.below hb⟩
/-- the slice v reads as pointers to stores, or nil -/
def PS (W : World) (v : Value) (S : List (Option (Nat × List En))) : Prop := ∃ A c, v = .slice A S.length c ∧ ∀ (i : Nat) o, S[i]? = some o → ∃ b off, A = some ⟨b, off, none⟩ ∧ b < W.heap.size ∧ W.cell? ⟨b, off + i, none⟩ = some (.pointer (o.map (fun q => ⟨q.1, 0, none⟩))) ∧ ∀ q, o = some q → SR W q.1 q.2
theorem PS.below {W W' : World} {v : Value} {S : List (Option (Nat × List En))} (h : PS W v S) (hb : Below W.heap.size W W') : PS W' v S := by
  obtain ⟨A, c, rfl, h1⟩ := h
  refine ⟨A, c, rfl, fun i o ho => ?_⟩
  obtain ⟨b, off, e, hlt, hc, hp⟩ := h1 i o ho
  exact ⟨b, off, e, Nat.lt_of_lt_of_le hlt hb.size, (hb.cell (p := ⟨b, off + i, none⟩) hlt).trans hc, fun q hq => (hp q hq).below hb⟩
theorem PEE.at {W : World} {v : Value} {L : List (List En)} (h : PEE W v L) {k : Nat} {l : List En} (hl : L[k]? = some l) : ∃ b off c A1 c1, v = .slice (some ⟨b, off, none⟩) L.length c ∧ b < W.heap.size ∧ W.cell? ⟨b, off + k, none⟩ = some (.slice A1 l.length c1) ∧ PE W (.slice A1 l.length c1) l := by
  obtain ⟨A, c, rfl, h1⟩ := h
  obtain ⟨b, off, A1, c1, rfl, hlt, hc, hp⟩ := h1 k l hl
  exact ⟨b, off, c, A1, c1, rfl, hlt, hc, hp⟩
end Go.Proofs.Ytnlhgnioedalpaa.Pri

/- price: the document's functions in plain words. -/
set_option linter.unusedSimpArgs false
set_option linter.unusedVariables false
namespace Go.Proofs.Ytnlhgnioedalpaa.Pri
open Go.RowKit Go.Proofs.YtnlhgnioedalpaaW.PrintWords Go.Proofs.Ytnlhgnioedalpaa.PPricePlays
attribute [local go_sem] Oper.semAt_some

theorem has_l0 (b : Nat) : ∀ e i (n : Nat), i + e = b → n < 18446744073709551616 → b < 64 → Ev (fun k => saleroomref02_Has.l0 k (n : Int) (b : Int) (i : Int)) (n.testBit e) := by
  intro e
  induction e with
  | zero =>
    intro i n hi hn hb
    have e1 : n.testBit 0 = (Int.tmod (n : Int) 2 == 1) := by
      rw [Nat.testBit_zero, Int.tmod_eq_emod_of_nonneg (by omega), Bool.eq_iff_iff, decide_eq_true_eq, beq_iff_eq]
      omega
    rw [e1]
    refine Ev.step (f := fun _ => some (Int.tmod (n : Int) 2 == 1)) (fun k => ?_) (Ev.now _)
    simp only [saleroomref02_Has.l0]
    rw [if_neg (by omega)]
  | succ e ih =>
    intro i n hi hn hb
    rw [Nat.testBit_succ]
    refine Ev.step (f := fun k => saleroomref02_Has.l0 k ((n / 2 : Nat) : Int) (b : Int) ((i + 1 : Nat) : Int)) (fun k => ?_) (ih (i + 1) (n / 2) (by omega) (by omega) hb)
    simp only [saleroomref02_Has.l0]
    rw [if_pos (by omega), wrap_succ (by omega), IntKind.wrap_u64, Int.tdiv_eq_ediv_of_nonneg (by omega)]
    congr 1
    omega
theorem has_ev {s : Int} (hs : U s) {i : Nat} (hi : i < 64) : Ev (fun k => saleroomref02_Has.f k s (i : Int)) (s.toNat.testBit i) := by
  have h := has_l0 i i 0 s.toNat (by omega) (by have := hs.2; have := hs.1; omega) hi
  rw [Int.toNat_of_nonneg hs.1] at h
  have h2 : Ev (fun k => saleroomref02_Has.j0 k s (i : Int) false) (s.toNat.testBit i) := by
    refine Ev.step (f := fun k => saleroomref02_Has.l0 k s (i : Int) 0) (fun k => ?_) h
    simp only [saleroomref02_Has.j0]
    rw [if_neg (by simp)]
  refine Ev.congr (fun k => ?_) h2
  simp only [saleroomref02_Has.f]
  rw [if_neg (by omega), decide_eq_false (by omega)]
theorem range_drop {i n : Nat} (h : i < n) : (List.range n).drop i = i :: (List.range n).drop (i + 1) := by
  rw [List.drop_eq_getElem_cons (by simpa using h)]
  simp
theorem within_ev {a b : Int} (ha : U a) (hb : U b) : Ev (fun k => saleroomref02_Within.f k a b) (wi a b) := by
  have key : ∀ e i : Nat, i + e = 64 → Ev (fun k => saleroomref02_Within.l0 k a b (i : Int)) (((List.range 64).drop i).all (fun i => !(a.toNat.testBit i) || b.toNat.testBit i)) := by
    intro e
    induction e with
    | zero =>
      intro i hi
      rw [List.drop_eq_nil_of_le (by simp; omega), List.all_nil]
      refine Ev.step (f := fun _ => some true) (fun k => ?_) (Ev.now _)
      simp only [saleroomref02_Within.l0]
      rw [if_neg (by omega)]
    | succ e ih =>
      intro i hi
      rw [range_drop (by omega), List.all_cons]
      refine Ev.step (f := fun k => (saleroomref02_Has.f k a (i : Int)).bind fun t122 => (if t122 = true then ((saleroomref02_Has.f k b (i : Int)).bind fun t123 => (if t123 = true then (saleroomref02_Within.l0 k a b ((i + 1 : Nat) : Int)) else (some false))) else (saleroomref02_Within.l0 k a b ((i + 1 : Nat) : Int)))) (fun k => ?_) (Ev.bind (has_ev ha (by omega)) ?_)
      · simp only [saleroomref02_Within.l0]
        rw [if_pos (by omega), wrap_succ (by omega)]
      · cases h1 : a.toNat.testBit i with
        | false =>
          refine Ev.congr (fun k => if_neg (by decide)) ?_
          simpa using ih (i + 1) (by omega)
        | true =>
          refine Ev.congr (fun k => if_pos rfl) (Ev.bind (has_ev hb (by omega)) ?_)
          cases h2 : b.toNat.testBit i with
          | false => exact Ev.congr (fun k => if_neg (by decide)) (Ev.now _)
          | true =>
            refine Ev.congr (fun k => if_pos rfl) ?_
            simpa using ih (i + 1) (by omega)
  exact key 64 0 rfl
def lisL (s : Int) : List Int := ((List.range 64).filter (fun i => s.toNat.testBit i)).map Int.ofNat
theorem lisL_len (s : Int) : (lisL s).length = cnt s := by
  unfold lisL cnt
  rw [List.length_map, List.countP_eq_length_filter]
theorem list_ev {s : Int} (hs : U s) : Ev (fun k => saleroomref02_List.f k s) (lisL s) := by
  have key : ∀ e i (acc : List Int), i + e = 64 → acc.length ≤ i → Ev (fun k => saleroomref02_List.l0 k s acc (i : Int)) (acc ++ (((List.range 64).drop i).filter (fun i => s.toNat.testBit i)).map Int.ofNat) := by
    intro e
    induction e with
    | zero =>
      intro i acc hi hl
      rw [List.drop_eq_nil_of_le (by simp; omega), List.filter_nil, List.map_nil, List.append_nil]
      refine Ev.step (f := fun _ => some acc) (fun k => ?_) (Ev.now _)
      simp only [saleroomref02_List.l0]
      rw [if_neg (by omega)]
    | succ e ih =>
      intro i acc hi hl
      rw [range_drop (by omega)]
      refine Ev.step (f := fun k => (saleroomref02_Has.f k s (i : Int)).bind fun t131 => (if t131 = true then (if acc.length < 17592186044416 then (saleroomref02_List.l0 k s (acc ++ [(i : Int)]) ((i + 1 : Nat) : Int)) else (none)) else (saleroomref02_List.l0 k s acc ((i + 1 : Nat) : Int)))) (fun k => ?_) (Ev.bind (has_ev hs (by omega)) ?_)
      · simp only [saleroomref02_List.l0]
        rw [if_pos (by omega), wrap_succ (by omega)]
      · cases h1 : s.toNat.testBit i with
        | false =>
          refine Ev.congr (fun k => if_neg (by decide)) ?_
          rw [List.filter_cons_of_neg (by simp [h1])]
          exact ih (i + 1) acc (by omega) (by omega)
        | true =>
          refine Ev.congr (fun k => if_pos rfl) ?_
          rw [List.filter_cons_of_pos (by simp [h1]), List.map_cons]
          have := ih (i + 1) (acc ++ [(i : Int)]) (by omega) (by simp; omega)
          rw [List.append_assoc] at this
          exact Ev.congr (fun k => if_pos (by omega)) this
  have := key 64 0 [] rfl (by simp)
  unfold saleroomref02_List.f
  simpa [lisL] using this
def cmpR (a b : Int) : Int := if ltS a b = true then -1 else if ltS b a = true then 1 else 0
theorem cmp_ev {a b : Int} (ha : U a) (hb : U b) : Ev (fun k => saleroomref02_Cmp.f k a b) (cmpR a b) := by
  have hj : ∀ t : Bool, t = ltS a b → Ev (fun k => saleroomref02_Cmp.j0 k a b (cnt a : Int) (cnt b : Int) t) (cmpR a b) := by
    rintro t rfl
    unfold cmpR
    cases h1 : ltS a b with
    | true =>
      refine Ev.step (f := fun _ => some (-1)) (fun k => ?_) (Ev.now _)
      simp only [saleroomref02_Cmp.j0]
      rw [if_pos trivial]
    | false =>
      rw [if_neg (by decide)]
      have h3 : ¬ (cnt a < cnt b ∨ cnt a = cnt b ∧ a < b) := fun h => by rw [ltS_iff.2 h] at h1; cases h1
      cases h2 : ltS b a with
      | true =>
        rw [if_pos rfl]
        have h4 := ltS_iff.1 h2
        refine Ev.step (f := fun _ => some 1) (fun k => ?_) (Ev.now _)
        simp only [saleroomref02_Cmp.j0]
        rw [if_neg (by decide)]
        by_cases h5 : (cnt a : Int) > (cnt b : Int)
        · rw [if_pos h5]
        · rw [if_neg h5, if_pos (by omega)]
      | false =>
        rw [if_neg (by decide)]
        have h4 : ¬ (cnt b < cnt a ∨ cnt b = cnt a ∧ b < a) := fun h => by rw [ltS_iff.2 h] at h2; cases h2
        refine Ev.step (f := fun _ => some 0) (fun k => ?_) (Ev.now _)
        simp only [saleroomref02_Cmp.j0]
        rw [if_neg (by decide), if_neg (by omega), if_neg (by omega)]
  have hb2 : Ev (fun k => (fun (t135 t138 : List Int) => (if (t135.length : Int) < (t138.length : Int) then (saleroomref02_Cmp.j0 k a b (t135.length : Int) (t138.length : Int) true) else (if (t135.length : Int) = (t138.length : Int) then (saleroomref02_Cmp.j0 k a b (t135.length : Int) (t138.length : Int) (decide (a < b))) else (saleroomref02_Cmp.j0 k a b (t135.length : Int) (t138.length : Int) false)))) (lisL a) (lisL b)) (cmpR a b) := by
    dsimp only
    rw [lisL_len, lisL_len]
    by_cases h1 : (cnt a : Int) < (cnt b : Int)
    · exact Ev.congr (fun k => if_pos h1) (hj true (ltS_iff.2 (.inl (by omega))).symm)
    · refine Ev.congr (fun k => if_neg h1) ?_
      by_cases h2 : (cnt a : Int) = (cnt b : Int)
      · refine Ev.congr (fun k => if_pos h2) (hj _ ?_)
        rw [Bool.eq_iff_iff, decide_eq_true_eq, ltS_iff]
        omega
      · refine Ev.congr (fun k => if_neg h2) (hj _ ?_)
        rw [Bool.eq_iff_iff, ltS_iff]
        simp
        omega
  exact Ev.bind (f := fun k t135 => (saleroomref02_List.f k b).bind fun t138 => (if (t135.length : Int) < (t138.length : Int) then (saleroomref02_Cmp.j0 k a b (t135.length : Int) (t138.length : Int) true) else (if (t135.length : Int) = (t138.length : Int) then (saleroomref02_Cmp.j0 k a b (t135.length : Int) (t138.length : Int) (decide (a < b))) else (saleroomref02_Cmp.j0 k a b (t135.length : Int) (t138.length : Int) false)))) (list_ev ha) (Ev.bind (f := fun k t138 => (fun (t135 t138 : List Int) => (if (t135.length : Int) < (t138.length : Int) then (saleroomref02_Cmp.j0 k a b (t135.length : Int) (t138.length : Int) true) else (if (t135.length : Int) = (t138.length : Int) then (saleroomref02_Cmp.j0 k a b (t135.length : Int) (t138.length : Int) (decide (a < b))) else (saleroomref02_Cmp.j0 k a b (t135.length : Int) (t138.length : Int) false)))) (lisL a) t138) (list_ev hb) hb2)
theorem cmpR_neg (a b : Int) : cmpR a b < 0 ↔ ltS a b = true := by
  unfold cmpR
  split
  · simp_all
  · split <;> simp_all
theorem rsame_ev (l m : List En) (hl : l.length ≤ 1099511627776) : Ev (fun k => saleroomref11_Same.f k (l.map toE) (m.map toE)) (decide (l = m)) := by
  have key : l.length = m.length → ∀ e i, i + e = l.length → Ev (fun k => saleroomref11_Same.l0 k (l.map toE) (m.map toE) (i : Int)) (decide (l.drop i = m.drop i)) := by
    intro he e
    induction e with
    | zero =>
      intro i hi
      rw [List.drop_eq_nil_of_le (show l.length ≤ i by omega), List.drop_eq_nil_of_le (show m.length ≤ i by omega), decide_eq_true rfl]
      refine Ev.step (f := fun _ => some true) (fun k => ?_) (Ev.now _)
      simp only [saleroomref11_Same.l0, List.length_map]
      rw [if_neg (by omega)]
    | succ e ih =>
      intro i hi
      have hil : i < l.length := by omega
      have him : i < m.length := by omega
      have e1 : l.drop i = l[i] :: l.drop (i + 1) := (List.getElem_cons_drop ..).symm
      have e2 : m.drop i = m[i] :: m.drop (i + 1) := (List.getElem_cons_drop ..).symm
      by_cases h : l[i] = m[i]
      · have hd : decide (l.drop i = m.drop i) = decide (l.drop (i + 1) = m.drop (i + 1)) := decide_eq_decide.2 (by rw [e1, e2, h]; exact ⟨fun q => (List.cons.inj q).2, fun q => by rw [q]⟩)
        rw [hd]
        refine Ev.step (f := fun k => saleroomref11_Same.l0 k (l.map toE) (m.map toE) ((i + 1 : Nat) : Int)) (fun k => ?_) (ih (i + 1) (by omega))
        simp only [saleroomref11_Same.l0, List.length_map]
        rw [if_pos (by omega), if_pos (by omega), if_pos (by omega), rdE l hil, rdE m him, h, if_neg (by simp), wrap_succ (by omega)]
      · have hd : decide (l.drop i = m.drop i) = false := by rw [e1, e2]; exact decide_eq_false (fun q => h (List.cons.inj q).1)
        rw [hd]
        refine Ev.step (f := fun _ => some false) (fun k => ?_) (Ev.now _)
        simp only [saleroomref11_Same.l0, List.length_map]
        rw [if_pos (by omega), if_pos (by omega), if_pos (by omega), rdE l hil, rdE m him, if_pos]
        have : ¬ (l[i].1 = m[i].1 ∧ l[i].2 = m[i].2) := fun hh => h (Prod.ext hh.1 hh.2)
        simp only [toE]
        by_cases h1 : l[i].1 = m[i].1
        · have h2 : ¬ l[i].2 = m[i].2 := fun hh => this ⟨h1, hh⟩
          simp [h1, h2]
        · simp [h1]
  by_cases he : l.length = m.length
  · refine Ev.congr (fun k => ?_) (key he l.length 0 (by omega))
    simp only [saleroomref11_Same.f, List.length_map]
    rw [if_pos (by omega)]
    rfl
  · have hd : decide (l = m) = false := by simp; intro h; exact he (congrArg List.length h)
    rw [hd]
    refine Ev.congr (fun k => ?_) (Ev.now (r := false))
    simp only [saleroomref11_Same.f, List.length_map]
    rw [if_neg (by omega)]

/-- the document's look at the other entries -/
def innT (l : List En) (i : Nat) (j : Nat) : Bool := decide (j = i) || !(wi (l.getD j dE).1 (l.getD i dE).1 && decide ((l.getD i dE).2 ≤ (l.getD j dE).2))
def rowT (l : List En) (i : Nat) : Bool := !decide ((l.getD i dE).1 = 0) && decide (1 ≤ (l.getD i dE).2) && decide ((l.getD i dE).2 ≤ most) && (decide (i = 0) || ltS (l.getD (i - 1) dE).1 (l.getD i dE).1) && (List.range l.length).all (innT l i)
theorem getD_at {l : List En} {i : Nat} (h : i < l.length) : l.getD i dE = l[i] := by simp [List.getD, h]
theorem rtight_l1 (l : List En) (hU : UE l) (hl : l.length ≤ 1099511627776) (i : Nat) (hi : i < l.length) (T : Bool) (hT : Ev (fun k => saleroomref11_Tight.l0 k (l.map toE) ((i + 1 : Nat) : Int)) T) :
    ∀ e j, j + e = l.length → Ev (fun k => saleroomref11_Tight.l1 k (l.map toE) (i : Int) (j : Int) l[i].1 l[i].2) (((List.range l.length).drop j).all (innT l i) && T) := by
  intro e
  induction e with
  | zero =>
    intro j hj
    rw [List.drop_eq_nil_of_le (by simp; omega), List.all_nil, Bool.true_and]
    refine Ev.step (f := fun k => saleroomref11_Tight.l0 k (l.map toE) ((i + 1 : Nat) : Int)) (fun k => ?_) hT
    simp only [saleroomref11_Tight.l1, List.length_map]
    rw [if_neg (by omega), wrap_succ (by omega)]
  | succ e ih =>
    intro j hj
    have hjl : j < l.length := by omega
    have ihj := ih (j + 1) (by omega)
    rw [range_drop hjl, List.all_cons]
    by_cases hji : j = i
    · rw [show innT l i j = true from by unfold innT; rw [decide_eq_true hji, Bool.true_or], Bool.true_and]
      refine Ev.step (f := fun k => saleroomref11_Tight.l1 k (l.map toE) (i : Int) ((j + 1 : Nat) : Int) l[i].1 l[i].2) (fun k => ?_) ihj
      simp only [saleroomref11_Tight.l1, List.length_map]
      rw [if_pos (by omega), if_pos (by omega), wrap_succ (by omega)]
    · have hin : innT l i j = !(wi l[j].1 l[i].1 && decide (l[i].2 ≤ l[j].2)) := by unfold innT; rw [decide_eq_false hji, Bool.false_or, getD_at hjl, getD_at hi]
      rw [hin]
      refine Ev.step (f := fun k => (saleroomref02_Within.f k l[j].1 l[i].1).bind fun t171 => (if t171 = true then (if l[j].2 ≥ l[i].2 then (some false) else (saleroomref11_Tight.l1 k (l.map toE) (i : Int) ((j + 1 : Nat) : Int) l[i].1 l[i].2)) else (saleroomref11_Tight.l1 k (l.map toE) (i : Int) ((j + 1 : Nat) : Int) l[i].1 l[i].2))) (fun k => ?_) (Ev.bind (within_ev (hU _ (List.getElem_mem hjl)) (hU _ (List.getElem_mem hi))) ?_)
      · simp only [saleroomref11_Tight.l1, List.length_map]
        rw [if_pos (by omega), if_neg (by omega), if_pos (by omega), rdE l hjl, wrap_succ (by omega)]
        rfl
      · cases hw : wi l[j].1 l[i].1 with
        | false =>
          refine Ev.congr (fun k => if_neg (by decide)) ?_
          simpa using ihj
        | true =>
          refine Ev.congr (fun k => if_pos rfl) ?_
          by_cases hle : l[j].2 ≥ l[i].2
          · rw [decide_eq_true (show l[i].2 ≤ l[j].2 from hle)]
            exact Ev.congr (fun k => if_pos hle) (Ev.now _)
          · rw [decide_eq_false (show ¬ l[i].2 ≤ l[j].2 from hle)]
            refine Ev.congr (fun k => if_neg hle) ?_
            simpa using ihj
theorem cmpR_ge (a b : Int) : decide (cmpR a b ≥ 0) = !(ltS a b) := by
  have := cmpR_neg a b
  cases h : ltS a b with
  | true => rw [h] at this; simp; exact this.2 rfl
  | false => rw [h] at this; simp; simp at this; exact this
theorem rtight_ev (l : List En) (hU : UE l) (hl : l.length ≤ 1099511627776) : Ev (fun k => saleroomref11_Tight.f k (l.map toE)) ((List.range l.length).all (rowT l)) := by
  have key : ∀ e i, i + e = l.length → Ev (fun k => saleroomref11_Tight.l0 k (l.map toE) (i : Int)) (((List.range l.length).drop i).all (rowT l)) := by
    intro e
    induction e with
    | zero =>
      intro i hi
      rw [List.drop_eq_nil_of_le (by simp; omega), List.all_nil]
      refine Ev.step (f := fun _ => some true) (fun k => ?_) (Ev.now _)
      simp only [saleroomref11_Tight.l0, List.length_map]
      rw [if_neg (by omega)]
    | succ e ih =>
      intro i hi
      have hil : i < l.length := by omega
      have ihi := ih (i + 1) (by omega)
      have h1 := rtight_l1 l hU hl i hil _ ihi l.length 0 (by omega)
      rw [List.drop_zero] at h1
      rw [range_drop hil, List.all_cons]
      have hj : ∀ t : Bool, rowT l i = (!t && (List.range l.length).all (innT l i)) → Ev (fun k => saleroomref11_Tight.j1 k (l.map toE) (i : Int) t l[i].1 l[i].2) (rowT l i && ((List.range l.length).drop (i + 1)).all (rowT l)) := by
        intro t ht
        rw [ht]
        cases t with
        | true =>
          refine Ev.step (f := fun _ => some false) (fun k => ?_) (Ev.now _)
          simp only [saleroomref11_Tight.j1]
          rw [if_pos trivial]
        | false =>
          refine Ev.step (f := fun k => saleroomref11_Tight.l1 k (l.map toE) (i : Int) 0 l[i].1 l[i].2) (fun k => ?_) (by simpa using h1)
          simp only [saleroomref11_Tight.j1]
          rw [if_neg (by decide)]
      have hr : rowT l i = (!decide (l[i].1 = 0) && decide (1 ≤ l[i].2) && decide (l[i].2 ≤ most) && (decide (i = 0) || ltS (l.getD (i - 1) dE).1 l[i].1) && (List.range l.length).all (innT l i)) := by unfold rowT; rw [getD_at hil]
      by_cases c1 : l[i].1 = 0
      · refine Ev.step (f := fun k => saleroomref11_Tight.j1 k (l.map toE) (i : Int) true l[i].1 l[i].2) (fun k => ?_) (hj true (by rw [hr]; simp [c1]))
        simp only [saleroomref11_Tight.l0, List.length_map]
        rw [if_pos (by omega), if_pos (by omega), rdE l hil, if_pos (by simpa [toE] using c1)]
        rfl
      · by_cases c2 : l[i].2 < 1
        · refine Ev.step (f := fun k => saleroomref11_Tight.j1 k (l.map toE) (i : Int) true l[i].1 l[i].2) (fun k => ?_) (hj true (by rw [hr, decide_eq_false (show ¬ 1 ≤ l[i].2 by omega)]; simp))
          simp only [saleroomref11_Tight.l0, List.length_map]
          rw [if_pos (by omega), if_pos (by omega), rdE l hil, if_neg (by simpa [toE] using c1), if_pos (by simpa [toE] using c2)]
          rfl
        · by_cases c3 : l[i].2 > 2199023255552
          · refine Ev.step (f := fun k => saleroomref11_Tight.j1 k (l.map toE) (i : Int) true l[i].1 l[i].2) (fun k => ?_) (hj true (by rw [hr, decide_eq_false (show ¬ l[i].2 ≤ most by unfold most; omega)]; simp))
            simp only [saleroomref11_Tight.l0, List.length_map]
            rw [if_pos (by omega), if_pos (by omega), rdE l hil, if_neg (by simpa [toE] using c1), if_neg (by simpa [toE] using c2), if_pos (by simpa [toE] using c3)]
            rfl
          · rw [decide_eq_false c1, decide_eq_true (show 1 ≤ l[i].2 by omega), decide_eq_true (show l[i].2 ≤ most by unfold most; omega)] at hr
            simp only [Bool.not_false, Bool.true_and] at hr
            by_cases c4 : i = 0
            · refine Ev.step (f := fun k => saleroomref11_Tight.j1 k (l.map toE) (i : Int) false l[i].1 l[i].2) (fun k => ?_) (hj false (by rw [hr, decide_eq_true c4]; simp))
              simp only [saleroomref11_Tight.l0, List.length_map]
              rw [if_pos (by omega), if_pos (by omega), rdE l hil, if_neg (by simpa [toE] using c1), if_neg (by simpa [toE] using c2), if_neg (by simpa [toE] using c3), if_neg (by omega)]
              rfl
            · have hi1 : i - 1 < l.length := by omega
              rw [decide_eq_false c4, Bool.false_or, getD_at hi1] at hr
              have hw : wrap64 ((i : Int) - 1) = ((i - 1 : Nat) : Int) := by unfold wrap64; omega
              refine Ev.step (f := fun k => (saleroomref02_Cmp.f k l[i - 1].1 l[i].1).bind fun t169 => (saleroomref11_Tight.j1 k (l.map toE) (i : Int) (decide (t169 ≥ 0)) l[i].1 l[i].2)) (fun k => ?_) (Ev.bind (cmp_ev (hU _ (List.getElem_mem hi1)) (hU _ (List.getElem_mem hil))) (hj _ (by rw [hr, cmpR_ge, Bool.not_not])))
              simp only [saleroomref11_Tight.l0, List.length_map]
              rw [if_pos (by omega), if_pos (by omega), rdE l hil, if_neg (by simpa [toE] using c1), if_neg (by simpa [toE] using c2), if_neg (by simpa [toE] using c3), if_pos (by omega), hw, if_pos (by omega), if_pos (by omega), rdE l hi1]
              rfl
  exact key l.length 0 (by omega)
theorem tight_rows {l : List En} (hU : UE l) : (List.range l.length).all (rowT l) = decide (ofL l = l) := by
  rw [Bool.eq_iff_iff, decide_eq_true_eq, tight_iff hU, List.all_eq_true]
  constructor
  · intro h
    have row : ∀ i (hi : i < l.length), l[i].1 ≠ 0 ∧ 1 ≤ l[i].2 ∧ l[i].2 ≤ most ∧ (∀ h0 : 0 < i, ltS (l[i - 1]'(by omega)).1 l[i].1 = true) ∧ ∀ j (hj : j < l.length), j ≠ i → ¬ (wi l[j].1 l[i].1 = true ∧ l[i].2 ≤ l[j].2) := fun i hi => by
      have := h i (List.mem_range.2 hi)
      unfold rowT at this
      rw [getD_at hi] at this
      simp only [Bool.and_eq_true, Bool.not_eq_true', decide_eq_false_iff_not, decide_eq_true_eq, Bool.or_eq_true, List.all_eq_true] at this
      obtain ⟨⟨⟨⟨a1, a2⟩, a3⟩, a4⟩, a5⟩ := this
      refine ⟨a1, a2, a3, fun h0 => ?_, fun j hj hne hw => ?_⟩
      · rcases a4 with a4 | a4
        · omega
        · rw [getD_at (by omega)] at a4; exact a4
      · have := a5 j (List.mem_range.2 hj)
        unfold innT at this
        rw [getD_at hj, getD_at hi, decide_eq_false hne, Bool.false_or, hw.1, decide_eq_true hw.2] at this
        cases this
    have far : ∀ d i (hi : i + d + 1 < l.length), ltS (l[i]'(by omega)).1 (l[i + d + 1]'hi).1 = true := by
      intro d
      induction d with
      | zero => intro i hi; have := (row (i + 1) hi).2.2.2.1 (by omega); simpa using this
      | succ d ih =>
        intro i hi
        have h1 := ih i (by omega)
        have h2 := (row (i + (d + 1) + 1) hi).2.2.2.1 (by omega)
        have e2 : i + (d + 1) + 1 - 1 = i + d + 1 := by omega
        simp only [e2] at h2
        exact ltS_trans h1 h2
    refine ⟨List.pairwise_iff_getElem.2 (fun i j hi hj hij => ?_), fun e he => ?_, fun e he f hf hw hne => ?_⟩
    · have := far (j - i - 1) i (by omega)
      have e1 : i + (j - i - 1) + 1 = j := by omega
      simp only [e1] at this
      exact this
    · obtain ⟨i, hi, rfl⟩ := List.getElem_of_mem he
      exact ⟨hU _ he, (row i hi).1, (row i hi).2.1, (row i hi).2.2.1⟩
    · obtain ⟨j, hj, rfl⟩ := List.getElem_of_mem he
      obtain ⟨i, hi, rfl⟩ := List.getElem_of_mem hf
      have := (row i hi).2.2.2.2 j hj (fun e => hne (by subst e; rfl))
      rcases Int.lt_or_le l[j].2 l[i].2 with h1 | h1
      · exact h1
      · exact absurd ⟨hw, h1⟩ this
  · intro hT i hi
    have hi := List.mem_range.1 hi
    obtain ⟨_, b1, b2, b3⟩ := hT.ok _ (List.getElem_mem hi)
    unfold rowT
    rw [getD_at hi]
    simp only [Bool.and_eq_true, Bool.not_eq_true', decide_eq_false_iff_not, decide_eq_true_eq, Bool.or_eq_true, List.all_eq_true]
    refine ⟨⟨⟨⟨b1, b2⟩, b3⟩, ?_⟩, fun j hj => ?_⟩
    · by_cases h0 : i = 0
      · exact .inl h0
      · refine .inr ?_
        rw [getD_at (by omega)]
        exact List.pairwise_iff_getElem.1 hT.sd (i - 1) i (by omega) hi (by omega)
    · have hj := List.mem_range.1 hj
      unfold innT
      rw [getD_at hj, getD_at hi]
      by_cases hji : j = i
      · rw [decide_eq_true hji, Bool.true_or]
      · rw [decide_eq_false hji, Bool.false_or]
        cases hw : wi l[j].1 l[i].1 with
        | false => rfl
        | true =>
          have hne : l[j].1 ≠ l[i].1 := fun e => by
            rcases Nat.lt_or_gt_of_ne hji with h1 | h1
            · have := List.pairwise_iff_getElem.1 hT.sd j i hj hi h1
              rw [e, ltS_irr] at this; cases this
            · have := List.pairwise_iff_getElem.1 hT.sd i j hi hj h1
              rw [e, ltS_irr] at this; cases this
          have := hT.tt _ (List.getElem_mem hj) _ (List.getElem_mem hi) hw hne
          rw [decide_eq_false (by omega)]
          rfl
/-! the contracts -/
theorem rsame_any (W : World) (v u : Value) (l m : List En) (h : PE W v l) (k : PE W u m) (hl : l.length ≤ 1099511627776) :
    Calls Try.prog 16 #[v, u] W fun e w' => e = .returned (.bool (decide (l = m))) ∧ Below W.heap.size W w' := by
  obtain ⟨A, c, rfl, h1, _, h2⟩ := h
  obtain ⟨B, d, rfl, k1, _, k2⟩ := k
  obtain ⟨n, hn⟩ := (rsame_ev l m hl).rounds
  have := saleroomref11_Same.calls n A c (l.map toE) B d (m.map toE) (decide (l = m)) W (by rw [List.length_map]; exact h2) (by rw [List.length_map]; exact h1) (by rw [List.length_map]; exact k2) (by rw [List.length_map]; exact k1) hn
  rw [List.length_map, List.length_map] at this
  exact this.mono fun e w' ⟨x, y⟩ => ⟨x, y.below⟩
theorem rtight_any (W : World) (v : Value) (l : List En) (h : PE W v l) (hU : UE l) (hl : l.length ≤ 1099511627776) :
    Calls Try.prog 19 #[v] W fun e w' => e = .returned (.bool (decide (ofL l = l))) ∧ Below W.heap.size W w' := by
  rw [← tight_rows hU]
  obtain ⟨A, c, rfl, h1, _, h2⟩ := h
  obtain ⟨n, hn⟩ := (rtight_ev l hU hl).rounds
  have := saleroomref11_Tight.calls n A c (l.map toE) _ W (by rw [List.length_map]; exact h2) (by rw [List.length_map]; exact h1) hn
  rw [List.length_map] at this
  exact this
/-- a row of the reference's own is entries -/
theorem pe_R {W : World} {base : Nat} {ok : Nat → Prop} {v : Value} {l : List En} (h : Kd.R k41 41 W base ok v (l.map toE)) : PE W v l := by
  obtain ⟨A, c, rfl, h1, h2⟩ := Kd.R_reads h
  refine ⟨A, c, by rw [List.length_map], by rw [List.length_map] at h1; exact h1, fun e => ?_, by rw [List.length_map] at h2; exact h2⟩
  obtain ⟨_, inner, ho, _⟩ := h
  subst e
  rcases ho.2 with ⟨h3, _⟩ | ⟨g, cap, cur, h3, _⟩
  · injection h3
  · cases h3
end Go.Proofs.Ytnlhgnioedalpaa.Pri
