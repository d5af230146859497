/- PriW, ChkR, PriR, PriceClones, ChkAl, ChkD, PriX, laid together. -/
import Derived.Test.YtnlhgnioedalpaaGr06
import Derived.BigRegionIn
import Derived.Test.YtnlhgnioedalpaaPPricePlaysx5
import Derived.Test.YtnlhgnioedalpaaPPricePlaysx6
import Derived.BigQuiet
import Derived.WalkSmall
import Derived.Deep.DeepCutAuto

/- price: Less, Merge. -/
set_option linter.unusedSimpArgs false
set_option linter.unusedVariables false
namespace Go.Proofs.Ytnlhgnioedalpaa.Pri
open Go.RowKit Go.Proofs.YtnlhgnioedalpaaW.PrintWords Go.Proofs.Ytnlhgnioedalpaa.PPricePlays
attribute [local go_sem] Oper.semAt_some

/-- a step that turns one thing that is no cell -/
abbrev RowOk (A : World) (row : Option Nat) : Prop := ∀ r, row = some r → ∃ o : Obj, A.heap[r]? = some o ∧ o.isCells = false
theorem blk_row1 {A B : World} {b : Nat} {t : TypeId} {l : List Value} (h : Blk A b t l) {row : Option Nat} (hg : A.grownBy B row) (hr : RowOk A row) : Blk B b t l :=
  h.kept hg (fun e => by
    obtain ⟨o, ho, hc⟩ := hr b e.symm
    have hs' : A.heap[b]? = _ := h
    rw [hs'] at ho
    cases ho
    simp [Obj.isCells] at hc)
theorem PE.row {A B : World} {row : Option Nat} {v : Value} {l : List En} (h : PE A v l) (hg : A.grownBy B row) (hr : RowOk A row) : PE B v l := by
  obtain ⟨a, c, rfl, h1, h2, h3⟩ := h
  refine ⟨a, c, rfl, h1, h2, h3.1, h3.2.1, fun hpos => ?_⟩
  obtain ⟨a, rfl, hq⟩ := h3.2.2 hpos
  refine ⟨a, rfl, fun j x hx => ?_⟩
  obtain ⟨cs, hl, hk, hc⟩ := hq j x hx
  obtain rfl := k41_open hk
  refine ⟨_, hl, k41_mk B x, fun i u hu => ?_⟩
  have hcu := hc i u hu
  have hsp := cell_spot hcu
  rw [hsp.1] at hcu ⊢
  have e : B.cell? ⟨(a.add (j * k41.sz + i)).block, (a.add (j * k41.sz + i)).off, none⟩ = A.cell? ⟨(a.add (j * k41.sz + i)).block, (a.add (j * k41.sz + i)).off, none⟩ := by
    unfold World.cell?
    rw [hg.block _ hsp.2 (fun e => ?_)]
    obtain ⟨o, ho, hcell⟩ := hr _ e.symm
    simp only [World.cell?, ho] at hcu
    cases o with
    | cells => simp [Obj.isCells] at hcell
    | _ => simp at hcu
  rw [e]; exact hcu
theorem PR.row {A B : World} {row : Option Nat} {p : Nat} {l : List En} (h : PR A p l) (hg : A.grownBy B row) (hr : RowOk A row) : PR B p l := by
  obtain ⟨v, h1, h2⟩ := h
  exact ⟨v, blk_row1 h1 hg hr, h2.row hg hr⟩
theorem SR.row {A B : World} {row : Option Nat} {p : Nat} {l : List En} (h : SR A p l) (hg : A.grownBy B row) (hr : RowOk A row) : SR B p l := ⟨h.pr.row hg hr, h.ue, h.ti, h.len⟩
theorem SR.alloc {A : World} {p : Nat} {l : List En} (h : SR A p l) (o : Obj) : SR (A.alloc o) p l := h.below ((Below.refl _ A).alloc (Nat.le_refl _) o)

def mk (D : Nat) : Deferred := { target := .collected D, args := #[] }
/-- the marks of ranges that are over -/
def Marks (lo hi : Nat) (ds : List Deferred) (W : World) : Prop := ∃ Ds : List Nat, ds = Ds.map mk ∧ Ds.Nodup ∧ ∀ D ∈ Ds, (lo ≤ D ∧ D < hi) ∧ W.heap[D]? = some (.deferred (some []))
theorem Marks.nil (lo hi : Nat) (W : World) : Marks lo hi [] W := ⟨[], rfl, List.nodup_nil, by simp⟩
theorem Marks.up {lo hi hi' : Nat} {ds : List Deferred} {W : World} (h : Marks lo hi ds W) (hh : hi ≤ hi') : Marks lo hi' ds W := by
  obtain ⟨Ds, h1, h2, h3⟩ := h
  exact ⟨Ds, h1, h2, fun D hD => ⟨⟨(h3 D hD).1.1, Nat.lt_of_lt_of_le (h3 D hD).1.2 hh⟩, (h3 D hD).2⟩⟩
theorem Marks.cons {lo hi D : Nat} {ds : List Deferred} {W : World} (h : Marks lo hi ds W) (hl : lo ≤ D) (hh : hi ≤ D) (hD : W.heap[D]? = some (.deferred (some []))) : Marks lo (D + 1) (mk D :: ds) W := by
  obtain ⟨Ds, h1, h2, h3⟩ := h
  refine ⟨D :: Ds, by rw [h1]; rfl, List.nodup_cons.2 ⟨fun hm => by have := (h3 D hm).1.2; omega, h2⟩, fun E hE => ?_⟩
  rcases List.mem_cons.1 hE with rfl | hE
  · exact ⟨⟨hl, by omega⟩, hD⟩
  · exact ⟨⟨(h3 E hE).1.1, by have := (h3 E hE).1.2; omega⟩, (h3 E hE).2⟩
theorem Marks.gb {lo hi : Nat} {ds : List Deferred} {A B : World} (h : Marks lo hi ds A) {row : Option Nat} (hg : A.grownBy B row) (hr : ∀ r, row = some r → hi ≤ r ∨ ∃ o : Obj, A.heap[r]? = some o ∧ o.isCells = true) : Marks lo hi ds B := by
  obtain ⟨Ds, h1, h2, h3⟩ := h
  refine ⟨Ds, h1, h2, fun D hD => ⟨(h3 D hD).1, (hg.block D (Array.getElem?_eq_some_iff.1 (h3 D hD).2).1 (fun e => ?_)).trans (h3 D hD).2⟩⟩
  rcases hr D e.symm with h | ⟨o, ho, hc⟩
  · have := (h3 D hD).1.2; omega
  · rw [(h3 D hD).2] at ho
    cases ho
    simp [Obj.isCells] at hc
theorem Marks.below {lo hi : Nat} {ds : List Deferred} {A B : World} (h : Marks lo hi ds A) (hb : Below A.heap.size A B) : Marks lo hi ds B :=
  h.gb (row := none) ⟨hb.os, hb.tape, hb.output, hb.size, fun k hk _ => hb.block k hk⟩ (fun r e => by cases e)
/-- a function with marks leaves as one without -/
theorem Marks.leave {lo hi : Nat} {F : Fence} {n : Nat} {P : Program} {fn : Func} {tmps : Array Value} {R : Ending → World → Prop} (G : World → Prop)
    (hG : ∀ A D, lo ≤ D → G A → A.heap[D]? = some (.deferred (some [])) → G (A.putObj D (.deferred none)))
    (hR : ∀ A, G A → LeavesIn F n P fn tmps R [] .returning A) : ∀ {ds : List Deferred} {W : World}, Marks lo hi ds W → G W → LeavesInM F n P fn tmps R ds .returning W := by
  rintro ds W ⟨Ds, rfl, h2, h3⟩ hW
  induction Ds generalizing W with
  | nil => exact hR W hW
  | cons D Ds ih =>
    have hD := h3 D (List.mem_cons_self ..)
    refine ⟨by simp, .inl ⟨_, _, rfl, run_takeDeferred hD.2, ?_⟩⟩
    refine ih (W := W.putObj D (.deferred none)) (List.nodup_cons.1 h2).2 (fun E hE => ⟨(h3 E (List.mem_cons_of_mem _ hE)).1, ?_⟩) (hG W D hD.1.1 hW hD.2)
    rw [World.putObj_heap_other (fun e => (List.nodup_cons.1 h2).1 (by rw [e] at hE; exact hE))]
    exact (h3 E (List.mem_cons_of_mem _ hE)).2

/-- for none of the first k do es ask less -/
def NL (es fs : List En) (k : Nat) : Prop := ∀ j, j < k → ¬ askL es (fs.getD j dE).1 < (fs.getD j dE).2
theorem NL.succ {es fs : List En} {k : Nat} (h : NL es fs k) (hk : ¬ askL es (fs.getD k dE).1 < (fs.getD k dE).2) : NL es fs (k + 1) := fun j hj => by
  by_cases hjk : j = k
  · subst hjk; exact hk
  · exact h j (by omega)
/-- what Less keeps -/
structure LI (W : World) (p q : Nat) (x y : Value) (W' : World) : Prop where
  b1 : Blk W' W.heap.size 25 [.pointer (some ⟨p, 0, none⟩)]
  b2 : Blk W' (W.heap.size + 1) 32 [x]
  b3 : Blk W' (W.heap.size + 1 + 1) 4 [y]
  b4 : Blk W' (W.heap.size + 1 + 1 + 1) 25 [.pointer (some ⟨q, 0, none⟩)]
  bel : Below W.heap.size W W'
theorem LI.row {W : World} {p q : Nat} {x y : Value} {A B : World} (h : LI W p q x y A) {row : Option Nat} (hg : A.grownBy B row) (hr : ∀ r, row = some r → W.heap.size ≤ r ∧ ∃ o : Obj, A.heap[r]? = some o ∧ o.isCells = false) : LI W p q x y B :=
  have k : RowOk A row := fun r e => (hr r e).2
  ⟨blk_row1 h.b1 hg k, blk_row1 h.b2 hg k, blk_row1 h.b3 hg k, blk_row1 h.b4 hg k, h.bel.grown hg h.bel.size (fun r e => (hr r e).1)⟩
theorem LI.ownF (W : World) (p q : Nat) (x y : Value) {b : Nat} (hb : W.heap.size ≤ b) : OwnFrom b (fun (_ : Unit) W' => LI W p q x y W') := fun s A B row hs hg hr =>
  hs.row hg (fun r e => ⟨Nat.le_trans hb (hr r e).1, (hr r e).2⟩)
theorem LI.alloc {W : World} {p q : Nat} {x y : Value} {A : World} (h : LI W p q x y A) (o : Obj) : LI W p q x y (A.alloc o) := h.row (World.grownBy_alloc A o none) (fun r e => by cases e)
theorem LI.below {W : World} {p q : Nat} {x y : Value} {A B : World} (h : LI W p q x y A) (hb : Below A.heap.size A B) : LI W p q x y B :=
  ⟨h.b1.belowS hb, h.b2.belowS hb, h.b3.belowS hb, h.b4.belowS hb, h.bel.trans (hb.mono h.bel.size)⟩
theorem LI.wrote {W : World} {p q : Nat} {x y : Value} {A : World} (h : LI W p q x y A) (u v : Value) : LI W p q u v ((A.setCell ⟨W.heap.size + 1, 0, none⟩ u).setCell ⟨W.heap.size + 1 + 1, 0, none⟩ v) :=
  ⟨(h.b1.other (by simp) _).other (by simp; omega) _, (h.b2.set 0 _).other (by simp) _, (h.b3.other (by simp) _).set 0 _, (h.b4.other (by simp; omega) _).other (by simp) _,
    (h.bel.setCell (p := ⟨W.heap.size + 1, 0, none⟩) (by simp) _).setCell (p := ⟨W.heap.size + 1 + 1, 0, none⟩) (by simp; omega) _⟩
/-- the slice v reads as pointers to the stores ps -/
def MS (W : World) (v : Value) (ps : List (Nat × List En)) : Prop := ∃ A c, v = .slice A ps.length c ∧ ∀ (i : Nat) q, ps[i]? = some q → ∃ b off, A = some ⟨b, off, none⟩ ∧ b < W.heap.size ∧ W.cell? ⟨b, off + i, none⟩ = some (.pointer (some ⟨q.1, 0, none⟩)) ∧ SR W q.1 q.2
theorem MS.below {W W' : World} {v : Value} {ps : List (Nat × List En)} (h : MS W v ps) (hb : Below W.heap.size W W') : MS W' v ps := by
  obtain ⟨A, c, rfl, hp⟩ := h
  refine ⟨A, c, rfl, fun i q hq => ?_⟩
  obtain ⟨b, off, e, hlt, hc, hs⟩ := hp i q hq
  exact ⟨b, off, e, Nat.lt_of_lt_of_le hlt hb.size, (hb.cell (p := ⟨b, off + i, none⟩) hlt).trans hc, hs.below hb⟩
theorem ofL_len (es : List En) : (ofL es).length ≤ es.length := by
  suffices h : ∀ (es o : List En), (es.foldl (fun o e => putP o e.1 e.2) o).length ≤ o.length + es.length from by have := h es []; unfold ofL; simpa using this
  intro es
  induction es with
  | nil => intro o; simp
  | cons e es ih => intro o; have := ih (putP o e.1 e.2); have := put_len o e.1 e.2; simp only [List.foldl_cons, List.length_cons]; omega
/-- and between two entries -/
structure MJ (W : World) (L : List En) (B1 hi p : Nat) (ds : List Deferred) (W' : World) : Prop where
  s : SR W' W.heap.size (ofL L)
  b : Blk W' (W.heap.size + 1) 25 [.pointer (some ⟨W.heap.size, 0, none⟩)]
  b1 : Blk W' B1 25 [.pointer (some ⟨p, 0, none⟩)]
  bel : Below W.heap.size W W'
  m : Marks W.heap.size hi ds W'
theorem MJ.row {W : World} {L : List En} {B1 hi p : Nat} {ds : List Deferred} {A B : World} (h : MJ W L B1 hi p ds A) {row : Option Nat} (hg : A.grownBy B row) (hr : ∀ r, row = some r → hi ≤ r ∧ ∃ o : Obj, A.heap[r]? = some o ∧ o.isCells = false) (hh : W.heap.size ≤ hi) : MJ W L B1 hi p ds B :=
  have k : RowOk A row := fun r e => (hr r e).2
  ⟨h.s.row hg k, blk_row1 h.b hg k, blk_row1 h.b1 hg k, h.bel.grown hg h.bel.size (fun r e => Nat.le_trans hh (hr r e).1), h.m.gb hg (fun r e => .inl (hr r e).1)⟩
theorem MJ.alloc {W : World} {L : List En} {B1 hi p : Nat} {ds : List Deferred} {A : World} (h : MJ W L B1 hi p ds A) (o : Obj) (hh : W.heap.size ≤ hi) : MJ W L B1 hi p ds (A.alloc o) := h.row (World.grownBy_alloc A o none) (fun r e => by cases e) hh
theorem MJ.put {W : World} {L L' : List En} {B1 hi p : Nat} {ds : List Deferred} {A B : World} (h : MJ W L B1 hi p ds A) (hs : SR B W.heap.size (ofL L')) (hg : A.grownBy B (some W.heap.size)) (h1 : B1 ≠ W.heap.size) : MJ W L' B1 hi p ds B :=
  ⟨hs, h.b.kept hg (by simp), h.b1.kept hg (by simp; omega), h.bel.grown hg h.bel.size (fun r e => by cases e; exact Nat.le_refl _), h.m.gb hg (fun r e => by
    cases e
    obtain ⟨v, hb, _⟩ := h.s.pr
    exact .inr ⟨_, hb, rfl⟩)⟩
end Go.Proofs.Ytnlhgnioedalpaa.Pri

/- check: the report. -/
set_option linter.unusedSimpArgs false
set_option linter.unusedVariables false
namespace Go.Proofs.Ytnlhgnioedalpaa.Pri
open Go.RowKit Go.Proofs.YtnlhgnioedalpaaW.PrintWords Go.Proofs.Ytnlhgnioedalpaa.PPricePlays Go.Maps
attribute [local go_sem] Oper.semAt_some

/-- the slice v reads as slices that read as the lists of L -/
def PEE (W : World) (v : Value) (L : List (List En)) : Prop := ∃ A c, v = .slice A L.length c ∧ ∀ (i : Nat) l, L[i]? = some l → ∃ b off A1 c1, A = some ⟨b, off, none⟩ ∧ b < W.heap.size ∧ W.cell? ⟨b, off + i, none⟩ = some (.slice A1 l.length c1) ∧ PE W (.slice A1 l.length c1) l
theorem PEE.below {W W' : World} {v : Value} {L : List (List En)} (h : PEE W v L) (hb : Below W.heap.size W W') : PEE W' v L := by
  obtain ⟨A, c, rfl, h1⟩ := h
  refine ⟨A, c, rfl, fun i l hl => ?_⟩
  obtain ⟨b, off, A1, c1, e, hlt, hc, hp⟩ := h1 i l hl
  exact ⟨b, off, A1, c1, e, Nat.lt_of_lt_of_le hlt hb.size, (hb.cell (p := ⟨b, off + i, none⟩) hlt).trans hc, hp.below hb⟩
/-- the slice v reads as pointers to stores, or nil -/
def PS (W : World) (v : Value) (S : List (Option (Nat × List En))) : Prop := ∃ A c, v = .slice A S.length c ∧ ∀ (i : Nat) o, S[i]? = some o → ∃ b off, A = some ⟨b, off, none⟩ ∧ b < W.heap.size ∧ W.cell? ⟨b, off + i, none⟩ = some (.pointer (o.map (fun q => ⟨q.1, 0, none⟩))) ∧ ∀ q, o = some q → SR W q.1 q.2
theorem PS.below {W W' : World} {v : Value} {S : List (Option (Nat × List En))} (h : PS W v S) (hb : Below W.heap.size W W') : PS W' v S := by
  obtain ⟨A, c, rfl, h1⟩ := h
  refine ⟨A, c, rfl, fun i o ho => ?_⟩
  obtain ⟨b, off, e, hlt, hc, hp⟩ := h1 i o ho
  exact ⟨b, off, e, Nat.lt_of_lt_of_le hlt hb.size, (hb.cell (p := ⟨b, off + i, none⟩) hlt).trans hc, fun q hq => (hp q hq).below hb⟩
theorem PEE.at {W : World} {v : Value} {L : List (List En)} (h : PEE W v L) {k : Nat} {l : List En} (hl : L[k]? = some l) : ∃ b off c A1 c1, v = .slice (some ⟨b, off, none⟩) L.length c ∧ b < W.heap.size ∧ W.cell? ⟨b, off + k, none⟩ = some (.slice A1 l.length c1) ∧ PE W (.slice A1 l.length c1) l := by
  obtain ⟨A, c, rfl, h1⟩ := h
  obtain ⟨b, off, A1, c1, rfl, hlt, hc, hp⟩ := h1 k l hl
  exact ⟨b, off, c, A1, c1, rfl, hlt, hc, hp⟩
end Go.Proofs.Ytnlhgnioedalpaa.Pri

/- price: the document's functions in plain words. -/
set_option linter.unusedSimpArgs false
set_option linter.unusedVariables false
namespace Go.Proofs.Ytnlhgnioedalpaa.Pri
open Go.RowKit Go.Proofs.YtnlhgnioedalpaaW.PrintWords Go.Proofs.Ytnlhgnioedalpaa.PPricePlays
attribute [local go_sem] Oper.semAt_some

theorem rsame_ev (l m : List En) (hl : l.length ≤ 1099511627776) : Ev (fun k => saleroomref11_Same.f k (l.map toE) (m.map toE)) (decide (l = m)) := by
  have key : l.length = m.length → ∀ e i, i + e = l.length → Ev (fun k => saleroomref11_Same.l0 k (l.map toE) (m.map toE) (i : Int)) (decide (l.drop i = m.drop i)) := by
    intro he e
    induction e with
    | zero =>
      intro i hi
      rw [List.drop_eq_nil_of_le (show l.length ≤ i by omega), List.drop_eq_nil_of_le (show m.length ≤ i by omega), decide_eq_true rfl]
      refine Ev.step (f := fun _ => some true) (fun k => ?_) (Ev.now _)
      simp only [saleroomref11_Same.l0, List.length_map]
      rw [if_neg (by omega)]
    | succ e ih =>
      intro i hi
      have hil : i < l.length := by omega
      have him : i < m.length := by omega
      have e1 : l.drop i = l[i] :: l.drop (i + 1) := (List.getElem_cons_drop ..).symm
      have e2 : m.drop i = m[i] :: m.drop (i + 1) := (List.getElem_cons_drop ..).symm
      by_cases h : l[i] = m[i]
      · have hd : decide (l.drop i = m.drop i) = decide (l.drop (i + 1) = m.drop (i + 1)) := decide_eq_decide.2 (by rw [e1, e2, h]; exact ⟨fun q => (List.cons.inj q).2, fun q => by rw [q]⟩)
        rw [hd]
        refine Ev.step (f := fun k => saleroomref11_Same.l0 k (l.map toE) (m.map toE) ((i + 1 : Nat) : Int)) (fun k => ?_) (ih (i + 1) (by omega))
        simp only [saleroomref11_Same.l0, List.length_map]
        rw [if_pos (by omega), if_pos (by omega), if_pos (by omega), rdE l hil, rdE m him, h, if_neg (by simp), wrap_succ (by omega)]
      · have hd : decide (l.drop i = m.drop i) = false := by rw [e1, e2]; exact decide_eq_false (fun q => h (List.cons.inj q).1)
        rw [hd]
        refine Ev.step (f := fun _ => some false) (fun k => ?_) (Ev.now _)
        simp only [saleroomref11_Same.l0, List.length_map]
        rw [if_pos (by omega), if_pos (by omega), if_pos (by omega), rdE l hil, rdE m him, if_pos]
        have : ¬ (l[i].1 = m[i].1 ∧ l[i].2 = m[i].2) := fun hh => h (Prod.ext hh.1 hh.2)
        simp only [toE]
        by_cases h1 : l[i].1 = m[i].1
        · have h2 : ¬ l[i].2 = m[i].2 := fun hh => this ⟨h1, hh⟩
          simp [h1, h2]
        · simp [h1]
  by_cases he : l.length = m.length
  · refine Ev.congr (fun k => ?_) (key he l.length 0 (by omega))
    simp only [saleroomref11_Same.f, List.length_map]
    rw [if_pos (by omega)]
    rfl
  · have hd : decide (l = m) = false := by simp; intro h; exact he (congrArg List.length h)
    rw [hd]
    refine Ev.congr (fun k => ?_) (Ev.now (r := false))
    simp only [saleroomref11_Same.f, List.length_map]
    rw [if_neg (by omega)]

/-! the contracts -/
theorem rsame_any (W : World) (v u : Value) (l m : List En) (h : PE W v l) (k : PE W u m) (hl : l.length ≤ 1099511627776) :
    Calls Try.prog 16 #[v, u] W fun e w' => e = .returned (.bool (decide (l = m))) ∧ Below W.heap.size W w' := by
  obtain ⟨A, c, rfl, h1, _, h2⟩ := h
  obtain ⟨B, d, rfl, k1, _, k2⟩ := k
  obtain ⟨n, hn⟩ := (rsame_ev l m hl).rounds
  have := saleroomref11_Same.calls n A c (l.map toE) B d (m.map toE) (decide (l = m)) W (by rw [List.length_map]; exact h2) (by rw [List.length_map]; exact h1) (by rw [List.length_map]; exact k2) (by rw [List.length_map]; exact k1) hn
  rw [List.length_map, List.length_map] at this
  exact this.mono fun e w' ⟨x, y⟩ => ⟨x, y.below⟩
/-- a row of the reference's own is entries -/
theorem pe_R {W : World} {base : Nat} {ok : Nat → Prop} {v : Value} {l : List En} (h : Kd.R k41 41 W base ok v (l.map toE)) : PE W v l := by
  obtain ⟨A, c, rfl, h1, h2⟩ := Kd.R_reads h
  refine ⟨A, c, by rw [List.length_map], by rw [List.length_map] at h1; exact h1, fun e => ?_, by rw [List.length_map] at h2; exact h2⟩
  obtain ⟨_, inner, ho, _⟩ := h
  subst e
  rcases ho.2 with ⟨h3, _⟩ | ⟨g, cap, cur, h3, _⟩
  · injection h3
  · cases h3
end Go.Proofs.Ytnlhgnioedalpaa.Pri

/- PriceClones: a clone goes its own way. -/
set_option linter.unusedSimpArgs false
set_option linter.unusedVariables false
namespace Go.Proofs.Ytnlhgnioedalpaa.Pri
open Go.RowKit Go.Proofs.YtnlhgnioedalpaaW.PrintWords Go.Proofs.Ytnlhgnioedalpaa.PPricePlays
attribute [local go_sem] Oper.semAt_some

theorem blk_ne {W : World} {a b : Nat} {t u : TypeId} {l m : List Value} (h : Blk W a t l) (k : Blk W b u m) (hn : t ≠ u) : a ≠ b := fun e => by
  subst e
  exact hn (h.inj k).1
/-- the result's cell and that of the number asked for -/
structure C0 (W : World) (mo : Int) (W' : World) : Prop where
  b5 : Blk W' W.heap.size 3 [.int .i64 mo]
  b6 : Blk W' (W.heap.size + 1) 4 [.bool false]
  bel : Below W.heap.size W W'
theorem C0.below {W : World} {mo : Int} {A B : World} (h : C0 W mo A) (hb : Below A.heap.size A B) : C0 W mo B := ⟨h.b5.belowS hb, h.b6.belowS hb, h.bel.trans (hb.mono h.bel.size)⟩
theorem C0.row {W : World} {mo : Int} {A B : World} (h : C0 W mo A) {row : Option Nat} (hg : A.grownBy B row) (hr : ∀ r, row = some r → W.heap.size ≤ r ∧ ∃ o : Obj, A.heap[r]? = some o ∧ o.isCells = false) : C0 W mo B :=
  have k : RowOk A row := fun r e => (hr r e).2
  ⟨blk_row1 h.b5 hg k, blk_row1 h.b6 hg k, h.bel.grown hg h.bel.size (fun r e => (hr r e).1)⟩
theorem C0.turn {W : World} {mo : Int} {A B : World} {q : Nat} {m : List En} (h : C0 W mo A) (hq : PR A q m) (hw : W.heap.size ≤ q) (hg : A.grownBy B (some q)) : C0 W mo B := by
  obtain ⟨v, hb, _⟩ := hq
  exact ⟨h.b5.kept hg (by have := blk_ne h.b5 hb (by decide); simpa using this), h.b6.kept hg (by have := blk_ne h.b6 hb (by decide); simpa using this), h.bel.grown hg h.bel.size (fun r e => by cases e; exact hw)⟩
/-- and the store, and what it was -/
structure CK (W : World) (p b8 : Nat) (v1 : Value) (P : List En) (mo : Int) (W' : World) : Prop where
  c : C0 W mo W'
  bw : Blk W' b8 tL [v1]
  lt : W.heap.size + 1 < b8
  p : SR W' p P
  v : PE W' v1 P
theorem CK.below {W : World} {p b8 : Nat} {v1 : Value} {P : List En} {mo : Int} {A B : World} (h : CK W p b8 v1 P mo A) (hb : Below A.heap.size A B) : CK W p b8 v1 P mo B :=
  ⟨h.c.below hb, h.bw.belowS hb, h.lt, h.p.below hb, h.v.below hb⟩
theorem CK.row {W : World} {p b8 : Nat} {v1 : Value} {P : List En} {mo : Int} {A B : World} (h : CK W p b8 v1 P mo A) {row : Option Nat} (hg : A.grownBy B row) (hr : ∀ r, row = some r → W.heap.size ≤ r ∧ ∃ o : Obj, A.heap[r]? = some o ∧ o.isCells = false) : CK W p b8 v1 P mo B :=
  have k : RowOk A row := fun r e => (hr r e).2
  ⟨h.c.row hg hr, blk_row1 h.bw hg k, h.lt, h.p.row hg k, h.v.row hg k⟩
theorem CK.turn {W : World} {p b8 q : Nat} {v1 : Value} {P m : List En} {mo : Int} {A B : World} (h : CK W p b8 v1 P mo A) (hq : SR A q m) (hw : W.heap.size ≤ q) (hne : p ≠ q) (hg : A.grownBy B (some q)) : CK W p b8 v1 P mo B := by
  have h2 := h.p.turn hq hne hg
  have h1 := h.c.turn hq.pr hw hg
  obtain ⟨u, hb, hpe⟩ := hq.pr
  obtain ⟨A2, c2, rfl, -⟩ := hpe
  exact ⟨h1, h.bw.kept hg (by have := blk_ne h.bw hb (by decide); simpa using this), h.lt, h2, h.v.turn hb hg⟩
theorem PE.one {W W' : World} {v : Value} {l : List En} {b : Nat} {t : TypeId} {x : Value} (h : PE W v l) (hb : Blk W b t [x]) (hx : ∀ z, x ≠ .int .u64 z) (hg : W.grownBy W' (some b)) : PE W' v l := by
  have hat := fun j q (hj : l[j]? = some q) => h.at hj
  obtain ⟨A, c, rfl, h1, h2, h3⟩ := h
  refine ⟨A, c, rfl, h1, h2, h3.1, h3.2.1, fun hpos => ?_⟩
  obtain ⟨a, rfl, hr⟩ := h3.2.2 hpos
  obtain ⟨b', off, c', e, hlt, r0, _⟩ := hat 0 _ (List.getElem?_eq_getElem (by simpa using hpos))
  injection e with e _ _
  injection e with e
  subst e
  have hne : b' ≠ b := fun e => by
    subst e
    have hrow := cell_of_row W b' (off + 0 * 2) [x].toArray t (0, 0) hb
    rw [hrow] at r0
    obtain ⟨o, ho⟩ : ∃ o, off + 0 * 2 = o := ⟨_, rfl⟩
    rw [ho] at r0
    cases o with
    | zero => exact hx _ (by simpa using r0)
    | succ o => simp at r0
  refine ⟨_, rfl, fun j q hq => ?_⟩
  obtain ⟨cs, hl, hk, hc⟩ := hr j q hq
  obtain rfl := k41_open hk
  refine ⟨_, hl, k41_mk W' q, fun i u hu => ?_⟩
  have hcu := hc i u hu
  rw [addr_add] at hcu ⊢
  have e : W'.cell? ⟨b', off + (j * k41.sz + i), none⟩ = W.cell? ⟨b', off + (j * k41.sz + i), none⟩ := by
    unfold World.cell?
    rw [hg.block _ hlt (by simpa using hne)]
  rw [e]; exact hcu
theorem SR.one {W W' : World} {p : Nat} {l : List En} {b : Nat} {t : TypeId} {x : Value} (h : SR W p l) (hb : Blk W b t [x]) (ht : tS ≠ t) (hx : ∀ z, x ≠ .int .u64 z) (hg : W.grownBy W' (some b)) : SR W' p l := by
  obtain ⟨v, kb, hpe⟩ := h.pr
  exact ⟨⟨v, kb.kept hg (by have := blk_ne kb hb ht; simpa using this), hpe.one hb hx hg⟩, h.ue, h.ti, h.len⟩
theorem CK.num {W : World} {p b8 : Nat} {v1 : Value} {P : List En} {mo : Int} {A : World} (h : CK W p b8 v1 P mo A) (m : Int) : CK W p b8 v1 P m (A.setCell ⟨W.heap.size, 0, none⟩ (.int .i64 m)) := by
  have hg := grownBy_setAt A W.heap.size 0 (.int .i64 m)
  have b5 := h.c.b5
  exact ⟨⟨b5.set 0 _, h.c.b6.other (p := ⟨W.heap.size, 0, none⟩) (by simp) _, h.c.bel.setCell (p := ⟨W.heap.size, 0, none⟩) (Nat.le_refl _) _⟩, h.bw.other (p := ⟨W.heap.size, 0, none⟩) (by have := h.lt; simp; omega) _, h.lt, h.p.one b5 (by decide) (by simp) hg, h.v.one b5 (by simp) hg⟩
/-- while entries go on: how many there were -/
def RI (w : World) (p : Nat) (x : Int) (W' : World) : Prop := Blk W' w.heap.size 3 [.int .i64 x] ∧ Blk W' (w.heap.size + 1) 25 [.pointer (some ⟨p, 0, none⟩)] ∧ Below w.heap.size w W'
theorem RI.ownF (w : World) (p : Nat) (x : Int) {b : Nat} (hb : w.heap.size ≤ b) : OwnFrom b (fun (_ : Unit) W' => RI w p x W') := fun s A B row hs hg hr => by
  have k : RowOk A row := fun r e => (hr r e).2
  exact ⟨blk_row1 hs.1 hg k, blk_row1 hs.2.1 hg k, hs.2.2.grown hg hs.2.2.size (fun r e => Nat.le_trans hb (hr r e).1)⟩
/-- a row of the call's own, of entries whose asks are numbers -/
def AR (W : World) (B : Nat) (A : Option Addr) (n : Nat) : Prop := n = 0 ∨ ∃ g L, A = some ⟨g, 0, none⟩ ∧ B ≤ g ∧ Blk W g tE L ∧ ∀ i, i < n → ∃ y, L[i * 2 + 1]? = some (.int .i64 y)
theorem AR.own {W : World} {B : Nat} {A : Option Addr} {c : Nat} {es : List En} (h : W.ownsRow B tE 2 (.slice A es.length c) es.length (cellsOf cE es)) : AR W B A es.length := by
  rcases h.2 with ⟨_, h0⟩ | ⟨g, cap, cur, e, hB, hg, _, _, _, ht⟩
  · exact .inl h0
  · injection e with e1 e2 e3
    refine .inr ⟨g, cur.toList, e1, hB, by unfold Blk; rw [Array.toArray_toList]; exact hg, fun i hi => ⟨(es.getD i dE).2, ?_⟩⟩
    have h1 := cellsOf_at cE_length es dE (i := i) (j := 1) hi (by omega)
    rw [← ht, List.getElem?_take, if_pos (by omega)] at h1
    rw [h1]; rfl
theorem AR.set {W : World} {B n i : Nat} {A : Option Addr} {g : Nat} (h : AR W B A n) (hA : A = some ⟨g, 0, none⟩) (hi : i < n) (y : Int) : AR (W.setCell ⟨g, i * 2 + 1, none⟩ (.int .i64 y)) B A n := by
  rcases h with h0 | ⟨g', L, e, hB, hb, hl⟩
  · omega
  · subst hA
    injection e with e
    injection e with e
    subst e
    refine .inr ⟨g, _, rfl, hB, hb.set (i * 2 + 1) _, fun j hj => ?_⟩
    rw [List.getElem?_set]
    by_cases hij : i * 2 + 1 = j * 2 + 1
    · obtain ⟨z, hz⟩ := hl i hi
      rw [if_pos hij, if_pos (List.getElem?_eq_some_iff.1 hz).1]
      exact ⟨y, rfl⟩
    · rw [if_neg hij]
      exact hl j hj
theorem AR.at {W : World} {B n i : Nat} {A : Option Addr} (h : AR W B A n) (hi : i < n) : ∃ g y, A = some ⟨g, 0, none⟩ ∧ B ≤ g ∧ g < W.heap.size ∧ W.cell? ⟨g, i * 2 + 1, none⟩ = some (.int .i64 y) ∧ W.frozen? ⟨g, i * 2 + 1, none⟩ = false := by
  rcases h with h0 | ⟨g, L, rfl, hB, hb, hl⟩
  · omega
  · obtain ⟨y, hy⟩ := hl i hi
    exact ⟨g, y, rfl, hB, hb.lt, hb.cell hy, hb.frozen _⟩
end Go.Proofs.Ytnlhgnioedalpaa.Pri

/- check: the document's example. -/
set_option linter.unusedSimpArgs false
set_option linter.unusedVariables false
namespace Go.Proofs.Ytnlhgnioedalpaa.Pri
open Go.RowKit Go.Proofs.YtnlhgnioedalpaaW.PrintWords Go.Proofs.Ytnlhgnioedalpaa.PPricePlays Go.Maps
attribute [local go_sem] Oper.semAt_some

/-- a row written out that reads as pairs -/
theorem pe_blk {W : World} {b c : Nat} {t : TypeId} {l : List En} (hb : Blk W b t (cellsOf cE l)) (hc : l.length ≤ c) (hl : l.length ≤ 1099511627776) : PE W (.slice (some ⟨b, 0, none⟩) l.length c) l := by
  refine ⟨some ⟨b, 0, none⟩, c, rfl, hc, (fun e => by cases e), by simp, by omega, fun hpos => ⟨_, rfl, fun j x hx => ⟨[.int .u64 x.f0, .int .i64 x.f1], rfl, k41_mk W x, fun i u hu => ?_⟩⟩⟩
  rw [List.getElem?_map] at hx
  cases hq : l[j]? with
  | none => rw [hq] at hx; simp at hx
  | some q =>
    rw [hq] at hx
    have hj : j < l.length := (List.getElem?_eq_some_iff.1 hq).1
    have hi : i < 2 := by have := (List.getElem?_eq_some_iff.1 hu).1; simpa using this
    rw [show j * k41.sz + i = j * 2 + i from rfl, addr_add, Nat.zero_add]
    refine hb.cell ?_
    rw [cellsOf_at cE_length l dE hj hi, List.getD_eq_getElem?_getD, hq]
    obtain rfl : toE q = x := by simpa using hx
    exact hu
def q5 : List En := [(1, 5)]
def q4 : List En := [(1, 4)]
/-- the sum's cell; all else as it was -/
def AN (w : World) (b : Nat) (z : Int) (W' : World) : Prop := Blk W' b 3 [.int .i64 z] ∧ w.grownBy W' (some b)
theorem AN.ownF (w : World) (b : Nat) (z : Int) {B : Nat} (hb : w.heap.size ≤ B) : OwnFrom B (fun (_ : Unit) W' => AN w b z W') := fun s A C row hs hg hr => by
  have k : RowOk A row := fun r e => (hr r e).2
  refine ⟨blk_row1 hs.1 hg k, ⟨hg.os.trans hs.2.os, hg.tape.trans hs.2.tape, hg.output.trans hs.2.output, Nat.le_trans hs.2.size hg.size, fun i hi hne => ?_⟩⟩
  rw [hg.block i (Nat.lt_of_lt_of_le hi hs.2.size) (fun e => by have := (hr i e.symm).1; omega), hs.2.block i hi hne]
theorem AN.below {w : World} {b : Nat} {z : Int} {A C : World} (h : AN w b z A) (hb : Below A.heap.size A C) : AN w b z C := ⟨h.1.belowS hb, gb_trans h.2 (below_gb hb)⟩
/-- what is there while the example goes on -/
structure AL (W : World) (p b2 b3 b4 : Nat) (W' : World) : Prop where
  s : SR W' p q5
  f : Blk W' b2 tB [.int .u64 1, .int .i64 5]
  g : Blk W' b3 tB [.int .u64 1, .int .i64 4]
  h : Blk W' b4 tB [.int .u64 1, .int .i64 6]
  bel : Below W.heap.size W W'
theorem AL.below {W : World} {p b2 b3 b4 : Nat} {A B : World} (h : AL W p b2 b3 b4 A) (hb : Below A.heap.size A B) : AL W p b2 b3 b4 B := ⟨h.s.below hb, h.f.belowS hb, h.g.belowS hb, h.h.belowS hb, h.bel.trans (hb.mono h.bel.size)⟩
theorem AL.alloc {W : World} {p b2 b3 b4 : Nat} {A : World} (h : AL W p b2 b3 b4 A) (o : Obj) : AL W p b2 b3 b4 (A.alloc o) := h.below ((Below.refl _ A).alloc (Nat.le_refl _) o)
/-- what the example makes -/
structure R9 (p z : Nat) (W' : World) : Prop where
  s : SR W' p q5
  f : Blk W' (z) tB [.int .u64 1, .int .i64 5]
  g : Blk W' (z + 1) tB [.int .u64 1, .int .i64 4]
  h : Blk W' (z + 1 + 1) tB [.int .u64 1, .int .i64 6]
  ra : Blk W' (z + 1 + 1 + 1 + 1) tB [.int .u64 1, .int .i64 5]
  rb : Blk W' (z + 1 + 1 + 1 + 1 + 1) tB [.int .u64 1, .int .i64 4]
  rL : Blk W' (z + 1 + 1 + 1 + 1 + 1 + 1) 55 [.slice (some ⟨z + 1 + 1 + 1 + 1, 0, none⟩) 1 1, .slice (some ⟨z + 1 + 1 + 1 + 1 + 1, 0, none⟩) 1 1]
  rS : Blk W' (z + 1 + 1 + 1 + 1 + 1 + 1 + 1) 25 [.pointer (some ⟨p, 0, none⟩)]
theorem R9.kept {p z : Nat} {A B : World} {x : Value} (h : R9 p z A) (hb : Blk A (z + 1 + 1 + 1) 3 [x]) (hx : ∀ y, x ≠ .int .u64 y) (hg : A.grownBy B (some (z + 1 + 1 + 1))) : R9 p z B :=
  ⟨h.s.one hb (by decide) hx hg, h.f.kept hg (by simp <;> omega), h.g.kept hg (by simp <;> omega), h.h.kept hg (by simp <;> omega), h.ra.kept hg (by simp <;> omega), h.rb.kept hg (by simp <;> omega), h.rL.kept hg (by simp <;> omega), h.rS.kept hg (by simp <;> omega)⟩
theorem R9.below {p z : Nat} {A B : World} (h : R9 p z A) (hb : Below A.heap.size A B) : R9 p z B := ⟨h.s.below hb, h.f.belowS hb, h.g.belowS hb, h.h.belowS hb, h.ra.belowS hb, h.rb.belowS hb, h.rL.belowS hb, h.rS.belowS hb⟩
end Go.Proofs.Ytnlhgnioedalpaa.Pri

/- check: the document's functions. -/
set_option linter.unusedSimpArgs false
set_option linter.unusedVariables false
namespace Go.Proofs.Ytnlhgnioedalpaa.Pri
open Go.RowKit Go.Proofs.YtnlhgnioedalpaaW.PrintWords Go.Proofs.Ytnlhgnioedalpaa.PPricePlays Go.Maps
attribute [local go_sem] Oper.semAt_some

end Go.Proofs.Ytnlhgnioedalpaa.Pri

/- price: the law's play: a store and the document's entries behind rows of puts and rises. -/
set_option linter.unusedSimpArgs false
set_option linter.unusedVariables false
namespace Go.Proofs.Ytnlhgnioedalpaa.Pri
open Go.RowKit Go.Proofs.YtnlhgnioedalpaaW.PrintWords Go.Proofs.Ytnlhgnioedalpaa.PPricePlays
attribute [local go_sem] Oper.semAt_some

/-- the document's row, of the call's own -/
def RX (W : World) (b : Nat) (v : Value) (l : List En) : Prop := Kd.R k41 tE W b (fun k => v.ownBlock = some k) v (l.map toE)
theorem k41_flat {W : World} {b : Nat} {ok1 ok2 : Nat → Prop} {x : S41} {cs : List Value} (h : k41.M W b ok1 x cs) : k41.M W b ok2 x cs := by
  obtain ⟨_, _, rfl, rfl, rfl⟩ := h
  exact k41_mkM W b ok2 x
theorem RX.of {W : World} {b : Nat} {ok : Nat → Prop} {v : Value} {l : List En} (h : Kd.R k41 tE W b ok v (l.map toE)) : RX W b v l := Kd.R_flat k41_flat h (fun k hk _ => hk)
theorem RX.lt {W : World} {b : Nat} {v : Value} {l : List En} (h : RX W b v l) {k : Nat} (hk : v.ownBlock = some k) : k < W.heap.size := ((Kd.R_bound h).1 k hk).2.2.1
theorem RX.pe {W : World} {b : Nat} {v : Value} {l : List En} (h : RX W b v l) : PE W v l := pe_R h
theorem RX.nil (W : World) (b : Nat) (hb : b ≤ W.heap.size) : RX (W.alloc (.cells #[] tE)) b (.slice (some ⟨W.heap.size, 0, none⟩) 0 0) [] :=
  ⟨fun k hk => hk, [], World.ownsRow_lit (base := b) (e := tE) (size := 2) W #[] 0 hb (by decide) rfl, Reps.none _ _⟩
/-- a store that holds l and the document's row that holds m, apart -/
structure PX (W0 : World) (p : Nat) (l m : List En) (vx : Value) (W : World) : Prop where
  s : SR W p l
  x : RX W W0.heap.size vx m
  off : ∀ v, Blk W p tS [v] → ∀ k, v.ownBlock = some k → k < W.heap.size ∧ vx.ownBlock ≠ some k
  bel : Below W0.heap.size W0 W
  new : W0.heap.size ≤ p
theorem PX.below {W0 : World} {p : Nat} {l m : List En} {vx : Value} {A B : World} (h : PX W0 p l m vx A) (hb : Below A.heap.size A B) : PX W0 p l m vx B :=
  ⟨h.s.below hb, Kd.R_below h.x hb, fun v hv k hk => by
    have := h.off v ((hb.block p h.s.pr.lt).symm.trans hv) k hk
    exact ⟨Nat.lt_of_lt_of_le this.1 hb.size, this.2⟩, h.bel.trans (hb.mono h.bel.size), h.new⟩
theorem PX.store {W0 : World} {p : Nat} {l l' m : List En} {vx : Value} {A B : World} (h : PX W0 p l m vx A) (hs : SR B p l') (hg : A.grownBy B (some p)) (hn : NF A B p) : PX W0 p l' m vx B := by
  obtain ⟨v0, hb0, _⟩ := h.s.pr
  have hne : ∀ k, vx.ownBlock = some k → some k ≠ some p := fun k hk e => by
    injection e with e
    subst e
    exact Kd.R_ne h.x hb0 (by decide) hk.symm
  refine ⟨hs, Kd.R_grown h.x hg (fun k hk => hne k hk), fun v hv k hk => ?_, h.bel.grown hg h.bel.size (fun r e => by cases e; exact h.new), h.new⟩
  rcases hn v hv with h1 | h1
  · exact ⟨(h1 k hk).2, fun e => by have := h.x.lt e; have := (h1 k hk).1; omega⟩
  · have := h.off v h1 k hk
    exact ⟨Nat.lt_of_lt_of_le this.1 hg.size, this.2⟩
theorem PE.kept {A B : World} {v : Value} {l : List En} {P0 : Nat → Prop} (h : PE A v l) (hk : Kept A B P0) (hv : ∀ k, v.ownBlock = some k → ¬ P0 k) : PE B v l := by
  have hat := fun j q (hj : l[j]? = some q) => h.at hj
  obtain ⟨a, c, rfl, h1, h2, h3⟩ := h
  refine ⟨a, c, rfl, h1, h2, h3.1, h3.2.1, fun hpos => ?_⟩
  obtain ⟨a, rfl, hr⟩ := h3.2.2 hpos
  obtain ⟨b', off, c', e, hlt, _, _⟩ := hat 0 _ (List.getElem?_eq_getElem (by simpa using hpos))
  injection e with e _ _
  injection e with e
  subst e
  refine ⟨_, rfl, fun j q hq => ?_⟩
  obtain ⟨cs, hl, hkk, hc⟩ := hr j q hq
  obtain rfl := k41_open hkk
  refine ⟨_, hl, k41_mk B q, fun i u hu => ?_⟩
  have hcu := hc i u hu
  rw [addr_add] at hcu ⊢
  have e : B.cell? ⟨b', off + (j * k41.sz + i), none⟩ = A.cell? ⟨b', off + (j * k41.sz + i), none⟩ := by
    unfold World.cell?
    rw [hk.2 _ hlt (hv b' rfl)]
  rw [e]; exact hcu
end Go.Proofs.Ytnlhgnioedalpaa.Pri
