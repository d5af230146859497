/- ChkR, PriR, PriceClones, ChkAl, ChkD, PriX, ChkF, laid together. -/
import Derived.Test.YtnlhgnioedalpaaGr06
import Derived.BigRegionIn
import Derived.Test.YtnlhgnioedalpaaPPricePlaysx5
import Derived.Test.YtnlhgnioedalpaaPPricePlaysx6
import Derived.BigQuiet
import Derived.WalkSmall
import Derived.Deep.DeepCutAuto
import Derived.Maps.OwnOps

/- check: the report. -/
set_option linter.unusedSimpArgs false
set_option linter.unusedVariables false
namespace Go.Proofs.Ytnlhgnioedalpaa.Pri
open Go.RowKit Go.Proofs.YtnlhgnioedalpaaW.PrintWords Go.Proofs.Ytnlhgnioedalpaa.PPricePlays Go.Maps
attribute [local go_sem] Oper.semAt_some

/-- the slice v reads as slices that read as the lists of L -/
def PEE (W : World) (v : Value) (L : List (List En)) : Prop := ∃ A c, v = .slice A L.length c ∧ ∀ (i : Nat) l, L[i]? = some l → ∃ b off A1 c1, A = some ⟨b, off, none⟩ ∧ b < W.heap.size ∧ W.cell? ⟨b, off + i, none⟩ = some (.slice A1 l.length c1) ∧ PE W (.slice A1 l.length c1) l
theorem PEE.below {W W' : World} {v : Value} {L : List (List En)} (h : PEE W v L) (hb : Below W.heap.size W W') : PEE W' v L := by
  obtain ⟨A, c, rfl, h1⟩ := h
  refine ⟨A, c, rfl, fun i l hl => ?_⟩
  obtain ⟨b, off, A1, c1, e, hlt, hc, hp⟩ := h1 i l hl
  exact ⟨b, off, A1, c1, e, Nat.lt_of_lt_of_le hlt hb.size, (hb.cell (p := ⟨b, off + i, none⟩) hlt).trans hc, hp.below hb⟩
/-- the slice v reads as pointers to stores, or nil -/
def PS (W : World) (v : Value) (S : List (Option (Nat × List En))) : Prop := ∃ A c, v = .slice A S.length c ∧ ∀ (i : Nat) o, S[i]? = some o → ∃ b off, A = some ⟨b, off, none⟩ ∧ b < W.heap.size ∧ W.cell? ⟨b, off + i, none⟩ = some (.pointer (o.map (fun q => ⟨q.1, 0, none⟩))) ∧ ∀ q, o = some q → SR W q.1 q.2
theorem PS.below {W W' : World} {v : Value} {S : List (Option (Nat × List En))} (h : PS W v S) (hb : Below W.heap.size W W') : PS W' v S := by
  obtain ⟨A, c, rfl, h1⟩ := h
  refine ⟨A, c, rfl, fun i o ho => ?_⟩
  obtain ⟨b, off, e, hlt, hc, hp⟩ := h1 i o ho
  exact ⟨b, off, e, Nat.lt_of_lt_of_le hlt hb.size, (hb.cell (p := ⟨b, off + i, none⟩) hlt).trans hc, fun q hq => (hp q hq).below hb⟩
theorem PEE.at {W : World} {v : Value} {L : List (List En)} (h : PEE W v L) {k : Nat} {l : List En} (hl : L[k]? = some l) : ∃ b off c A1 c1, v = .slice (some ⟨b, off, none⟩) L.length c ∧ b < W.heap.size ∧ W.cell? ⟨b, off + k, none⟩ = some (.slice A1 l.length c1) ∧ PE W (.slice A1 l.length c1) l := by
  obtain ⟨A, c, rfl, h1⟩ := h
  obtain ⟨b, off, A1, c1, rfl, hlt, hc, hp⟩ := h1 k l hl
  exact ⟨b, off, c, A1, c1, rfl, hlt, hc, hp⟩
end Go.Proofs.Ytnlhgnioedalpaa.Pri

/- price: the document's functions in plain words. -/
set_option linter.unusedSimpArgs false
set_option linter.unusedVariables false
namespace Go.Proofs.Ytnlhgnioedalpaa.Pri
open Go.RowKit Go.Proofs.YtnlhgnioedalpaaW.PrintWords Go.Proofs.Ytnlhgnioedalpaa.PPricePlays
attribute [local go_sem] Oper.semAt_some

theorem rsame_ev (l m : List En) (hl : l.length ≤ 1099511627776) : Ev (fun k => saleroomref11_Same.f k (l.map toE) (m.map toE)) (decide (l = m)) := by
  have key : l.length = m.length → ∀ e i, i + e = l.length → Ev (fun k => saleroomref11_Same.l0 k (l.map toE) (m.map toE) (i : Int)) (decide (l.drop i = m.drop i)) := by
    intro he e
    induction e with
    | zero =>
      intro i hi
      rw [List.drop_eq_nil_of_le (show l.length ≤ i by omega), List.drop_eq_nil_of_le (show m.length ≤ i by omega), decide_eq_true rfl]
      refine Ev.step (f := fun _ => some true) (fun k => ?_) (Ev.now _)
      simp only [saleroomref11_Same.l0, List.length_map]
      rw [if_neg (by omega)]
    | succ e ih =>
      intro i hi
      have hil : i < l.length := by omega
      have him : i < m.length := by omega
      have e1 : l.drop i = l[i] :: l.drop (i + 1) := (List.getElem_cons_drop ..).symm
      have e2 : m.drop i = m[i] :: m.drop (i + 1) := (List.getElem_cons_drop ..).symm
      by_cases h : l[i] = m[i]
      · have hd : decide (l.drop i = m.drop i) = decide (l.drop (i + 1) = m.drop (i + 1)) := decide_eq_decide.2 (by rw [e1, e2, h]; exact ⟨fun q => (List.cons.inj q).2, fun q => by rw [q]⟩)
        rw [hd]
        refine Ev.step (f := fun k => saleroomref11_Same.l0 k (l.map toE) (m.map toE) ((i + 1 : Nat) : Int)) (fun k => ?_) (ih (i + 1) (by omega))
        simp only [saleroomref11_Same.l0, List.length_map]
        rw [if_pos (by omega), if_pos (by omega), if_pos (by omega), rdE l hil, rdE m him, h, if_neg (by simp), wrap_succ (by omega)]
      · have hd : decide (l.drop i = m.drop i) = false := by rw [e1, e2]; exact decide_eq_false (fun q => h (List.cons.inj q).1)
        rw [hd]
        refine Ev.step (f := fun _ => some false) (fun k => ?_) (Ev.now _)
        simp only [saleroomref11_Same.l0, List.length_map]
        rw [if_pos (by omega), if_pos (by omega), if_pos (by omega), rdE l hil, rdE m him, if_pos]
        have : ¬ (l[i].1 = m[i].1 ∧ l[i].2 = m[i].2) := fun hh => h (Prod.ext hh.1 hh.2)
        simp only [toE]
        by_cases h1 : l[i].1 = m[i].1
        · have h2 : ¬ l[i].2 = m[i].2 := fun hh => this ⟨h1, hh⟩
          simp [h1, h2]
        · simp [h1]
  by_cases he : l.length = m.length
  · refine Ev.congr (fun k => ?_) (key he l.length 0 (by omega))
    simp only [saleroomref11_Same.f, List.length_map]
    rw [if_pos (by omega)]
    rfl
  · have hd : decide (l = m) = false := by simp; intro h; exact he (congrArg List.length h)
    rw [hd]
    refine Ev.congr (fun k => ?_) (Ev.now (r := false))
    simp only [saleroomref11_Same.f, List.length_map]
    rw [if_neg (by omega)]

/-! the contracts -/
theorem rsame_any (W : World) (v u : Value) (l m : List En) (h : PE W v l) (k : PE W u m) (hl : l.length ≤ 1099511627776) :
    Calls Try.prog 16 #[v, u] W fun e w' => e = .returned (.bool (decide (l = m))) ∧ Below W.heap.size W w' := by
  obtain ⟨A, c, rfl, h1, _, h2⟩ := h
  obtain ⟨B, d, rfl, k1, _, k2⟩ := k
  obtain ⟨n, hn⟩ := (rsame_ev l m hl).rounds
  have := saleroomref11_Same.calls n A c (l.map toE) B d (m.map toE) (decide (l = m)) W (by rw [List.length_map]; exact h2) (by rw [List.length_map]; exact h1) (by rw [List.length_map]; exact k2) (by rw [List.length_map]; exact k1) hn
  rw [List.length_map, List.length_map] at this
  exact this.mono fun e w' ⟨x, y⟩ => ⟨x, y.below⟩
/-- a row of the reference's own is entries -/
theorem pe_R {W : World} {base : Nat} {ok : Nat → Prop} {v : Value} {l : List En} (h : Kd.R k41 41 W base ok v (l.map toE)) : PE W v l := by
  obtain ⟨A, c, rfl, h1, h2⟩ := Kd.R_reads h
  refine ⟨A, c, by rw [List.length_map], by rw [List.length_map] at h1; exact h1, fun e => ?_, by rw [List.length_map] at h2; exact h2⟩
  obtain ⟨_, inner, ho, _⟩ := h
  subst e
  rcases ho.2 with ⟨h3, _⟩ | ⟨g, cap, cur, h3, _⟩
  · injection h3
  · cases h3
end Go.Proofs.Ytnlhgnioedalpaa.Pri

/- PriceClones: a clone goes its own way. -/
set_option linter.unusedSimpArgs false
set_option linter.unusedVariables false
namespace Go.Proofs.Ytnlhgnioedalpaa.Pri
open Go.RowKit Go.Proofs.YtnlhgnioedalpaaW.PrintWords Go.Proofs.Ytnlhgnioedalpaa.PPricePlays
attribute [local go_sem] Oper.semAt_some

theorem blk_ne {W : World} {a b : Nat} {t u : TypeId} {l m : List Value} (h : Blk W a t l) (k : Blk W b u m) (hn : t ≠ u) : a ≠ b := fun e => by
  subst e
  exact hn (h.inj k).1
/-- the result's cell and that of the number asked for -/
structure C0 (W : World) (mo : Int) (W' : World) : Prop where
  b5 : Blk W' W.heap.size 3 [.int .i64 mo]
  b6 : Blk W' (W.heap.size + 1) 4 [.bool false]
  bel : Below W.heap.size W W'
theorem C0.below {W : World} {mo : Int} {A B : World} (h : C0 W mo A) (hb : Below A.heap.size A B) : C0 W mo B := ⟨h.b5.belowS hb, h.b6.belowS hb, h.bel.trans (hb.mono h.bel.size)⟩
theorem C0.row {W : World} {mo : Int} {A B : World} (h : C0 W mo A) {row : Option Nat} (hg : A.grownBy B row) (hr : ∀ r, row = some r → W.heap.size ≤ r ∧ ∃ o : Obj, A.heap[r]? = some o ∧ o.isCells = false) : C0 W mo B :=
  have k : RowOk A row := fun r e => (hr r e).2
  ⟨blk_row1 h.b5 hg k, blk_row1 h.b6 hg k, h.bel.grown hg h.bel.size (fun r e => (hr r e).1)⟩
theorem C0.turn {W : World} {mo : Int} {A B : World} {q : Nat} {m : List En} (h : C0 W mo A) (hq : PR A q m) (hw : W.heap.size ≤ q) (hg : A.grownBy B (some q)) : C0 W mo B := by
  obtain ⟨v, hb, _⟩ := hq
  exact ⟨h.b5.kept hg (by have := blk_ne h.b5 hb (by decide); simpa using this), h.b6.kept hg (by have := blk_ne h.b6 hb (by decide); simpa using this), h.bel.grown hg h.bel.size (fun r e => by cases e; exact hw)⟩
/-- and the store, and what it was -/
structure CK (W : World) (p b8 : Nat) (v1 : Value) (P : List En) (mo : Int) (W' : World) : Prop where
  c : C0 W mo W'
  bw : Blk W' b8 tL [v1]
  lt : W.heap.size + 1 < b8
  p : SR W' p P
  v : PE W' v1 P
theorem CK.below {W : World} {p b8 : Nat} {v1 : Value} {P : List En} {mo : Int} {A B : World} (h : CK W p b8 v1 P mo A) (hb : Below A.heap.size A B) : CK W p b8 v1 P mo B :=
  ⟨h.c.below hb, h.bw.belowS hb, h.lt, h.p.below hb, h.v.below hb⟩
theorem CK.row {W : World} {p b8 : Nat} {v1 : Value} {P : List En} {mo : Int} {A B : World} (h : CK W p b8 v1 P mo A) {row : Option Nat} (hg : A.grownBy B row) (hr : ∀ r, row = some r → W.heap.size ≤ r ∧ ∃ o : Obj, A.heap[r]? = some o ∧ o.isCells = false) : CK W p b8 v1 P mo B :=
  have k : RowOk A row := fun r e => (hr r e).2
  ⟨h.c.row hg hr, blk_row1 h.bw hg k, h.lt, h.p.row hg k, h.v.row hg k⟩
theorem CK.turn {W : World} {p b8 q : Nat} {v1 : Value} {P m : List En} {mo : Int} {A B : World} (h : CK W p b8 v1 P mo A) (hq : SR A q m) (hw : W.heap.size ≤ q) (hne : p ≠ q) (hg : A.grownBy B (some q)) : CK W p b8 v1 P mo B := by
  have h2 := h.p.turn hq hne hg
  have h1 := h.c.turn hq.pr hw hg
  obtain ⟨u, hb, hpe⟩ := hq.pr
  obtain ⟨A2, c2, rfl, -⟩ := hpe
  exact ⟨h1, h.bw.kept hg (by have := blk_ne h.bw hb (by decide); simpa using this), h.lt, h2, h.v.turn hb hg⟩
theorem PE.one {W W' : World} {v : Value} {l : List En} {b : Nat} {t : TypeId} {x : Value} (h : PE W v l) (hb : Blk W b t [x]) (hx : ∀ z, x ≠ .int .u64 z) (hg : W.grownBy W' (some b)) : PE W' v l := by
  have hat := fun j q (hj : l[j]? = some q) => h.at hj
  obtain ⟨A, c, rfl, h1, h2, h3⟩ := h
  refine ⟨A, c, rfl, h1, h2, h3.1, h3.2.1, fun hpos => ?_⟩
  obtain ⟨a, rfl, hr⟩ := h3.2.2 hpos
  obtain ⟨b', off, c', e, hlt, r0, _⟩ := hat 0 _ (List.getElem?_eq_getElem (by simpa using hpos))
  injection e with e _ _
  injection e with e
  subst e
  have hne : b' ≠ b := fun e => by
    subst e
    have hrow := cell_of_row W b' (off + 0 * 2) [x].toArray t (0, 0) hb
    rw [hrow] at r0
    obtain ⟨o, ho⟩ : ∃ o, off + 0 * 2 = o := ⟨_, rfl⟩
    rw [ho] at r0
    cases o with
    | zero => exact hx _ (by simpa using r0)
    | succ o => simp at r0
  refine ⟨_, rfl, fun j q hq => ?_⟩
  obtain ⟨cs, hl, hk, hc⟩ := hr j q hq
  obtain rfl := k41_open hk
  refine ⟨_, hl, k41_mk W' q, fun i u hu => ?_⟩
  have hcu := hc i u hu
  rw [addr_add] at hcu ⊢
  have e : W'.cell? ⟨b', off + (j * k41.sz + i), none⟩ = W.cell? ⟨b', off + (j * k41.sz + i), none⟩ := by
    unfold World.cell?
    rw [hg.block _ hlt (by simpa using hne)]
  rw [e]; exact hcu
theorem SR.one {W W' : World} {p : Nat} {l : List En} {b : Nat} {t : TypeId} {x : Value} (h : SR W p l) (hb : Blk W b t [x]) (ht : tS ≠ t) (hx : ∀ z, x ≠ .int .u64 z) (hg : W.grownBy W' (some b)) : SR W' p l := by
  obtain ⟨v, kb, hpe⟩ := h.pr
  exact ⟨⟨v, kb.kept hg (by have := blk_ne kb hb ht; simpa using this), hpe.one hb hx hg⟩, h.ue, h.ti, h.len⟩
theorem CK.num {W : World} {p b8 : Nat} {v1 : Value} {P : List En} {mo : Int} {A : World} (h : CK W p b8 v1 P mo A) (m : Int) : CK W p b8 v1 P m (A.setCell ⟨W.heap.size, 0, none⟩ (.int .i64 m)) := by
  have hg := grownBy_setAt A W.heap.size 0 (.int .i64 m)
  have b5 := h.c.b5
  exact ⟨⟨b5.set 0 _, h.c.b6.other (p := ⟨W.heap.size, 0, none⟩) (by simp) _, h.c.bel.setCell (p := ⟨W.heap.size, 0, none⟩) (Nat.le_refl _) _⟩, h.bw.other (p := ⟨W.heap.size, 0, none⟩) (by have := h.lt; simp; omega) _, h.lt, h.p.one b5 (by decide) (by simp) hg, h.v.one b5 (by simp) hg⟩
/-- while entries go on: how many there were -/
def RI (w : World) (p : Nat) (x : Int) (W' : World) : Prop := Blk W' w.heap.size 3 [.int .i64 x] ∧ Blk W' (w.heap.size + 1) 25 [.pointer (some ⟨p, 0, none⟩)] ∧ Below w.heap.size w W'
theorem RI.ownF (w : World) (p : Nat) (x : Int) {b : Nat} (hb : w.heap.size ≤ b) : OwnFrom b (fun (_ : Unit) W' => RI w p x W') := fun s A B row hs hg hr => by
  have k : RowOk A row := fun r e => (hr r e).2
  exact ⟨blk_row1 hs.1 hg k, blk_row1 hs.2.1 hg k, hs.2.2.grown hg hs.2.2.size (fun r e => Nat.le_trans hb (hr r e).1)⟩
/-- a row of the call's own, of entries whose asks are numbers -/
def AR (W : World) (B : Nat) (A : Option Addr) (n : Nat) : Prop := n = 0 ∨ ∃ g L, A = some ⟨g, 0, none⟩ ∧ B ≤ g ∧ Blk W g tE L ∧ ∀ i, i < n → ∃ y, L[i * 2 + 1]? = some (.int .i64 y)
theorem AR.own {W : World} {B : Nat} {A : Option Addr} {c : Nat} {es : List En} (h : W.ownsRow B tE 2 (.slice A es.length c) es.length (cellsOf cE es)) : AR W B A es.length := by
  rcases h.2 with ⟨_, h0⟩ | ⟨g, cap, cur, e, hB, hg, _, _, _, ht⟩
  · exact .inl h0
  · injection e with e1 e2 e3
    refine .inr ⟨g, cur.toList, e1, hB, by unfold Blk; rw [Array.toArray_toList]; exact hg, fun i hi => ⟨(es.getD i dE).2, ?_⟩⟩
    have h1 := cellsOf_at cE_length es dE (i := i) (j := 1) hi (by omega)
    rw [← ht, List.getElem?_take, if_pos (by omega)] at h1
    rw [h1]; rfl
theorem AR.set {W : World} {B n i : Nat} {A : Option Addr} {g : Nat} (h : AR W B A n) (hA : A = some ⟨g, 0, none⟩) (hi : i < n) (y : Int) : AR (W.setCell ⟨g, i * 2 + 1, none⟩ (.int .i64 y)) B A n := by
  rcases h with h0 | ⟨g', L, e, hB, hb, hl⟩
  · omega
  · subst hA
    injection e with e
    injection e with e
    subst e
    refine .inr ⟨g, _, rfl, hB, hb.set (i * 2 + 1) _, fun j hj => ?_⟩
    rw [List.getElem?_set]
    by_cases hij : i * 2 + 1 = j * 2 + 1
    · obtain ⟨z, hz⟩ := hl i hi
      rw [if_pos hij, if_pos (List.getElem?_eq_some_iff.1 hz).1]
      exact ⟨y, rfl⟩
    · rw [if_neg hij]
      exact hl j hj
theorem AR.at {W : World} {B n i : Nat} {A : Option Addr} (h : AR W B A n) (hi : i < n) : ∃ g y, A = some ⟨g, 0, none⟩ ∧ B ≤ g ∧ g < W.heap.size ∧ W.cell? ⟨g, i * 2 + 1, none⟩ = some (.int .i64 y) ∧ W.frozen? ⟨g, i * 2 + 1, none⟩ = false := by
  rcases h with h0 | ⟨g, L, rfl, hB, hb, hl⟩
  · omega
  · obtain ⟨y, hy⟩ := hl i hi
    exact ⟨g, y, rfl, hB, hb.lt, hb.cell hy, hb.frozen _⟩
theorem results_cell1 {fn : Func} {p : Tmp} {ty : TypeId} (h : fn.results = #[.cell p ty]) (tmps : Array Value) (P : Program) (w : World) :
    (results fn tmps).run P w = ((asAddr (tmps.getD p undef)).run P w).andThen fun a w₁ => (loadVar ty a).run P w₁ := by
  simp only [results, h]
  simp [Sem.run_bind]

end Go.Proofs.Ytnlhgnioedalpaa.Pri

/- check: the document's example. -/
set_option linter.unusedSimpArgs false
set_option linter.unusedVariables false
namespace Go.Proofs.Ytnlhgnioedalpaa.Pri
open Go.RowKit Go.Proofs.YtnlhgnioedalpaaW.PrintWords Go.Proofs.Ytnlhgnioedalpaa.PPricePlays Go.Maps
attribute [local go_sem] Oper.semAt_some

/-- a row written out that reads as pairs -/
theorem pe_blk {W : World} {b c : Nat} {t : TypeId} {l : List En} (hb : Blk W b t (cellsOf cE l)) (hc : l.length ≤ c) (hl : l.length ≤ 1099511627776) : PE W (.slice (some ⟨b, 0, none⟩) l.length c) l := by
  refine ⟨some ⟨b, 0, none⟩, c, rfl, hc, (fun e => by cases e), by simp, by omega, fun hpos => ⟨_, rfl, fun j x hx => ⟨[.int .u64 x.f0, .int .i64 x.f1], rfl, k41_mk W x, fun i u hu => ?_⟩⟩⟩
  rw [List.getElem?_map] at hx
  cases hq : l[j]? with
  | none => rw [hq] at hx; simp at hx
  | some q =>
    rw [hq] at hx
    have hj : j < l.length := (List.getElem?_eq_some_iff.1 hq).1
    have hi : i < 2 := by have := (List.getElem?_eq_some_iff.1 hu).1; simpa using this
    rw [show j * k41.sz + i = j * 2 + i from rfl, addr_add, Nat.zero_add]
    refine hb.cell ?_
    rw [cellsOf_at cE_length l dE hj hi, List.getD_eq_getElem?_getD, hq]
    obtain rfl : toE q = x := by simpa using hx
    exact hu
def q5 : List En := [(1, 5)]
def q4 : List En := [(1, 4)]
/-- the sum's cell; all else as it was -/
def AN (w : World) (b : Nat) (z : Int) (W' : World) : Prop := Blk W' b 3 [.int .i64 z] ∧ w.grownBy W' (some b)
theorem AN.ownF (w : World) (b : Nat) (z : Int) {B : Nat} (hb : w.heap.size ≤ B) : OwnFrom B (fun (_ : Unit) W' => AN w b z W') := fun s A C row hs hg hr => by
  have k : RowOk A row := fun r e => (hr r e).2
  refine ⟨blk_row1 hs.1 hg k, ⟨hg.os.trans hs.2.os, hg.tape.trans hs.2.tape, hg.output.trans hs.2.output, Nat.le_trans hs.2.size hg.size, fun i hi hne => ?_⟩⟩
  rw [hg.block i (Nat.lt_of_lt_of_le hi hs.2.size) (fun e => by have := (hr i e.symm).1; omega), hs.2.block i hi hne]
theorem AN.below {w : World} {b : Nat} {z : Int} {A C : World} (h : AN w b z A) (hb : Below A.heap.size A C) : AN w b z C := ⟨h.1.belowS hb, gb_trans h.2 (below_gb hb)⟩
/-- what is there while the example goes on -/
structure AL (W : World) (p b2 b3 b4 : Nat) (W' : World) : Prop where
  s : SR W' p q5
  f : Blk W' b2 tB [.int .u64 1, .int .i64 5]
  g : Blk W' b3 tB [.int .u64 1, .int .i64 4]
  h : Blk W' b4 tB [.int .u64 1, .int .i64 6]
  bel : Below W.heap.size W W'
theorem AL.below {W : World} {p b2 b3 b4 : Nat} {A B : World} (h : AL W p b2 b3 b4 A) (hb : Below A.heap.size A B) : AL W p b2 b3 b4 B := ⟨h.s.below hb, h.f.belowS hb, h.g.belowS hb, h.h.belowS hb, h.bel.trans (hb.mono h.bel.size)⟩
theorem AL.alloc {W : World} {p b2 b3 b4 : Nat} {A : World} (h : AL W p b2 b3 b4 A) (o : Obj) : AL W p b2 b3 b4 (A.alloc o) := h.below ((Below.refl _ A).alloc (Nat.le_refl _) o)
/-- what the example makes -/
structure R9 (p z : Nat) (W' : World) : Prop where
  s : SR W' p q5
  f : Blk W' (z) tB [.int .u64 1, .int .i64 5]
  g : Blk W' (z + 1) tB [.int .u64 1, .int .i64 4]
  h : Blk W' (z + 1 + 1) tB [.int .u64 1, .int .i64 6]
  ra : Blk W' (z + 1 + 1 + 1 + 1) tB [.int .u64 1, .int .i64 5]
  rb : Blk W' (z + 1 + 1 + 1 + 1 + 1) tB [.int .u64 1, .int .i64 4]
  rL : Blk W' (z + 1 + 1 + 1 + 1 + 1 + 1) 55 [.slice (some ⟨z + 1 + 1 + 1 + 1, 0, none⟩) 1 1, .slice (some ⟨z + 1 + 1 + 1 + 1 + 1, 0, none⟩) 1 1]
  rS : Blk W' (z + 1 + 1 + 1 + 1 + 1 + 1 + 1) 25 [.pointer (some ⟨p, 0, none⟩)]
theorem R9.kept {p z : Nat} {A B : World} {x : Value} (h : R9 p z A) (hb : Blk A (z + 1 + 1 + 1) 3 [x]) (hx : ∀ y, x ≠ .int .u64 y) (hg : A.grownBy B (some (z + 1 + 1 + 1))) : R9 p z B :=
  ⟨h.s.one hb (by decide) hx hg, h.f.kept hg (by simp <;> omega), h.g.kept hg (by simp <;> omega), h.h.kept hg (by simp <;> omega), h.ra.kept hg (by simp <;> omega), h.rb.kept hg (by simp <;> omega), h.rL.kept hg (by simp <;> omega), h.rS.kept hg (by simp <;> omega)⟩
theorem R9.below {p z : Nat} {A B : World} (h : R9 p z A) (hb : Below A.heap.size A B) : R9 p z B := ⟨h.s.below hb, h.f.belowS hb, h.g.belowS hb, h.h.belowS hb, h.ra.belowS hb, h.rb.belowS hb, h.rL.belowS hb, h.rS.belowS hb⟩
end Go.Proofs.Ytnlhgnioedalpaa.Pri

/- check: the document's functions. -/
set_option linter.unusedSimpArgs false
set_option linter.unusedVariables false
namespace Go.Proofs.Ytnlhgnioedalpaa.Pri
open Go.RowKit Go.Proofs.YtnlhgnioedalpaaW.PrintWords Go.Proofs.Ytnlhgnioedalpaa.PPricePlays Go.Maps
attribute [local go_sem] Oper.semAt_some

end Go.Proofs.Ytnlhgnioedalpaa.Pri

/- price: the law's play: a store and the document's entries behind rows of puts and rises. -/
set_option linter.unusedSimpArgs false
set_option linter.unusedVariables false
namespace Go.Proofs.Ytnlhgnioedalpaa.Pri
open Go.RowKit Go.Proofs.YtnlhgnioedalpaaW.PrintWords Go.Proofs.Ytnlhgnioedalpaa.PPricePlays
attribute [local go_sem] Oper.semAt_some

/-- the document's row, of the call's own -/
def RX (W : World) (b : Nat) (v : Value) (l : List En) : Prop := Kd.R k41 tE W b (fun k => v.ownBlock = some k) v (l.map toE)
theorem k41_flat {W : World} {b : Nat} {ok1 ok2 : Nat → Prop} {x : S41} {cs : List Value} (h : k41.M W b ok1 x cs) : k41.M W b ok2 x cs := by
  obtain ⟨_, _, rfl, rfl, rfl⟩ := h
  exact k41_mkM W b ok2 x
theorem RX.of {W : World} {b : Nat} {ok : Nat → Prop} {v : Value} {l : List En} (h : Kd.R k41 tE W b ok v (l.map toE)) : RX W b v l := Kd.R_flat k41_flat h (fun k hk _ => hk)
theorem RX.lt {W : World} {b : Nat} {v : Value} {l : List En} (h : RX W b v l) {k : Nat} (hk : v.ownBlock = some k) : k < W.heap.size := ((Kd.R_bound h).1 k hk).2.2.1
theorem RX.pe {W : World} {b : Nat} {v : Value} {l : List En} (h : RX W b v l) : PE W v l := pe_R h
theorem RX.nil (W : World) (b : Nat) (hb : b ≤ W.heap.size) : RX (W.alloc (.cells #[] tE)) b (.slice (some ⟨W.heap.size, 0, none⟩) 0 0) [] :=
  ⟨fun k hk => hk, [], World.ownsRow_lit (base := b) (e := tE) (size := 2) W #[] 0 hb (by decide) rfl, Reps.none _ _⟩
/-- a store that holds l and the document's row that holds m, apart -/
structure PX (W0 : World) (p : Nat) (l m : List En) (vx : Value) (W : World) : Prop where
  s : SR W p l
  x : RX W W0.heap.size vx m
  off : ∀ v, Blk W p tS [v] → ∀ k, v.ownBlock = some k → k < W.heap.size ∧ vx.ownBlock ≠ some k
  bel : Below W0.heap.size W0 W
  new : W0.heap.size ≤ p
theorem PX.below {W0 : World} {p : Nat} {l m : List En} {vx : Value} {A B : World} (h : PX W0 p l m vx A) (hb : Below A.heap.size A B) : PX W0 p l m vx B :=
  ⟨h.s.below hb, Kd.R_below h.x hb, fun v hv k hk => by
    have := h.off v ((hb.block p h.s.pr.lt).symm.trans hv) k hk
    exact ⟨Nat.lt_of_lt_of_le this.1 hb.size, this.2⟩, h.bel.trans (hb.mono h.bel.size), h.new⟩
theorem PX.store {W0 : World} {p : Nat} {l l' m : List En} {vx : Value} {A B : World} (h : PX W0 p l m vx A) (hs : SR B p l') (hg : A.grownBy B (some p)) (hn : NF A B p) : PX W0 p l' m vx B := by
  obtain ⟨v0, hb0, _⟩ := h.s.pr
  have hne : ∀ k, vx.ownBlock = some k → some k ≠ some p := fun k hk e => by
    injection e with e
    subst e
    exact Kd.R_ne h.x hb0 (by decide) hk.symm
  refine ⟨hs, Kd.R_grown h.x hg (fun k hk => hne k hk), fun v hv k hk => ?_, h.bel.grown hg h.bel.size (fun r e => by cases e; exact h.new), h.new⟩
  rcases hn v hv with h1 | h1
  · exact ⟨(h1 k hk).2, fun e => by have := h.x.lt e; have := (h1 k hk).1; omega⟩
  · have := h.off v h1 k hk
    exact ⟨Nat.lt_of_lt_of_le this.1 hg.size, this.2⟩
theorem PE.kept {A B : World} {v : Value} {l : List En} {P0 : Nat → Prop} (h : PE A v l) (hk : Kept A B P0) (hv : ∀ k, v.ownBlock = some k → ¬ P0 k) : PE B v l := by
  have hat := fun j q (hj : l[j]? = some q) => h.at hj
  obtain ⟨a, c, rfl, h1, h2, h3⟩ := h
  refine ⟨a, c, rfl, h1, h2, h3.1, h3.2.1, fun hpos => ?_⟩
  obtain ⟨a, rfl, hr⟩ := h3.2.2 hpos
  obtain ⟨b', off, c', e, hlt, _, _⟩ := hat 0 _ (List.getElem?_eq_getElem (by simpa using hpos))
  injection e with e _ _
  injection e with e
  subst e
  refine ⟨_, rfl, fun j q hq => ?_⟩
  obtain ⟨cs, hl, hkk, hc⟩ := hr j q hq
  obtain rfl := k41_open hkk
  refine ⟨_, hl, k41_mk B q, fun i u hu => ?_⟩
  have hcu := hc i u hu
  rw [addr_add] at hcu ⊢
  have e : B.cell? ⟨b', off + (j * k41.sz + i), none⟩ = A.cell? ⟨b', off + (j * k41.sz + i), none⟩ := by
    unfold World.cell?
    rw [hk.2 _ hlt (hv b' rfl)]
  rw [e]; exact hcu
end Go.Proofs.Ytnlhgnioedalpaa.Pri

/- check: few bids; the stores of books; what is wanted. -/
set_option linter.unusedSimpArgs false
set_option linter.unusedVariables false
namespace Go.Proofs.Ytnlhgnioedalpaa.Pri
open Go.RowKit Go.Proofs.YtnlhgnioedalpaaW.PrintWords Go.Proofs.Ytnlhgnioedalpaa.PPricePlays Go.Maps
attribute [local go_sem] Oper.semAt_some

/-- the books' stores: none of those in a fourth place -/
def sAt (ps : List Nat) (books : List (List En)) (k : Nat) : List (Option (Nat × List En)) := (List.range k).map (fun i => if i % 4 = 3 then none else some (ps.getD i 0, ofL (books.getD i [])))
/-- what stands in the row -/
def sV (o : Option (Nat × List En)) : Value := .pointer (o.map (fun q => ⟨q.1, 0, none⟩))
/-- the slice of a store is none, or lies from b on -/
def OffN (W : World) (p b : Nat) : Prop := ∀ v, Blk W p tS [v] → ∀ q, v.ownBlock = some q → b ≤ q ∧ q < W.heap.size
theorem OffN.below {A B : World} {p b : Nat} (h : OffN A p b) (hp : p < A.heap.size) (hb : Below A.heap.size A B) : OffN B p b := fun v hv q hq => by
  have := h v ((hb.block p hp).symm.trans hv) q hq
  exact ⟨this.1, Nat.lt_of_lt_of_le this.2 hb.size⟩
theorem OffN.step {A B : World} {p b : Nat} (h : OffN A p b) (hn : NF A B p) (hs : A.heap.size ≤ B.heap.size) (hb : b ≤ A.heap.size) : OffN B p b := fun v hv q hq => by
  rcases hn v hv with h1 | h1
  · have := h1 q hq; exact ⟨by omega, this.2⟩
  · have := h v h1 q hq; exact ⟨this.1, by omega⟩
set_option maxRecDepth 100000 in
set_option maxHeartbeats 4000000 in
theorem of_anyF (W : World) (v : Value) (es : List En) (h : PE W v es) (hU : UE es) (hl : es.length ≤ 1000000) :
    Calls Try.prog 23 #[v] W fun e w' => e = .returned (.pointer (some ⟨W.heap.size, 0, none⟩)) ∧ SR w' W.heap.size (ofL es) ∧ (ofL es).length ≤ es.length ∧ Below W.heap.size W w' ∧ OffN w' W.heap.size W.heap.size := by
  have H := Lib.hid h
  obtain ⟨A, c, rfl, -⟩ := h
  have HS0 := Lib.hid (show SR (W.alloc (.cells #[.slice none 0 0] tS)) W.heap.size (ofL (es.take 0)) ∧ Below W.heap.size W (W.alloc (.cells #[.slice none 0 0] tS)) ∧ OffN (W.alloc (.cells #[.slice none 0 0] tS)) W.heap.size W.heap.size from
    ⟨⟨⟨_, Blk.new W _ _, pe_nil _⟩, by intro e he; simp [ofL] at he, Tight.nil, by simp [ofL]⟩, (Below.refl _ W).alloc (Nat.le_refl _) _, fun v hv q hq => by have := (hv.inj (Blk.new W [.slice none 0 0] tS)).2; injection this with e; subst e; cases hq⟩)
  go_enter Try.func23, Try.ntmps23
  go_wp2_with fail
  go_loopw [10] (fun i wr => ∃ k : Nat, k ≤ es.length ∧ i = .int .i64 (k : Int) ∧ SR wr W.heap.size (ofL (es.take k)) ∧ (ofL (es.take k)).length ≤ k ∧ Below W.heap.size W wr ∧ OffN wr W.heap.size W.heap.size) (fun i _ => es.length - (intOf i).toNat)
  case atStart => exact ⟨0, Nat.zero_le _, rfl, HS0.out.1, by simp [ofL], HS0.out.2.1, HS0.out.2.2⟩
  case round =>
    clear HS0
    obtain ⟨k, hk, rfl, hS, hlen, hB, hO⟩ := hrel
    by_cases hlt : k < es.length
    · obtain ⟨⟨x, y⟩, hx⟩ : ∃ x, es[k] = x := ⟨_, rfl⟩
      have hx2 : es[k]? = some (x, y) := by rw [List.getElem?_eq_getElem hlt, hx]
      have hgd : es.getD k dE = (x, y) := by rw [List.getD_eq_getElem?_getD, hx2]; rfl
      have hux : U x := hU _ (List.mem_of_getElem? hx2)
      obtain ⟨b3, off3, c4, e1, hlb, r0, r1⟩ := (H.out.below hB).at hx2
      obtain ⟨rfl, rfl⟩ : A = some ⟨b3, off3, none⟩ ∧ c = c4 := by injection e1 with e1 e2 e3; exact ⟨e1, e3⟩
      simp only at r0 r1
      have hal : Below wr.heap.size wr (wr.alloc (.cells #[.int .u64 x, .int .i64 y] tE)) := (Below.refl _ wr).alloc (Nat.le_refl _) _
      have hot := ofL_take hlt
      rw [hgd] at hot
      have HPUT := Lib.hid (sput_anyF _ W.heap.size (ofL (es.take k)) x y (hS.below hal) hux)
      have HS := Lib.hid (hS.below hal); have HOT := Lib.hid hot; have HB := Lib.hid (hB.trans (hal.mono hB.size)); have HOF := Lib.hid (hO.below hS.pr.lt hal)
      clear hx hx2 hgd e1 hal hot hS hB hO
      go_wp2_with fail
      refine HPUT.out.mono ?_; rintro e w1 ⟨rfl, hp1, hg1, hf1⟩
      have HN := Lib.hid (show SR w1 W.heap.size (ofL (es.take (k + 1))) ∧ (ofL (es.take (k + 1))).length ≤ k + 1 ∧ Below W.heap.size W w1 ∧ OffN w1 W.heap.size W.heap.size from by
        have hpl := put_len (ofL (es.take k)) x y
        rw [HOT.out]
        exact ⟨HS.out.put hux hp1 (by omega), by omega, HB.out.grown hg1 HB.out.size (fun r e => by cases e; exact Nat.le_refl _), HOF.out.step hf1 hg1.size HB.out.size⟩)
      clear hp1 hg1 hf1 HPUT
      go_wp2_with fail
      go_roundw
      case rel => exact ⟨k + 1, by omega, by simp, HN.out.1, HN.out.2.1, HN.out.2.2.1, HN.out.2.2.2⟩
      case measure => simp [intOf]; omega
    · obtain rfl : k = es.length := by omega
      rw [List.take_length] at hS hlen
      go_wp2_with fail
      go_ret
      exact ⟨rfl, hS, hlen, hB, hO⟩
/-- the stores of a list stand, none of them in the row's block -/
def ST (l : List (Option (Nat × List En))) (o : Value) (w : World) : Prop := ∀ (i : Nat) p es, l[i]? = some (some (p, es)) → SR w p es ∧ ∀ v, Blk w p tS [v] → ∀ q, v.ownBlock = some q → q < w.heap.size ∧ o.ownBlock ≠ some q
theorem ST.below {l : List (Option (Nat × List En))} {o : Value} {A B : World} (h : ST l o A) (hb : Below A.heap.size A B) : ST l o B := fun i p es hi => by
  obtain ⟨h1, h2⟩ := h i p es hi
  refine ⟨h1.below hb, fun v hv q hq => ?_⟩
  have := h2 v ((hb.block p h1.pr.lt).symm.trans hv) q hq
  exact ⟨Nat.lt_of_lt_of_le this.1 hb.size, this.2⟩
theorem ST.step {l : List (Option (Nat × List En))} {o o' : Value} {A B : World} {Bs n : Nat} {xs : List Value} (h : ST l o A) (hown : A.ownsRow Bs 25 1 o n xs) (hg : A.grownBy B o.ownBlock) (hloc : ∀ q, o'.ownBlock = some q → o.ownBlock = some q ∨ A.heap.size ≤ q) : ST l o' B := fun i p es hi => by
  obtain ⟨hs, hoff⟩ := h i p es hi
  obtain ⟨v, hb, hpe⟩ := hs.pr
  have hb' := hb.kept hg (fun e => own_apart hb hown (by decide) e.symm)
  have hK : Kept A B (fun i => o.ownBlock = some i) := ⟨hg.size, fun i hi hn => hg.block i hi (fun e => hn e.symm)⟩
  refine ⟨⟨⟨v, hb', hpe.kept hK (fun q hq => (hoff v hb q hq).2)⟩, hs.ue, hs.ti, hs.len⟩, fun v' hv' q hq => ?_⟩
  obtain rfl : v' = v := by have := (hv'.inj hb').2; injection this
  have := hoff v' hb q hq
  refine ⟨Nat.lt_of_lt_of_le this.1 hg.size, fun e => ?_⟩
  rcases hloc q e with h3 | h3
  · exact this.2 h3
  · omega
theorem ST.snoc {l : List (Option (Nat × List En))} {o : Value} {w : World} {x : Option (Nat × List En)} (h : ST l o w) (hx : ∀ p es, x = some (p, es) → SR w p es ∧ ∀ v, Blk w p tS [v] → ∀ q, v.ownBlock = some q → q < w.heap.size ∧ o.ownBlock ≠ some q) : ST (l ++ [x]) o w := fun i p es hi => by
  rw [List.getElem?_append] at hi
  split at hi
  · exact h i p es hi
  · rename_i hlt
    have h0 : i - l.length = 0 := by have := (List.getElem?_eq_some_iff.1 hi).1; simp at this; omega
    rw [h0] at hi
    exact hx p es (by simpa using hi)
theorem sAt_succ (ps : List Nat) (books : List (List En)) (k : Nat) : sAt ps books (k + 1) = sAt ps books k ++ [if k % 4 = 3 then none else some (ps.getD k 0, ofL (books.getD k []))] := by
  unfold sAt
  rw [List.range_succ, List.map_append]
  rfl
theorem sAt_app {ps : List Nat} {books : List (List En)} {k : Nat} (h : k ≤ ps.length) (p : Nat) : sAt (ps ++ [p]) books k = sAt ps books k := by
  unfold sAt
  refine List.map_congr_left (fun i hi => ?_)
  have hi := List.mem_range.1 hi
  rw [show (ps ++ [p]).getD i 0 = ps.getD i 0 from by simp [List.getD, List.getElem?_append, show i < ps.length by omega]]
theorem sAt_len (ps : List Nat) (books : List (List En)) (k : Nat) : (sAt ps books k).length = k := by simp [sAt]
def cntE (f : Nat → Int) (k : Nat) : Nat := (List.range k).countP (fun i => decide (f i ≠ 0))
theorem cntE_succ (f : Nat → Int) (k : Nat) : cntE f (k + 1) = cntE f k + if f k ≠ 0 then 1 else 0 := by
  unfold cntE
  rw [List.range_succ, List.countP_append]
  by_cases h : f k = 0 <;> simp [h]
/-- what is wanted, in a map -/
def WM (W : World) (b n : Nat) (f : Nat → Int) (k : Nat) : Prop := ∃ D : DataW Unit, W.ownsMap Try.prog 3 (plainElem Try.prog 3) b n D ∧ (∀ i : Nat, D.atKey (.int .i64 (i : Int)) (.lit (.int .i64 0)) = .lit (.int .i64 (if i < k then f i else 0))) ∧ (∀ i : Nat, k ≤ i → Maps.has D (.int .i64 (i : Int)) = false) ∧ Maps.size D = cntE f k
theorem law3 : Keyed Try.prog 3 := int_keyed Try.underlying3
theorem zero3 (w : World) : (zeroValue 3).run Try.prog w = .ok (.int .i64 0) w := by kernel_rfl
theorem nat_wf {i : Nat} (h : i ≤ 1000000) : (Lit.int .i64 (i : Int)).wf = true := by
  show (decide (IntKind.i64.min ≤ (i : Int)) && decide ((i : Int) ≤ IntKind.i64.max)) = true
  have h1 : IntKind.i64.min = -9223372036854775808 := by decide
  have h2 : IntKind.i64.max = 9223372036854775807 := by decide
  rw [h1, h2, decide_eq_true (by omega), decide_eq_true (by omega)]
  rfl
theorem look_int {P : Program} {t k e : TypeId} {w : World} {b n : Nat} {D : DataW Unit} (h : w.ownsMap P k (plainElem P e) b n D) (K : Keyed P k) (ht : P.underlying t = some (.map k e)) (he : P.underlying e = some (.int .i64)) (hz : (zeroValue e).run P w = .ok (.int .i64 0) w)
    {key : Value} {kl : Lit} (hkey : keyOf P k key = some kl) {x : Int} (hx : D.atKey kl (.lit (.int .i64 0)) = .lit (.int .i64 x)) : (Instr.lookup t (.map (some b)) key false).run P w = .ok (.int .i64 x) w := by
  obtain ⟨c, hrun, hc, _⟩ := h.lookup_int K ht he hz hkey
  have h2 := hx.symm.trans hc
  injection h2 with h2
  injection h2 with h2 h3
  subst h3
  exact hrun
set_option maxRecDepth 100000 in
theorem WM.look {W : World} {b n : Nat} {f : Nat → Int} {k : Nat} (h : WM W b n f k) {i : Nat} (hi : i ≤ 1000000) {x : Int} (hx : (if i < k then f i else 0) = x) : (Instr.lookup 71 (.map (some b)) (.int .i64 (i : Int)) false).run Try.prog W = .ok (.int .i64 x) W := by
  obtain ⟨D, ho, hD, _⟩ := h
  exact look_int ho law3 Try.underlying71 Try.underlying3 (zero3 W) (keyOf_int_mk Try.underlying3 (nat_wf hi)) (by rw [hD i, hx])
theorem WM.kept {W W' : World} {b n : Nat} {f : Nat → Int} {k : Nat} {row : Option Nat} (h : WM W b n f k) (hg : W.grownBy W' row) (hne : some b ≠ row) : WM W' b n f k := by
  obtain ⟨D, ho, hD⟩ := h
  exact ⟨D, ho.kept hg hne, hD⟩
theorem WM.lt {W : World} {b n : Nat} {f : Nat → Int} {k : Nat} (h : WM W b n f k) : b < W.heap.size := by
  obtain ⟨D, ho, _⟩ := h
  exact ho.lt
theorem WM.below {W W' : World} {b n : Nat} {f : Nat → Int} {k : Nat} (h : WM W b n f k) (hb : Below W.heap.size W W') : WM W' b n f k := h.kept (gb_none hb) (by simp)
theorem WM.made (W : World) (f : Nat → Int) : WM (W.alloc (.map #[] 0)) W.heap.size 0 f 0 := ⟨_, World.ownsMap_made W _ _ _, fun i => rfl, fun i _ => rfl, rfl⟩
theorem WM.skip {W : World} {b n : Nat} {f : Nat → Int} {k : Nat} (h : WM W b n f k) (hk : f k = 0) : WM W b n f (k + 1) := by
  obtain ⟨D, ho, hD, hh, hs⟩ := h
  refine ⟨D, ho, fun i => ?_, fun i hi => hh i (by omega), by rw [hs, cntE_succ, if_neg (by simpa using hk)]; rfl⟩
  rw [hD i]
  by_cases h1 : i < k
  · rw [if_pos h1, if_pos (by omega)]
  · by_cases h2 : i = k
    · subst h2; rw [if_neg h1, if_pos (by omega), hk]
    · rw [if_neg h1, if_neg (by omega)]
theorem WM.put {D : DataW Unit} {f : Nat → Int} {k : Nat} (hT : Tidy D) (hk : f k ≠ 0) (hD : ∀ i : Nat, D.atKey (.int .i64 (i : Int)) (.lit (.int .i64 0)) = .lit (.int .i64 (if i < k then f i else 0))) (hh : ∀ i : Nat, k ≤ i → Maps.has D (.int .i64 (i : Int)) = false) (hs : Maps.size D = cntE f k) :
    (∀ i : Nat, (D.put (.int .i64 (k : Int)) (.lit (.int .i64 (f k)))).atKey (.int .i64 (i : Int)) (.lit (.int .i64 0)) = .lit (.int .i64 (if i < k + 1 then f i else 0))) ∧ (∀ i : Nat, k + 1 ≤ i → Maps.has (D.put (.int .i64 (k : Int)) (.lit (.int .i64 (f k)))) (.int .i64 (i : Int)) = false) ∧ Maps.size (D.put (.int .i64 (k : Int)) (.lit (.int .i64 (f k)))) = cntE f (k + 1) := by
  refine ⟨fun i => ?_, fun i hi => ?_, ?_⟩
  · by_cases h2 : i = k
    · subst h2
      rw [atKey_put_same hT.isMap (isKey_int _ _), if_pos (by omega)]
    · rw [atKey_put_other (fun e => h2 (by injection e with _ e; omega)), hD i]
      by_cases h1 : i < k
      · rw [if_pos h1, if_pos (by omega)]
      · rw [if_neg h1, if_neg (by omega)]
  · rw [has_put_other (fun e => by injection e with _ e; omega)]
    exact hh i (by omega)
  · rw [size_put hT, hh k (Nat.le_refl _), hs, cntE_succ, if_pos hk]
    rfl
end Go.Proofs.Ytnlhgnioedalpaa.Pri
