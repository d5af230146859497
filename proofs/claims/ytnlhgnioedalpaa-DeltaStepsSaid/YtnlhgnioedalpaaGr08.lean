/- CheckBids, CheckReports, DelO, laid together. -/
import Derived.Test.YtnlhgnioedalpaaGr07
import Derived.Test.YtnlhgnioedalpaaPCheckBidsx0

/- CheckBids: whether all bids may be, and which was the last one, is as the document says. -/
set_option linter.unusedSimpArgs false
set_option linter.unusedVariables false
namespace Go.Proofs.Ytnlhgnioedalpaa.Pri
open Go.RowKit Go.Proofs.YtnlhgnioedalpaaW.PrintWords Go.Proofs.Ytnlhgnioedalpaa.PPricePlays Go.Maps
attribute [local go_sem] Oper.semAt_some

/-- a store, and the document's entries, and what came in -/
structure CB (W : World) (p : Nat) (vx vb vn : Value) (P bs now : List En) (W' : World) : Prop where
  s : SR W' p P
  x : PE W' vx P
  b : PE W' vb bs
  n : PE W' vn now
  bel : Below W.heap.size W W'
theorem CB.below {W : World} {p : Nat} {vx vb vn : Value} {P bs now : List En} {A B : World} (h : CB W p vx vb vn P bs now A) (hb : Below A.heap.size A B) : CB W p vx vb vn P bs now B := ⟨h.s.below hb, h.x.below hb, h.b.below hb, h.n.below hb, h.bel.trans (hb.mono h.bel.size)⟩
end Go.Proofs.Ytnlhgnioedalpaa.Pri

/- CheckReports: the bidders whose bids may not be are those that the document says, as far as is asked for. -/
set_option linter.unusedSimpArgs false
set_option linter.unusedVariables false
namespace Go.Proofs.Ytnlhgnioedalpaa.Pri
open Go.RowKit Go.Proofs.YtnlhgnioedalpaaW.PrintWords Go.Proofs.Ytnlhgnioedalpaa.PPricePlays Go.Maps
attribute [local go_sem] Oper.semAt_some

abbrev tP : TypeId := 25
theorem infoP : (Try.prog.info? 25).map (fun i => (i.zero, i.size, i.bytes)) = some (some (.pointer none), 1, 8) := by kernel_rfl
theorem own_set1 {w : World} {B g n cap : Nat} {e : TypeId} {xs : List Value} (h : w.ownsRow B e 1 (.slice (some ⟨g, 0, none⟩) n cap) n xs) {i : Nat} (hi : i < n) (u : Value) : (w.setCell ⟨g, i, none⟩ u).ownsRow B e 1 (.slice (some ⟨g, 0, none⟩) n cap) n (xs.set i u) := by
  refine ⟨by rw [List.length_set]; exact h.1, .inr ?_⟩
  rcases h.2 with ⟨h1, _⟩ | ⟨g', cap', cur, e1, h2, h3, h4, h5, h6, h7⟩
  · cases h1
  · injection e1 with e1 _ e3
    injection e1 with e1
    injection e1 with e1
    subst e1; subst e3
    have hb : Blk w g e cur.toList := by unfold Blk; rw [Array.toArray_toList]; exact h3
    have hs := hb.set i u
    unfold Blk at hs
    refine ⟨g, cap, (cur.toList.set i u).toArray, rfl, h2, hs, h4, h5, by simp [h6], ?_⟩
    rw [← h7]
    simp [List.take_set]
/-- the first k stores, in a row -/
structure LB (W : World) (mo : Int) (B : Nat) (books : List (List En)) (k : Nat) (ps : List Nat) (o : Value) (A : World) : Prop where
  n : ps.length = k
  own : A.ownsRow B tP 1 o k ((sAt ps books k).map sV)
  st : ST (sAt ps books k) o A
  c : C0 W mo A
  le : ∀ (j : Nat) l, j < k → books[j]? = some l → l.length ≤ 30
theorem LB.below {W : World} {mo : Int} {B : Nat} {books : List (List En)} {k : Nat} {ps : List Nat} {o : Value} {A A' : World} (h : LB W mo B books k ps o A) (hb : Below A.heap.size A A') : LB W mo B books k ps o A' :=
  ⟨h.n, own_below h.own hb, h.st.below hb, h.c.below hb, h.le⟩
theorem C0.kept {W : World} {mo : Int} {A B : World} {Bs n : Nat} {o : Value} {xs : List Value} (h : C0 W mo A) (hown : A.ownsRow Bs tP 1 o n xs) (hW : W.heap.size ≤ Bs) (hg : A.grownBy B o.ownBlock) : C0 W mo B :=
  ⟨h.b5.kept hg (fun e => own_apart h.b5 hown (by decide) e.symm), h.b6.kept hg (fun e => own_apart h.b6 hown (by decide) e.symm), h.bel.grown hg h.bel.size (fun r e => Nat.le_trans hW (own_typ hown r e).1)⟩
/-- one more -/
theorem LB.push {W : World} {mo : Int} {B : Nat} {books : List (List En)} {k : Nat} {ps : List Nat} {o o' : Value} {A A' : World} {l : List En} {p : Nat} (h : LB W mo B books k ps o A) (hW : W.heap.size ≤ B) (hl : books[k]? = some l) (hlen : l.length ≤ 30) (hS : SR A p (ofL l)) (hF : ∀ v, Blk A p tS [v] → ∀ q, v.ownBlock = some q → q < A.heap.size ∧ o.ownBlock ≠ some q)
    (hown : A'.ownsRow B tP 1 o' (k + 1) ((sAt ps books k).map sV ++ [.pointer (some ⟨p, 0, none⟩)])) (hg : A.grownBy A' o.ownBlock) (hloc : o'.ownBlock = o.ownBlock ∨ o'.ownBlock = some A.heap.size) :
    (k % 4 ≠ 3 → LB W mo B books (k + 1) (ps ++ [p]) o' A') ∧ (k % 4 = 3 → ∀ g cap, o' = .slice (some ⟨g, 0, none⟩) (k + 1) cap → LB W mo B books (k + 1) (ps ++ [p]) o' (A'.setCell ⟨g, k, none⟩ (.pointer none))) := by
  have hlo : ∀ q, o'.ownBlock = some q → o.ownBlock = some q ∨ A.heap.size ≤ q := fun q hq => by
    rcases hloc with h1 | h1
    · exact .inl (h1 ▸ hq)
    · rw [h1] at hq; cases hq; exact .inr (Nat.le_refl _)
  have hst := (h.st.snoc (x := some (p, ofL l)) (fun p' es' e => by cases e; exact ⟨hS, hF⟩)).step h.own hg hlo
  have hc := h.c.kept h.own hW hg
  have hle : ∀ (j : Nat) l', j < k + 1 → books[j]? = some l' → l'.length ≤ 30 := fun j l' hj hl' => by
    rcases Nat.lt_succ_iff_lt_or_eq.1 hj with h1 | rfl
    · exact h.le j l' h1 hl'
    · rw [hl] at hl'; cases hl'; exact hlen
  have hn : (ps ++ [p]).length = k + 1 := by simp [h.n]
  have happ := sAt_app (ps := ps) (books := books) (k := k) (by rw [h.n]; exact Nat.le_refl _) p
  have hgk : (ps ++ [p]).getD k 0 = p := by rw [← h.n]; simp [List.getD]
  have hbk : books.getD k [] = l := by rw [List.getD_eq_getElem?_getD, hl]; rfl
  constructor
  · intro h3
    have e : sAt (ps ++ [p]) books (k + 1) = sAt ps books k ++ [some (p, ofL l)] := by rw [sAt_succ, happ, if_neg h3, hgk, hbk]
    exact ⟨hn, by rw [e, List.map_append]; exact hown, by rw [e]; exact hst, hc, hle⟩
  · intro h3 g cap ho
    subst ho
    have e : sAt (ps ++ [p]) books (k + 1) = sAt ps books k ++ [none] := by rw [sAt_succ, happ, if_pos h3]
    have hgs := grownBy_setAt A' g k (.pointer none)
    have hst2 : ST (sAt ps books k ++ [none]) (.slice (some ⟨g, 0, none⟩) (k + 1) cap) A' := by
      refine ST.snoc (fun i p' es' hi => ?_) (fun p' es' e => by cases e)
      exact hst i p' es' (by rw [List.getElem?_append_left (List.getElem?_eq_some_iff.1 hi).1]; exact hi)
    refine ⟨hn, ?_, ?_, ?_, hle⟩
    · rw [e, List.map_append]
      have := own_set1 hown (i := k) (by omega) (.pointer none)
      rw [List.set_append_right _ _ (by rw [List.length_map, sAt_len]; exact Nat.le_refl _), List.length_map, sAt_len, Nat.sub_self] at this
      exact this
    · rw [e]
      exact hst2.step hown hgs (fun q hq => .inl hq)
    · exact hc.kept hown hW hgs
abbrev tM : TypeId := 71
theorem own_row {A C : World} {B n size : Nat} {e : TypeId} {v : Value} {xs : List Value} {row : Option Nat} (h : A.ownsRow B e size v n xs) (hg : A.grownBy C row) (hr : RowOk A row) : C.ownsRow B e size v n xs := by
  refine h.kept hg ?_
  cases hv : v.ownBlock with
  | none => exact .inl rfl
  | some k =>
    refine .inr (fun e => ?_)
    obtain ⟨_, cs, fr, hc⟩ := own_typ h k hv
    obtain ⟨o, ho, hcell⟩ := hr k e.symm
    rw [hc] at ho
    cases ho
    simp [Obj.isCells] at hcell
theorem ST.row {l : List (Option (Nat × List En))} {o : Value} {A C : World} {row : Option Nat} (h : ST l o A) (hg : A.grownBy C row) (hr : RowOk A row) : ST l o C := fun i p es hi => by
  obtain ⟨h1, h2⟩ := h i p es hi
  obtain ⟨v, hb, _⟩ := h1.pr
  have hb' := blk_row1 hb hg hr
  refine ⟨h1.row hg hr, fun v' hv q hq => ?_⟩
  obtain rfl : v' = v := by have := (hv.inj hb').2; injection this
  have := h2 v' hb q hq
  exact ⟨Nat.lt_of_lt_of_le this.1 hg.size, this.2⟩
theorem LB.row {W : World} {mo : Int} {B : Nat} {books : List (List En)} {k : Nat} {ps : List Nat} {o : Value} {A C : World} {row : Option Nat} (h : LB W mo B books k ps o A) (hg : A.grownBy C row) (hr : ∀ r, row = some r → W.heap.size ≤ r ∧ ∃ o : Obj, A.heap[r]? = some o ∧ o.isCells = false) : LB W mo B books k ps o C :=
  have hk : RowOk A row := fun r e => (hr r e).2
  ⟨h.n, own_row h.own hg hk, h.st.row hg hk, h.c.row hg hr, h.le⟩
/-- the stores, and what is wanted of the first k bidders -/
structure WB (W : World) (mo : Int) (B : Nat) (books : List (List En)) (ps : List Nat) (o : Value) (bm b12 : Nat) (f : Nat → Int) (k : Nat) (A : World) : Prop where
  l : LB W mo B books books.length ps o A
  m : WM A bm k f k
  b : Blk A b12 tM [.map (some bm)]
  w : W.heap.size ≤ bm
  w2 : W.heap.size + 1 < b12
theorem WB.below {W : World} {mo : Int} {B : Nat} {books : List (List En)} {ps : List Nat} {o : Value} {bm b12 : Nat} {f : Nat → Int} {k : Nat} {A C : World} (h : WB W mo B books ps o bm b12 f k A) (hb : Below A.heap.size A C) : WB W mo B books ps o bm b12 f k C := ⟨h.l.below hb, h.m.below hb, h.b.belowS hb, h.w, h.w2⟩
theorem WM.isMap {W : World} {b n k : Nat} {f : Nat → Int} (h : WM W b n f k) : ∃ o : Obj, W.heap[b]? = some o ∧ o.isCells = false := by
  obtain ⟨D, ⟨es, clock, hb, _⟩, _⟩ := h
  exact ⟨_, hb, rfl⟩
theorem WB.skip {W : World} {mo : Int} {B : Nat} {books : List (List En)} {ps : List Nat} {o : Value} {bm b12 : Nat} {f : Nat → Int} {k : Nat} {A : World} (h : WB W mo B books ps o bm b12 f k A) (hf : f k = 0) : WB W mo B books ps o bm b12 f (k + 1) A := by
  obtain ⟨D, ho, h1, h2, h3⟩ := h.m.skip hf
  exact ⟨h.l, ⟨D, ho.mono (by omega), h1, h2, h3⟩, h.b, h.w, h.w2⟩
theorem WB.put {W : World} {mo : Int} {B : Nat} {books : List (List En)} {ps : List Nat} {o : Value} {bm b12 : Nat} {f : Nat → Int} {k : Nat} {A C : World} (h : WB W mo B books ps o bm b12 f k A) (hw : WM C bm (k + 1) f (k + 1)) (hg : A.grownBy C (some bm)) : WB W mo B books ps o bm b12 f (k + 1) C :=
  ⟨h.l.row hg (fun r e => by cases e; exact ⟨h.w, h.m.isMap⟩), hw, blk_row1 h.b hg (fun r e => by cases e; exact h.m.isMap), h.w, h.w2⟩
theorem i64_and15r (b : Int) : 0 ≤ bits .and .i64 b 15 ∧ bits .and .i64 b 15 ≤ 15 := by
  show 0 ≤ IntKind.i64.wrap ((BitVec.ofInt 64 b &&& BitVec.ofInt 64 15).toNat : Nat) ∧ IntKind.i64.wrap ((BitVec.ofInt 64 b &&& BitVec.ofInt 64 15).toNat : Nat) ≤ 15
  rw [BitVec.toNat_and, show (BitVec.ofInt 64 15).toNat = 2 ^ 4 - 1 from by decide, Nat.and_two_pow_sub_one_eq_mod, IntKind.wrap_i64]
  omega
theorem ST.one {l : List (Option (Nat × List En))} {o : Value} {A C : World} {b : Nat} {t : TypeId} {x : Value} (h : ST l o A) (hb : Blk A b t [x]) (ht : tS ≠ t) (hx : ∀ z, x ≠ .int .u64 z) (hg : A.grownBy C (some b)) : ST l o C := fun i p es hi => by
  obtain ⟨h1, h2⟩ := h i p es hi
  obtain ⟨v, kb, _⟩ := h1.pr
  have kb' := kb.kept hg (by have := blk_ne kb hb ht; simpa using this)
  refine ⟨h1.one hb ht hx hg, fun v' hv q hq => ?_⟩
  obtain rfl : v' = v := by have := (hv.inj kb').2; injection this
  have := h2 v' kb q hq
  exact ⟨Nat.lt_of_lt_of_le this.1 hg.size, this.2⟩
theorem WB.num {W : World} {mo : Int} {B : Nat} {books : List (List En)} {ps : List Nat} {o : Value} {bm b12 : Nat} {f : Nat → Int} {k : Nat} {A : World} (h : WB W mo B books ps o bm b12 f k A) (m : Int) : WB W m B books ps o bm b12 f k (A.setCell ⟨W.heap.size, 0, none⟩ (.int .i64 m)) := by
  have hg := grownBy_setAt A W.heap.size 0 (.int .i64 m)
  have b5 := h.l.c.b5
  have hbm : some bm ≠ some W.heap.size := fun e => by
    injection e with e
    obtain ⟨ob, ho, hc⟩ := h.m.isMap
    rw [e] at ho
    have hb : A.heap[W.heap.size]? = _ := b5
    rw [hb] at ho
    cases ho
    simp [Obj.isCells] at hc
  refine ⟨⟨h.l.n, h.l.own.kept hg ?_, h.l.st.one b5 (by decide) (by simp) hg, ⟨b5.set 0 _, h.l.c.b6.other (p := ⟨W.heap.size, 0, none⟩) (by simp) _, h.l.c.bel.setCell (p := ⟨W.heap.size, 0, none⟩) (Nat.le_refl _) _⟩, h.l.le⟩, h.m.kept hg hbm, h.b.other (p := ⟨W.heap.size, 0, none⟩) (by have := h.w2; simp; omega) _, h.w, h.w2⟩
  cases hv : o.ownBlock with
  | none => exact .inl rfl
  | some q => exact .inr (fun e => own_apart b5 h.l.own (by decide) (hv.trans e))
theorem WB.ps {W : World} {mo : Int} {B : Nat} {books : List (List En)} {ps : List Nat} {o : Value} {bm b12 : Nat} {f : Nat → Int} {k : Nat} {A : World} (h : WB W mo B books ps o bm b12 f k A) : ∃ Ao co, o = .slice Ao books.length co ∧ PS A o (sAt ps books books.length) := by
  obtain ⟨Ao, co, rfl⟩ := own_sl h.l.own
  refine ⟨Ao, co, rfl, Ao, co, by rw [sAt_len], fun i x hx => ?_⟩
  have hi : i < books.length := by have := (List.getElem?_eq_some_iff.1 hx).1; rwa [sAt_len] at this
  have hown := h.l.own
  rcases hown.2 with ⟨h1, h0⟩ | ⟨g, cap, cur, e1, h2, h3, h4, h5, h6, h7⟩
  · omega
  · injection e1 with e1 _ e3
    subst e1; subst e3
    have hb : Blk A g tP cur.toList := by unfold Blk; rw [Array.toArray_toList]; exact h3
    refine ⟨g, 0, rfl, hb.lt, ?_, fun q hq => ?_⟩
    · rw [Nat.zero_add]
      refine hb.cell ?_
      have h8 : (cur.toList.take (books.length * 1))[i]? = some (sV x) := by rw [h7, List.getElem?_map, hx]; rfl
      rw [List.getElem?_take, if_pos (by omega)] at h8
      exact h8
    · subst hq
      exact (h.l.st i q.1 q.2 hx).1
/-- while the report goes on -/
structure QI (w : World) (a n : Int) (va vs : Value) (items : Int) (W' : World) : Prop where
  a : Blk W' w.heap.size 3 [.int .i64 a]
  n : Blk W' (w.heap.size + 1) 3 [.int .i64 n]
  x : Blk W' (w.heap.size + 1 + 1) 67 [va]
  y : Blk W' (w.heap.size + 1 + 1 + 1) 70 [vs]
  t : Blk W' (w.heap.size + 1 + 1 + 2) 32 [.int .u64 items]
  bel : Below w.heap.size w W'
theorem QI.below {w : World} {a n items : Int} {va vs : Value} {A C : World} (h : QI w a n va vs items A) (hb : Below A.heap.size A C) : QI w a n va vs items C := ⟨h.a.belowS hb, h.n.belowS hb, h.x.belowS hb, h.y.belowS hb, h.t.belowS hb, h.bel.trans (hb.mono h.bel.size)⟩
theorem QI.row {w : World} {a n items : Int} {va vs : Value} {A C : World} (h : QI w a n va vs items A) {row : Option Nat} (hg : A.grownBy C row) (hr : ∀ r, row = some r → w.heap.size ≤ r ∧ ∃ o : Obj, A.heap[r]? = some o ∧ o.isCells = false) : QI w a n va vs items C :=
  have k : RowOk A row := fun r e => (hr r e).2
  ⟨blk_row1 h.a hg k, blk_row1 h.n hg k, blk_row1 h.x hg k, blk_row1 h.y hg k, blk_row1 h.t hg k, h.bel.grown hg h.bel.size (fun r e => (hr r e).1)⟩
theorem QI.ownF (w : World) (a n items : Int) (va vs : Value) {b : Nat} (hb : w.heap.size ≤ b) : OwnFrom b (fun (_ : Unit) W' => QI w a n va vs items W') := fun s A C row hs hg hr =>
  hs.row hg (fun r e => ⟨Nat.le_trans hb (hr r e).1, (hr r e).2⟩)
theorem QI.set {w : World} {a n items : Int} {va vs : Value} {A : World} (h : QI w a n va vs items A) (a' n' : Int) : QI w a' n' va vs items ((A.setCell ⟨w.heap.size, 0, none⟩ (.int .i64 a')).setCell ⟨w.heap.size + 1, 0, none⟩ (.int .i64 n')) :=
  ⟨(h.a.set 0 _).other (by simp) _, (h.n.other (by simp) _).set 0 _, (h.x.other (by simp <;> omega) _).other (by simp <;> omega) _, (h.y.other (by simp <;> omega) _).other (by simp <;> omega) _, (h.t.other (by simp <;> omega) _).other (by simp <;> omega) _,
    (h.bel.setCell (p := ⟨w.heap.size, 0, none⟩) (Nat.le_refl _) _).setCell (p := ⟨w.heap.size + 1, 0, none⟩) (by simp) _⟩
/-- slices that are read, a nil one of no capacity -/
def sliceZ {α : Type} (d : Kd α) : Kd (List α) where
  sz := 1
  E := []
  K := fun w xs cs => ∃ A c, cs = [.slice A xs.length c] ∧ xs.length ≤ c ∧ (A = none → c = 0) ∧ d.C w A xs.length xs
  M := fun _ _ _ _ _ => False
  K_len := by
    rintro w x cs ⟨A, c, rfl, _⟩
    rfl
  K_one := by
    rintro w x cs ⟨A, c, rfl, _⟩ u hu
    rw [List.mem_singleton.1 hu]
    rfl
  K_below := by
    rintro w w1 x cs hb ⟨A, c, rfl, hl, hn, hr⟩
    exact ⟨A, c, rfl, hl, hn, Kd.C_below hr hb⟩
  K_of_M := by
    intro w base ok x cs h
    exact h.elim
  M_mono := by
    intro w base ok ok' x cs hok h
    exact h
  M_bound := by
    intro w base ok x cs h
    exact h.elim
  M_move := by
    intro w w1 base ok x cs hm h
    exact h.elim
  M_lower := by
    intro w base base' ok x cs hb h
    exact h
end Go.Proofs.Ytnlhgnioedalpaa.Pri

/- delta: a book's stores. -/
set_option linter.unusedSimpArgs false
set_option linter.unusedVariables false
namespace Go.Proofs.Ytnlhgnioedalpaa.Pri
open Go.RowKit Go.Proofs.YtnlhgnioedalpaaW.PrintWords Go.Proofs.Ytnlhgnioedalpaa.PPricePlays Go.Maps
attribute [local go_sem] Oper.semAt_some

/-- the stores ps that hold the lists ls -/
def oL (ps : List Nat) (ls : List (List En)) : List (Option (Nat × List En)) := (ps.zip ls).map some
theorem oL_snoc {ps : List Nat} {ls : List (List En)} (h : ps.length = ls.length) (p : Nat) (l : List En) : oL (ps ++ [p]) (ls ++ [l]) = oL ps ls ++ [some (p, l)] := by
  unfold oL
  rw [List.zip_append h, List.map_append]
  rfl
/-- a book of stores, in a row of the call's own -/
structure BK (B : Nat) (ps : List Nat) (ls : List (List En)) (o : Value) (A : World) : Prop where
  n : ps.length = ls.length
  nd : ps.Nodup
  lt : ∀ p ∈ ps, B ≤ p ∧ p < A.heap.size
  own : A.ownsRow B tP 1 o ls.length ((oL ps ls).map sV)
  st : ST (oL ps ls) o A
theorem BK.below {B : Nat} {ps : List Nat} {ls : List (List En)} {o : Value} {A C : World} (h : BK B ps ls o A) (hb : Below A.heap.size A C) : BK B ps ls o C :=
  ⟨h.n, h.nd, fun p hp => ⟨(h.lt p hp).1, Nat.lt_of_lt_of_le (h.lt p hp).2 hb.size⟩, own_below h.own hb, h.st.below hb⟩
theorem BK.nil (B : Nat) (W : World) : BK B [] [] (.slice none 0 0) W := ⟨rfl, List.nodup_nil, by simp, World.ownsRow_nil _ _ _ _, fun i p es hi => by simp [oL] at hi⟩
/-- one more store -/
theorem BK.push {B : Nat} {ps : List Nat} {ls : List (List En)} {o o' : Value} {A C : World} {p : Nat} {l : List En} (h : BK B ps ls o A) (hp : p ∉ ps) (hB : B ≤ p) (hS : SR A p l) (hF : ∀ v, Blk A p tS [v] → ∀ q, v.ownBlock = some q → q < A.heap.size ∧ o.ownBlock ≠ some q)
    (hown : C.ownsRow B tP 1 o' (ls.length + 1) ((oL ps ls).map sV ++ [.pointer (some ⟨p, 0, none⟩)])) (hg : A.grownBy C o.ownBlock) (hloc : o'.ownBlock = o.ownBlock ∨ o'.ownBlock = some A.heap.size) : BK B (ps ++ [p]) (ls ++ [l]) o' C := by
  have hlo : ∀ q, o'.ownBlock = some q → o.ownBlock = some q ∨ A.heap.size ≤ q := fun q hq => by
    rcases hloc with h1 | h1
    · exact .inl (h1 ▸ hq)
    · rw [h1] at hq; cases hq; exact .inr (Nat.le_refl _)
  have hst := (h.st.snoc (x := some (p, l)) (fun p' es' e => by cases e; exact ⟨hS, hF⟩)).step h.own hg hlo
  refine ⟨by simp [h.n], ?_, fun q hq => ?_, ?_, ?_⟩
  · rw [List.nodup_append]
    exact ⟨h.nd, by simp, fun a ha b hb e => by simp at hb; subst hb; subst e; exact hp ha⟩
  · rw [List.mem_append, List.mem_singleton] at hq
    rcases hq with hq | rfl
    · exact ⟨(h.lt q hq).1, Nat.lt_of_lt_of_le (h.lt q hq).2 hg.size⟩
    · exact ⟨hB, Nat.lt_of_lt_of_le hS.pr.lt hg.size⟩
  · rw [oL_snoc h.n, List.map_append, List.length_append]
    exact hown
  · rw [oL_snoc h.n]
    exact hst
set_option maxRecDepth 100000 in
set_option maxHeartbeats 4000000 in
theorem open_any (W : World) (v : Value) (L : List (List En)) (h : PEE W v L) (hU : ∀ l ∈ L, UE l) (hl : L.length ≤ 100000) (hl2 : ∀ l ∈ L, l.length ≤ 100000) :
    Calls Try.prog 78 #[v] W fun e w' => ∃ o ps, e = .returned o ∧ BK W.heap.size ps (L.map ofL) o w' ∧ Below W.heap.size W w' := by
  have H := Lib.hid h
  obtain ⟨A, c, rfl, -⟩ := h
  obtain ⟨i0, hi0, hiz0, hiz1, hiz2⟩ := info_parts infoP
  go_enter Try.func78, Try.ntmps78
  go_wp2_with fail
  go_loopw [3, 8] (fun o i wr => ∃ (k : Nat) (ps : List Nat), k ≤ L.length ∧ i = .int .i64 (k : Int) ∧ BK W.heap.size ps ((L.take k).map ofL) o wr ∧ Below W.heap.size W wr) (fun _ i _ => L.length - (intOf i).toNat)
  case atStart => exact ⟨0, [], Nat.zero_le _, rfl, BK.nil _ _, Below.refl _ W⟩
  case round =>
    obtain ⟨k, ps, hk, rfl, hK, hB⟩ := hrel
    have HK := Lib.hid hK
    clear hK
    by_cases hlt : k < L.length
    · obtain ⟨l, hx⟩ : ∃ x, L[k] = x := ⟨_, rfl⟩
      have hx2 : L[k]? = some l := by rw [List.getElem?_eq_getElem hlt, hx]
      have hUl : UE l := hU _ (List.mem_of_getElem? hx2)
      have hll := hl2 _ (List.mem_of_getElem? hx2)
      have hlk : ((L.take k).map ofL).length = k := by rw [List.length_map, List.length_take]; omega
      obtain ⟨b3, off3, c4, A3, c3, e1, hlb, r0, hpe⟩ := (H.out.below hB).at hx2
      obtain ⟨rfl, rfl⟩ : A = some ⟨b3, off3, none⟩ ∧ c = c4 := by injection e1 with e1 e2 e3; exact ⟨e1, e3⟩
      have htk : (L.take (k + 1)).map ofL = (L.take k).map ofL ++ [ofL l] := by rw [List.take_succ_eq_append_getElem hlt, List.map_append, hx]; rfl
      have HPE := Lib.hid hpe; have HTK := Lib.hid htk; have HB := Lib.hid hB; have HLK := Lib.hid hlk
      clear hx hx2 e1 hpe htk hB hlk
      go_wp2_with fail
      refine (of_anyF wr _ l HPE.out hUl (by omega)).mono ?_; rintro e w4 ⟨rfl, hS4, hl4, hb4, hO4⟩
      obtain ⟨p, hp⟩ : ∃ p, wr.heap.size = p := ⟨_, rfl⟩
      have hpn : p ∉ ps := fun hm => by have := (HK.out.lt p hm).2; omega
      have hWp : W.heap.size ≤ p := by rw [← hp]; exact HB.out.size
      have hal : Below w4.heap.size w4 (w4.alloc (.cells #[.pointer (some ⟨p, 0, none⟩)] tP)) := (Below.refl _ w4).alloc (Nat.le_refl _) _
      have hLA := (HK.out.below hb4).below hal
      rw [hp] at hS4 hO4 ⊢
      have hSA := hS4.below hal
      have hOA := hO4.below hS4.pr.lt hal
      have hol : ∀ q, u3.ownBlock = some q → q < p := fun q hq => by have := HK.out.own.lt q hq; omega
      have hFA : ∀ v, Blk (w4.alloc (.cells #[.pointer (some ⟨p, 0, none⟩)] tP)) p tS [v] → ∀ q, v.ownBlock = some q → q < (w4.alloc (.cells #[.pointer (some ⟨p, 0, none⟩)] tP)).heap.size ∧ u3.ownBlock ≠ some q := fun v hv q hq => by
        have h1 := hOA v hv q hq
        exact ⟨h1.2, fun e => by have := hol q e; omega⟩
      have hbA : Below W.heap.size W (w4.alloc (.cells #[.pointer (some ⟨p, 0, none⟩)] tP)) := (HB.out.trans (hb4.mono HB.out.size)).alloc (HB.out.trans (hb4.mono HB.out.size)).size _
      have HLA := Lib.hid hLA; have HSA := Lib.hid hSA; have HFA := Lib.hid hFA; have HBA := Lib.hid hbA; have HNB := Lib.hid (news_blk (Blk.new w4 [.pointer (some ⟨p, 0, none⟩)] tP))
      have hwk := hLA.own
      rw [HLK.out] at hwk
      have HWK := Lib.hid hwk
      clear hS4 hl4 hb4 hO4 hp hal hLA hSA hOA hFA hol hbA hwk
      go_wp2_with (first | (at_builtin; refine wpList_append_own_at _ rfl _ _ 122 rfl W.heap.size tP i0 _ 1 8 Try.underlying122 hi0 hiz0 hiz1 hiz2 rfl (by decide) _ k _ rfl HWK.out ⟨w4.heap.size, 0, none⟩ 1 1 [.pointer (some ⟨p, 0, none⟩)] rfl rfl HNB.out (by simp [Value.oneCell']) (by unfold maxLen; omega) (by omega) HBA.out.size ?_; intro v6 w6 hown6 hgrow6 hnil6 hloc6) | fail)
      have hn6 : w6.ownsRow W.heap.size tP 1 v6 (((L.take k).map ofL).length + 1) ((oL ps ((L.take k).map ofL)).map sV ++ [.pointer (some ⟨p, 0, none⟩)]) := by rw [HLK.out]; exact hown6
      have HN := Lib.hid (show BK W.heap.size (ps ++ [p]) ((L.take (k + 1)).map ofL) v6 w6 ∧ Below W.heap.size W w6 from ⟨by rw [HTK.out]; exact HLA.out.push hpn hWp HSA.out HFA.out hn6 hgrow6 hloc6, HBA.out.grown hgrow6 HBA.out.size (fun r e => (own_typ HWK.out r e).1)⟩)
      clear hown6 hgrow6 hnil6 hloc6 hn6
      go_roundw
      case rel => exact ⟨k + 1, ps ++ [p], by omega, by simp, HN.out⟩
      case measure => simp [intOf]; omega
    · obtain rfl : k = L.length := by omega
      have hK := HK.out
      rw [List.take_length] at hK
      have HK2 := Lib.hid hK
      clear hK HK
      go_wp2_with fail
      exact bodyPost_ret (v := u3) (by simp [results, Try.f78, go_sem]) rfl ⟨u3, ps, rfl, HK2.out, hB⟩
/-- a bidder's store's list -/
def lsAt (ls : List (List En)) (i : Int) : List En := if i < 0 then [] else ls.getD i.toNat []
set_option maxHeartbeats 2000000 in
theorem at_any (W : World) (B : Nat) (ps : List Nat) (ls : List (List En)) (o : Value) (h : BK B ps ls o W) (i : Int) (hl : ls.length ≤ 100000) :
    Calls Try.prog 80 #[o, .int .i64 i] W fun e w' => ∃ p : Nat, e = .returned (.pointer (some ⟨p, 0, none⟩)) ∧ SR w' p (lsAt ls i) ∧ Below W.heap.size W w' := by
  have HK := Lib.hid h
  obtain ⟨Ao, co, rfl⟩ := own_sl h.own
  have hnew := Lib.hid (sr_nil W)
  have hal := Lib.hid (show Below W.heap.size W (W.alloc (.cells #[.slice none 0 0] tS)) from (Below.refl _ W).alloc (Nat.le_refl _) _)
  clear h
  by_cases h0 : i < 0
  · have he : lsAt ls i = [] := by unfold lsAt; rw [if_pos h0]
    rw [he]
    clear he
    go_enter Try.func80, Try.ntmps80
    go_wp2_with fail
    exact bodyPost_ret (v := .pointer (some ⟨W.heap.size, 0, none⟩)) (by simp [results, Try.f80, go_sem]) rfl ⟨_, rfl, hnew.out, hal.out⟩
  · obtain ⟨k, rfl⟩ : ∃ k : Nat, i = (k : Int) := ⟨i.toNat, by omega⟩
    by_cases hk : k < ls.length
    · obtain ⟨l, hx⟩ : ∃ x, ls[k] = x := ⟨_, rfl⟩
      have hx2 : ls[k]? = some l := by rw [List.getElem?_eq_getElem hk, hx]
      have hkp : k < ps.length := by rw [HK.out.n]; exact hk
      have ho : (oL ps ls)[k]? = some (some (ps[k], l)) := by
        unfold oL
        rw [List.getElem?_map, (List.getElem?_zip_eq_some (z := (ps[k], l))).2 ⟨List.getElem?_eq_getElem hkp, hx2⟩]
        rfl
      have he : lsAt ls (k : Int) = l := by unfold lsAt; rw [if_neg (by omega), Int.toNat_natCast, List.getD_eq_getElem?_getD, hx2]; rfl
      rw [he]
      have hst := (HK.out.st k _ _ ho).1
      obtain ⟨p, hp⟩ : ∃ p, ps[k] = p := ⟨_, rfl⟩
      rw [hp] at hst ho
      have hown := HK.out.own
      rcases hown.2 with ⟨h1, h2⟩ | ⟨g, cap, cur, e1, h2, h3, h4, h5, h6, h7⟩
      · omega
      · injection e1 with e1 _ e3
        subst e1; subst e3
        have hb : Blk W g tP cur.toList := by unfold Blk; rw [Array.toArray_toList]; exact h3
        have hcell : W.cell? ⟨g, k, none⟩ = some (.pointer (some ⟨p, 0, none⟩)) := by
          refine hb.cell ?_
          have h8 : (cur.toList.take (ls.length * 1))[k]? = some (.pointer (some ⟨p, 0, none⟩)) := by rw [h7, List.getElem?_map, ho]; rfl
          rw [List.getElem?_take, if_pos (by omega)] at h8
          exact h8
        have HST := Lib.hid hst
        have kl : (k : Int) < (ls.length : Int) := by omega
        clear hx hx2 ho he hp hown h3 h6 h7 hb hst
        go_enter Try.func80, Try.ntmps80
        go_wp2_with fail
        exact bodyPost_ret (v := .pointer (some ⟨p, 0, none⟩)) (by simp [results, Try.f80, go_sem]) rfl ⟨_, rfl, HST.out, Below.refl _ W⟩
    · have he : lsAt ls (k : Int) = [] := by unfold lsAt; rw [if_neg (by omega), Int.toNat_natCast, List.getD_eq_getElem?_getD, List.getElem?_eq_none (by omega)]; rfl
      rw [he]
      have kl : ¬ (k : Int) < (ls.length : Int) := by omega
      clear he
      go_enter Try.func80, Try.ntmps80
      go_wp2_with fail
      exact bodyPost_ret (v := .pointer (some ⟨W.heap.size, 0, none⟩)) (by simp [results, Try.f80, go_sem]) rfl ⟨_, rfl, hnew.out, hal.out⟩
theorem BK.at {B : Nat} {ps : List Nat} {ls : List (List En)} {o : Value} {A : World} (h : BK B ps ls o A) {k : Nat} {l : List En} (hx : ls[k]? = some l) : ∃ (g c p : Nat), o = .slice (some ⟨g, 0, none⟩) ls.length c ∧ ps[k]? = some p ∧ A.cell? ⟨g, k, none⟩ = some (.pointer (some ⟨p, 0, none⟩)) ∧ SR A p l ∧ g < A.heap.size := by
  have hk : k < ls.length := (List.getElem?_eq_some_iff.1 hx).1
  have hkp : k < ps.length := by rw [h.n]; exact hk
  have ho : (oL ps ls)[k]? = some (some (ps[k], l)) := by
    unfold oL
    rw [List.getElem?_map, (List.getElem?_zip_eq_some (z := (ps[k], l))).2 ⟨List.getElem?_eq_getElem hkp, hx⟩]
    rfl
  rcases h.own.2 with ⟨h1, h2⟩ | ⟨g, cap, cur, e1, h2, h3, h4, h5, h6, h7⟩
  · omega
  · have hb : Blk A g tP cur.toList := by unfold Blk; rw [Array.toArray_toList]; exact h3
    refine ⟨g, cap, ps[k], e1, List.getElem?_eq_getElem hkp, hb.cell ?_, (h.st k _ _ ho).1, hb.lt⟩
    have h8 : (cur.toList.take (ls.length * 1))[k]? = some (.pointer (some ⟨ps[k], 0, none⟩)) := by rw [h7, List.getElem?_map, ho]; rfl
    rw [List.getElem?_take, if_pos (by omega)] at h8
    exact h8
abbrev tEs : TypeId := 22
theorem infoEs : (Try.prog.info? 22).map (fun i => (i.zero, i.size, i.bytes)) = some (some (.slice none 0 0), 1, 24) := by kernel_rfl
/-- lists, each a row of the call's own, in a row of the call's own -/
structure LR (B : Nat) (ls : List (List En)) (vs : List Value) (o : Value) (A : World) : Prop where
  n : vs.length = ls.length
  own : A.ownsRow B tEs 1 o ls.length vs
  each : ∀ (i : Nat) v l, vs[i]? = some v → ls[i]? = some l → A.ownsRow B tE 2 v l.length (cellsOf cE l)
theorem LR.below {B : Nat} {ls : List (List En)} {vs : List Value} {o : Value} {A C : World} (h : LR B ls vs o A) (hb : Below A.heap.size A C) : LR B ls vs o C := ⟨h.n, own_below h.own hb, fun i v l a b => own_below (h.each i v l a b) hb⟩
theorem LR.pee {B : Nat} {ls : List (List En)} {vs : List Value} {o : Value} {A : World} (h : LR B ls vs o A) (hl : ∀ l ∈ ls, l.length ≤ 1099511627776) : PEE A o ls := by
  obtain ⟨Ao, co, rfl⟩ := own_sl h.own
  refine ⟨Ao, co, rfl, fun i l hi => ?_⟩
  have hk : i < ls.length := (List.getElem?_eq_some_iff.1 hi).1
  have hkv : i < vs.length := by rw [h.n]; exact hk
  rcases h.own.2 with ⟨h1, h2⟩ | ⟨g, cap, cur, e1, h2, h3, h4, h5, h6, h7⟩
  · omega
  · injection e1 with e1 _ e3
    subst e1; subst e3
    have hb : Blk A g tEs cur.toList := by unfold Blk; rw [Array.toArray_toList]; exact h3
    have ho := h.each i vs[i] l (List.getElem?_eq_getElem hkv) hi
    obtain ⟨A1, c1, e2⟩ := own_sl ho
    rw [e2] at ho
    refine ⟨g, 0, A1, c1, rfl, hb.lt, ?_, pe_own (hl l (List.mem_of_getElem? hi)) ho⟩
    rw [Nat.zero_add, ← e2]
    refine hb.cell ?_
    have h8 : (cur.toList.take (ls.length * 1))[i]? = some vs[i] := by rw [h7]; exact List.getElem?_eq_getElem hkv
    rw [List.getElem?_take, if_pos (by omega)] at h8
    exact h8
set_option maxRecDepth 100000 in
set_option maxHeartbeats 4000000 in
theorem lists_any (W : World) (B : Nat) (ps : List Nat) (ls : List (List En)) (o : Value) (h : BK B ps ls o W) (hl : ls.length ≤ 100000) (hl2 : ∀ l ∈ ls, l.length ≤ 100000) :
    Calls Try.prog 83 #[o] W fun e w' => ∃ v vs, e = .returned v ∧ LR W.heap.size ls vs v w' ∧ Below W.heap.size W w' := by
  have HK := Lib.hid h
  obtain ⟨Ao, co, rfl⟩ := own_sl h.own
  obtain ⟨i0, hi0, hiz0, hiz1, hiz2⟩ := info_parts infoEs
  clear h
  go_enter Try.func83, Try.ntmps83
  go_wp2_with fail
  go_loopw [3, 8] (fun o i wr => ∃ (k : Nat) (vs : List Value), k ≤ ls.length ∧ i = .int .i64 (k : Int) ∧ LR W.heap.size (ls.take k) vs o wr ∧ Below W.heap.size W wr) (fun _ i _ => ls.length - (intOf i).toNat)
  case atStart => exact ⟨0, [], Nat.zero_le _, rfl, ⟨rfl, World.ownsRow_nil _ _ _ _, fun i v l a b => by simp at a⟩, Below.refl _ W⟩
  case round =>
    obtain ⟨k, vs, hk, rfl, hL, hB⟩ := hrel
    have HL := Lib.hid hL
    clear hL
    by_cases hlt : k < ls.length
    · obtain ⟨l, hx⟩ : ∃ x, ls[k] = x := ⟨_, rfl⟩
      have hx2 : ls[k]? = some l := by rw [List.getElem?_eq_getElem hlt, hx]
      have hll := hl2 _ (List.mem_of_getElem? hx2)
      have hlk : (ls.take k).length = k := by rw [List.length_take]; omega
      obtain ⟨g, c4, p, e1, _, r0, hS, hgl⟩ := (HK.out.below hB).at hx2
      obtain ⟨rfl, rfl⟩ : Ao = some ⟨g, 0, none⟩ ∧ co = c4 := by injection e1 with e1 e2 e3; exact ⟨e1, e3⟩
      have htk : ls.take (k + 1) = ls.take k ++ [l] := by rw [List.take_succ_eq_append_getElem hlt, hx]
      have HS := Lib.hid hS; have HTK := Lib.hid htk; have HB := Lib.hid hB; have HLK := Lib.hid hlk
      clear hx hx2 e1 hS htk hB hlk
      go_wp2_with fail
      refine (list_any wr p l HS.out.pr (by omega)).mono ?_; rintro e w4 ⟨v4, rfl, ho4, hb4⟩
      obtain ⟨A4, c5, rfl⟩ := own_sl ho4
      have hal : Below w4.heap.size w4 (w4.alloc (.cells #[.slice A4 l.length c5] tEs)) := (Below.refl _ w4).alloc (Nat.le_refl _) _
      have hLA := (HL.out.below hb4).below hal
      have hOA := own_below ho4 hal
      have hbA : Below W.heap.size W (w4.alloc (.cells #[.slice A4 l.length c5] tEs)) := (HB.out.trans (hb4.mono HB.out.size)).alloc (HB.out.trans (hb4.mono HB.out.size)).size _
      have hwk := hLA.own
      rw [HLK.out] at hwk
      have HLA := Lib.hid hLA; have HOA := Lib.hid (own_weaken hOA HB.out.size); have HBA := Lib.hid hbA; have HNB := Lib.hid (news_blk (Blk.new w4 [.slice A4 l.length c5] tEs)); have HWK := Lib.hid hwk
      clear ho4 hb4 hal hLA hOA hbA hwk
      go_wp2_with (first | (at_builtin; refine wpList_append_own_at _ rfl _ _ 68 rfl W.heap.size tEs i0 _ 1 24 Try.underlying68 hi0 hiz0 hiz1 hiz2 rfl (by decide) _ k _ rfl HWK.out ⟨w4.heap.size, 0, none⟩ 1 1 [.slice A4 l.length c5] rfl rfl HNB.out (by simp [Value.oneCell']) (by unfold maxLen; omega) (by omega) HBA.out.size ?_; intro v6 w6 hown6 hgrow6 hnil6 hloc6) | fail)
      have hvl : vs.length = k := by rw [HLA.out.n]; exact HLK.out
      have hk2 : ∀ v l', (w4.alloc (.cells #[.slice A4 l.length c5] tEs)).ownsRow W.heap.size tE 2 v l'.length (cellsOf cE l') → w6.ownsRow W.heap.size tE 2 v l'.length (cellsOf cE l') := fun v l' ho => by
        refine ho.kept hgrow6 ?_
        cases hv : v.ownBlock with
        | none => exact .inl rfl
        | some q =>
          refine .inr (fun e => ?_)
          obtain ⟨_, cs, fr, hc⟩ := own_typ ho q hv
          obtain ⟨_, cs2, fr2, hc2⟩ := own_typ HWK.out q e.symm
          rw [hc] at hc2
          injection hc2 with hc2
          injection hc2 with _ hc2
          exact absurd hc2 (by decide)
      have HN := Lib.hid (show LR W.heap.size (ls.take (k + 1)) (vs ++ [.slice A4 l.length c5]) v6 w6 ∧ Below W.heap.size W w6 from by
        refine ⟨⟨by rw [HTK.out]; simp [hvl, HLK.out], by rw [HTK.out, List.length_append, HLK.out]; exact hown6, fun i v l' hv hl' => ?_⟩, HBA.out.grown hgrow6 HBA.out.size (fun r e => (own_typ HWK.out r e).1)⟩
        rw [HTK.out] at hl'
        by_cases hik : i < k
        · rw [List.getElem?_append_left (by omega)] at hv
          rw [List.getElem?_append_left (by rw [HLK.out]; omega)] at hl'
          exact hk2 v l' (HLA.out.each i v l' hv hl')
        · have hi : i = k := by have := (List.getElem?_eq_some_iff.1 hv).1; simp [hvl] at this; omega
          subst hi
          rw [List.getElem?_append_right (by omega), hvl, Nat.sub_self] at hv
          rw [List.getElem?_append_right (by rw [HLK.out]; exact Nat.le_refl _), HLK.out, Nat.sub_self] at hl'
          obtain rfl : Value.slice A4 l.length c5 = v := by simpa using hv
          obtain rfl : l = l' := by simpa using hl'
          exact hk2 _ l HOA.out)
      clear hown6 hgrow6 hnil6 hloc6 hk2 hvl
      go_roundw
      case rel => exact ⟨k + 1, vs ++ [.slice A4 l.length c5], by omega, by simp, HN.out⟩
      case measure => simp [intOf]; omega
    · obtain rfl : k = ls.length := by omega
      have hL := HL.out
      rw [List.take_length] at hL
      have HL2 := Lib.hid hL
      clear hL HL
      go_wp2_with fail
      exact bodyPost_ret (v := u3) (by simp [results, Try.f83, go_sem]) rfl ⟨u3, vs, rfl, HL2.out, hB⟩
end Go.Proofs.Ytnlhgnioedalpaa.Pri
