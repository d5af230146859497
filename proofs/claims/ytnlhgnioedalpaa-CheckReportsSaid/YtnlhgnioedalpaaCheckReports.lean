/- CheckReports: the bidders whose bids may not be are those that the document says, as far as is asked for. -/
import Derived.Test.YtnlhgnioedalpaaChkF
import Derived.Test.YtnlhgnioedalpaaCheckBids
set_option linter.unusedSimpArgs false
set_option linter.unusedVariables false
namespace Go.Proofs.Ytnlhgnioedalpaa.Pri
open Go.RowKit Go.Proofs.YtnlhgnioedalpaaW.PrintWords Go.Proofs.Ytnlhgnioedalpaa.PPricePlays Go.Maps
attribute [local go_sem] Oper.semAt_some

abbrev tP : TypeId := 25
theorem infoP : (Try.prog.info? 25).map (fun i => (i.zero, i.size, i.bytes)) = some (some (.pointer none), 1, 8) := by kernel_rfl
theorem own_set1 {w : World} {B g n cap : Nat} {e : TypeId} {xs : List Value} (h : w.ownsRow B e 1 (.slice (some ⟨g, 0, none⟩) n cap) n xs) {i : Nat} (hi : i < n) (u : Value) : (w.setCell ⟨g, i, none⟩ u).ownsRow B e 1 (.slice (some ⟨g, 0, none⟩) n cap) n (xs.set i u) := by
  refine ⟨by rw [List.length_set]; exact h.1, .inr ?_⟩
  rcases h.2 with ⟨h1, _⟩ | ⟨g', cap', cur, e1, h2, h3, h4, h5, h6, h7⟩
  · cases h1
  · injection e1 with e1 _ e3
    injection e1 with e1
    injection e1 with e1
    subst e1; subst e3
    have hb : Blk w g e cur.toList := by unfold Blk; rw [Array.toArray_toList]; exact h3
    have hs := hb.set i u
    unfold Blk at hs
    refine ⟨g, cap, (cur.toList.set i u).toArray, rfl, h2, hs, h4, h5, by simp [h6], ?_⟩
    rw [← h7]
    simp [List.take_set]
theorem own_addr {w : World} {B n : Nat} {e : TypeId} {v : Value} {xs : List Value} (h : w.ownsRow B e 1 v (n + 1) xs) : ∃ g cap, v = .slice (some ⟨g, 0, none⟩) (n + 1) cap := by
  rcases h.2 with ⟨_, h0⟩ | ⟨g, cap, _, e1, _⟩
  · omega
  · exact ⟨g, cap, e1⟩
/-- the first k stores, in a row -/
structure LB (W : World) (mo : Int) (B : Nat) (books : List (List En)) (k : Nat) (ps : List Nat) (o : Value) (A : World) : Prop where
  n : ps.length = k
  own : A.ownsRow B tP 1 o k ((sAt ps books k).map sV)
  st : ST (sAt ps books k) o A
  c : C0 W mo A
  le : ∀ (j : Nat) l, j < k → books[j]? = some l → l.length ≤ 30
theorem LB.below {W : World} {mo : Int} {B : Nat} {books : List (List En)} {k : Nat} {ps : List Nat} {o : Value} {A A' : World} (h : LB W mo B books k ps o A) (hb : Below A.heap.size A A') : LB W mo B books k ps o A' :=
  ⟨h.n, own_below h.own hb, h.st.below hb, h.c.below hb, h.le⟩
theorem C0.kept {W : World} {mo : Int} {A B : World} {Bs n : Nat} {o : Value} {xs : List Value} (h : C0 W mo A) (hown : A.ownsRow Bs tP 1 o n xs) (hW : W.heap.size ≤ Bs) (hg : A.grownBy B o.ownBlock) : C0 W mo B :=
  ⟨h.b5.kept hg (fun e => own_apart h.b5 hown (by decide) e.symm), h.b6.kept hg (fun e => own_apart h.b6 hown (by decide) e.symm), h.bel.grown hg h.bel.size (fun r e => Nat.le_trans hW (own_typ hown r e).1)⟩
/-- one more -/
theorem LB.push {W : World} {mo : Int} {B : Nat} {books : List (List En)} {k : Nat} {ps : List Nat} {o o' : Value} {A A' : World} {l : List En} {p : Nat} (h : LB W mo B books k ps o A) (hW : W.heap.size ≤ B) (hl : books[k]? = some l) (hlen : l.length ≤ 30) (hS : SR A p (ofL l)) (hF : ∀ v, Blk A p tS [v] → ∀ q, v.ownBlock = some q → q < A.heap.size ∧ o.ownBlock ≠ some q)
    (hown : A'.ownsRow B tP 1 o' (k + 1) ((sAt ps books k).map sV ++ [.pointer (some ⟨p, 0, none⟩)])) (hg : A.grownBy A' o.ownBlock) (hloc : o'.ownBlock = o.ownBlock ∨ o'.ownBlock = some A.heap.size) :
    (k % 4 ≠ 3 → LB W mo B books (k + 1) (ps ++ [p]) o' A') ∧ (k % 4 = 3 → ∀ g cap, o' = .slice (some ⟨g, 0, none⟩) (k + 1) cap → LB W mo B books (k + 1) (ps ++ [p]) o' (A'.setCell ⟨g, k, none⟩ (.pointer none))) := by
  have hlo : ∀ q, o'.ownBlock = some q → o.ownBlock = some q ∨ A.heap.size ≤ q := fun q hq => by
    rcases hloc with h1 | h1
    · exact .inl (h1 ▸ hq)
    · rw [h1] at hq; cases hq; exact .inr (Nat.le_refl _)
  have hst := (h.st.snoc (x := some (p, ofL l)) (fun p' es' e => by cases e; exact ⟨hS, hF⟩)).step h.own hg hlo
  have hc := h.c.kept h.own hW hg
  have hle : ∀ (j : Nat) l', j < k + 1 → books[j]? = some l' → l'.length ≤ 30 := fun j l' hj hl' => by
    rcases Nat.lt_succ_iff_lt_or_eq.1 hj with h1 | rfl
    · exact h.le j l' h1 hl'
    · rw [hl] at hl'; cases hl'; exact hlen
  have hn : (ps ++ [p]).length = k + 1 := by simp [h.n]
  have happ := sAt_app (ps := ps) (books := books) (k := k) (by rw [h.n]; exact Nat.le_refl _) p
  have hgk : (ps ++ [p]).getD k 0 = p := by rw [← h.n]; simp [List.getD]
  have hbk : books.getD k [] = l := by rw [List.getD_eq_getElem?_getD, hl]; rfl
  constructor
  · intro h3
    have e : sAt (ps ++ [p]) books (k + 1) = sAt ps books k ++ [some (p, ofL l)] := by rw [sAt_succ, happ, if_neg h3, hgk, hbk]
    exact ⟨hn, by rw [e, List.map_append]; exact hown, by rw [e]; exact hst, hc, hle⟩
  · intro h3 g cap ho
    subst ho
    have e : sAt (ps ++ [p]) books (k + 1) = sAt ps books k ++ [none] := by rw [sAt_succ, happ, if_pos h3]
    have hgs := grownBy_setAt A' g k (.pointer none)
    have hst2 : ST (sAt ps books k ++ [none]) (.slice (some ⟨g, 0, none⟩) (k + 1) cap) A' := by
      refine ST.snoc (fun i p' es' hi => ?_) (fun p' es' e => by cases e)
      exact hst i p' es' (by rw [List.getElem?_append_left (List.getElem?_eq_some_iff.1 hi).1]; exact hi)
    refine ⟨hn, ?_, ?_, ?_, hle⟩
    · rw [e, List.map_append]
      have := own_set1 hown (i := k) (by omega) (.pointer none)
      rw [List.set_append_right _ _ (by rw [List.length_map, sAt_len]; exact Nat.le_refl _), List.length_map, sAt_len, Nat.sub_self] at this
      exact this
    · rw [e]
      exact hst2.step hown hgs (fun q hq => .inl hq)
    · exact hc.kept hown hW hgs
abbrev tM : TypeId := 71
theorem own_row {A C : World} {B n size : Nat} {e : TypeId} {v : Value} {xs : List Value} {row : Option Nat} (h : A.ownsRow B e size v n xs) (hg : A.grownBy C row) (hr : RowOk A row) : C.ownsRow B e size v n xs := by
  refine h.kept hg ?_
  cases hv : v.ownBlock with
  | none => exact .inl rfl
  | some k =>
    refine .inr (fun e => ?_)
    obtain ⟨_, cs, fr, hc⟩ := own_typ h k hv
    obtain ⟨o, ho, hcell⟩ := hr k e.symm
    rw [hc] at ho
    cases ho
    simp [Obj.isCells] at hcell
theorem ST.row {l : List (Option (Nat × List En))} {o : Value} {A C : World} {row : Option Nat} (h : ST l o A) (hg : A.grownBy C row) (hr : RowOk A row) : ST l o C := fun i p es hi => by
  obtain ⟨h1, h2⟩ := h i p es hi
  obtain ⟨v, hb, _⟩ := h1.pr
  have hb' := blk_row1 hb hg hr
  refine ⟨h1.row hg hr, fun v' hv q hq => ?_⟩
  obtain rfl : v' = v := by have := (hv.inj hb').2; injection this
  have := h2 v' hb q hq
  exact ⟨Nat.lt_of_lt_of_le this.1 hg.size, this.2⟩
theorem LB.row {W : World} {mo : Int} {B : Nat} {books : List (List En)} {k : Nat} {ps : List Nat} {o : Value} {A C : World} {row : Option Nat} (h : LB W mo B books k ps o A) (hg : A.grownBy C row) (hr : ∀ r, row = some r → W.heap.size ≤ r ∧ ∃ o : Obj, A.heap[r]? = some o ∧ o.isCells = false) : LB W mo B books k ps o C :=
  have hk : RowOk A row := fun r e => (hr r e).2
  ⟨h.n, own_row h.own hg hk, h.st.row hg hk, h.c.row hg hr, h.le⟩
theorem allR_range (es : List En) (items : Int) : ∀ (bs : List En) (seen : List Int), 0 ≤ allR es items seen bs ∧ allR es items seen bs ≤ 50 := by
  intro bs
  induction bs with
  | nil => intro seen; exact ⟨by simp [allR], by simp [allR]⟩
  | cons b r ih =>
    intro seen
    unfold allR
    have h1 : 0 ≤ oneN b es items ∧ oneN b es items ≤ 50 := by unfold oneN; split <;> (try split) <;> omega
    split
    · exact h1
    · split
      · omega
      · exact ih _
theorem allN_range (bs es : List En) (items : Int) : 0 ≤ allN bs es items ∧ allN bs es items ≤ 50 := by
  unfold allN
  split
  · omega
  · exact allR_range es items bs []
/-- the stores, and what is wanted of the first k bidders -/
structure WB (W : World) (mo : Int) (B : Nat) (books : List (List En)) (ps : List Nat) (o : Value) (bm b12 : Nat) (f : Nat → Int) (k : Nat) (A : World) : Prop where
  l : LB W mo B books books.length ps o A
  m : WM A bm k f k
  b : Blk A b12 tM [.map (some bm)]
  w : W.heap.size ≤ bm
  w2 : W.heap.size + 1 < b12
theorem WB.below {W : World} {mo : Int} {B : Nat} {books : List (List En)} {ps : List Nat} {o : Value} {bm b12 : Nat} {f : Nat → Int} {k : Nat} {A C : World} (h : WB W mo B books ps o bm b12 f k A) (hb : Below A.heap.size A C) : WB W mo B books ps o bm b12 f k C := ⟨h.l.below hb, h.m.below hb, h.b.belowS hb, h.w, h.w2⟩
theorem WM.isMap {W : World} {b n k : Nat} {f : Nat → Int} (h : WM W b n f k) : ∃ o : Obj, W.heap[b]? = some o ∧ o.isCells = false := by
  obtain ⟨D, ⟨es, clock, hb, _⟩, _⟩ := h
  exact ⟨_, hb, rfl⟩
theorem WB.skip {W : World} {mo : Int} {B : Nat} {books : List (List En)} {ps : List Nat} {o : Value} {bm b12 : Nat} {f : Nat → Int} {k : Nat} {A : World} (h : WB W mo B books ps o bm b12 f k A) (hf : f k = 0) : WB W mo B books ps o bm b12 f (k + 1) A := by
  obtain ⟨D, ho, h1, h2, h3⟩ := h.m.skip hf
  exact ⟨h.l, ⟨D, ho.mono (by omega), h1, h2, h3⟩, h.b, h.w, h.w2⟩
theorem WB.put {W : World} {mo : Int} {B : Nat} {books : List (List En)} {ps : List Nat} {o : Value} {bm b12 : Nat} {f : Nat → Int} {k : Nat} {A C : World} (h : WB W mo B books ps o bm b12 f k A) (hw : WM C bm (k + 1) f (k + 1)) (hg : A.grownBy C (some bm)) : WB W mo B books ps o bm b12 f (k + 1) C :=
  ⟨h.l.row hg (fun r e => by cases e; exact ⟨h.w, h.m.isMap⟩), hw, blk_row1 h.b hg (fun r e => by cases e; exact h.m.isMap), h.w, h.w2⟩
theorem xAt_ue {books : List (List En)} (h : ∀ l ∈ books, UE l) (i : Nat) : UE (xAt books i) := by
  unfold xAt
  split
  · rename_i hi
    exact fun e he => by
      have hU := h (books.getD i []) (by rw [show books.getD i [] = books[i] from by simp [List.getD, hi.1]]; exact List.getElem_mem hi.1)
      exact ((tight_ofL (es := books.getD i []) hU).ok e he).1
  · intro e he; simp at he
theorem i64_and15r (b : Int) : 0 ≤ bits .and .i64 b 15 ∧ bits .and .i64 b 15 ≤ 15 := by
  show 0 ≤ IntKind.i64.wrap ((BitVec.ofInt 64 b &&& BitVec.ofInt 64 15).toNat : Nat) ∧ IntKind.i64.wrap ((BitVec.ofInt 64 b &&& BitVec.ofInt 64 15).toNat : Nat) ≤ 15
  rw [BitVec.toNat_and, show (BitVec.ofInt 64 15).toNat = 2 ^ 4 - 1 from by decide, Nat.and_two_pow_sub_one_eq_mod, IntKind.wrap_i64]
  omega
theorem ST.one {l : List (Option (Nat × List En))} {o : Value} {A C : World} {b : Nat} {t : TypeId} {x : Value} (h : ST l o A) (hb : Blk A b t [x]) (ht : tS ≠ t) (hx : ∀ z, x ≠ .int .u64 z) (hg : A.grownBy C (some b)) : ST l o C := fun i p es hi => by
  obtain ⟨h1, h2⟩ := h i p es hi
  obtain ⟨v, kb, _⟩ := h1.pr
  have kb' := kb.kept hg (by have := blk_ne kb hb ht; simpa using this)
  refine ⟨h1.one hb ht hx hg, fun v' hv q hq => ?_⟩
  obtain rfl : v' = v := by have := (hv.inj kb').2; injection this
  have := h2 v' kb q hq
  exact ⟨Nat.lt_of_lt_of_le this.1 hg.size, this.2⟩
theorem WB.num {W : World} {mo : Int} {B : Nat} {books : List (List En)} {ps : List Nat} {o : Value} {bm b12 : Nat} {f : Nat → Int} {k : Nat} {A : World} (h : WB W mo B books ps o bm b12 f k A) (m : Int) : WB W m B books ps o bm b12 f k (A.setCell ⟨W.heap.size, 0, none⟩ (.int .i64 m)) := by
  have hg := grownBy_setAt A W.heap.size 0 (.int .i64 m)
  have b5 := h.l.c.b5
  have hbm : some bm ≠ some W.heap.size := fun e => by
    injection e with e
    obtain ⟨ob, ho, hc⟩ := h.m.isMap
    rw [e] at ho
    have hb : A.heap[W.heap.size]? = _ := b5
    rw [hb] at ho
    cases ho
    simp [Obj.isCells] at hc
  refine ⟨⟨h.l.n, h.l.own.kept hg ?_, h.l.st.one b5 (by decide) (by simp) hg, ⟨b5.set 0 _, h.l.c.b6.other (p := ⟨W.heap.size, 0, none⟩) (by simp) _, h.l.c.bel.setCell (p := ⟨W.heap.size, 0, none⟩) (Nat.le_refl _) _⟩, h.l.le⟩, h.m.kept hg hbm, h.b.other (p := ⟨W.heap.size, 0, none⟩) (by have := h.w2; simp; omega) _, h.w, h.w2⟩
  cases hv : o.ownBlock with
  | none => exact .inl rfl
  | some q => exact .inr (fun e => own_apart b5 h.l.own (by decide) (hv.trans e))
theorem WB.ps {W : World} {mo : Int} {B : Nat} {books : List (List En)} {ps : List Nat} {o : Value} {bm b12 : Nat} {f : Nat → Int} {k : Nat} {A : World} (h : WB W mo B books ps o bm b12 f k A) : ∃ Ao co, o = .slice Ao books.length co ∧ PS A o (sAt ps books books.length) := by
  obtain ⟨Ao, co, rfl⟩ := own_sl h.l.own
  refine ⟨Ao, co, rfl, Ao, co, by rw [sAt_len], fun i x hx => ?_⟩
  have hi : i < books.length := by have := (List.getElem?_eq_some_iff.1 hx).1; rwa [sAt_len] at this
  have hown := h.l.own
  rcases hown.2 with ⟨h1, h0⟩ | ⟨g, cap, cur, e1, h2, h3, h4, h5, h6, h7⟩
  · omega
  · injection e1 with e1 _ e3
    subst e1; subst e3
    have hb : Blk A g tP cur.toList := by unfold Blk; rw [Array.toArray_toList]; exact h3
    refine ⟨g, 0, rfl, hb.lt, ?_, fun q hq => ?_⟩
    · rw [Nat.zero_add]
      refine hb.cell ?_
      have h8 : (cur.toList.take (books.length * 1))[i]? = some (sV x) := by rw [h7, List.getElem?_map, hx]; rfl
      rw [List.getElem?_take, if_pos (by omega)] at h8
      exact h8
    · subst hq
      exact (h.l.st i q.1 q.2 hx).1
/-- while the report goes on -/
structure QI (w : World) (a n : Int) (va vs : Value) (items : Int) (W' : World) : Prop where
  a : Blk W' w.heap.size 3 [.int .i64 a]
  n : Blk W' (w.heap.size + 1) 3 [.int .i64 n]
  x : Blk W' (w.heap.size + 1 + 1) 67 [va]
  y : Blk W' (w.heap.size + 1 + 1 + 1) 70 [vs]
  t : Blk W' (w.heap.size + 1 + 1 + 2) 32 [.int .u64 items]
  bel : Below w.heap.size w W'
theorem QI.below {w : World} {a n items : Int} {va vs : Value} {A C : World} (h : QI w a n va vs items A) (hb : Below A.heap.size A C) : QI w a n va vs items C := ⟨h.a.belowS hb, h.n.belowS hb, h.x.belowS hb, h.y.belowS hb, h.t.belowS hb, h.bel.trans (hb.mono h.bel.size)⟩
theorem QI.row {w : World} {a n items : Int} {va vs : Value} {A C : World} (h : QI w a n va vs items A) {row : Option Nat} (hg : A.grownBy C row) (hr : ∀ r, row = some r → w.heap.size ≤ r ∧ ∃ o : Obj, A.heap[r]? = some o ∧ o.isCells = false) : QI w a n va vs items C :=
  have k : RowOk A row := fun r e => (hr r e).2
  ⟨blk_row1 h.a hg k, blk_row1 h.n hg k, blk_row1 h.x hg k, blk_row1 h.y hg k, blk_row1 h.t hg k, h.bel.grown hg h.bel.size (fun r e => (hr r e).1)⟩
theorem QI.ownF (w : World) (a n items : Int) (va vs : Value) {b : Nat} (hb : w.heap.size ≤ b) : OwnFrom b (fun (_ : Unit) W' => QI w a n va vs items W') := fun s A C row hs hg hr =>
  hs.row hg (fun r e => ⟨Nat.le_trans hb (hr r e).1, (hr r e).2⟩)
theorem QI.set {w : World} {a n items : Int} {va vs : Value} {A : World} (h : QI w a n va vs items A) (a' n' : Int) : QI w a' n' va vs items ((A.setCell ⟨w.heap.size, 0, none⟩ (.int .i64 a')).setCell ⟨w.heap.size + 1, 0, none⟩ (.int .i64 n')) :=
  ⟨(h.a.set 0 _).other (by simp) _, (h.n.other (by simp) _).set 0 _, (h.x.other (by simp <;> omega) _).other (by simp <;> omega) _, (h.y.other (by simp <;> omega) _).other (by simp <;> omega) _, (h.t.other (by simp <;> omega) _).other (by simp <;> omega) _,
    (h.bel.setCell (p := ⟨w.heap.size, 0, none⟩) (Nat.le_refl _) _).setCell (p := ⟨w.heap.size + 1, 0, none⟩) (by simp) _⟩
theorem qi_made (w : World) (va vs : Value) (items : Int) : QI w (-1) 0 va vs items (((((w.alloc (.cells #[.int .i64 (-1)] 3)).alloc (.cells #[.int .i64 0] 3)).alloc (.cells #[va] 67)).alloc (.cells #[vs] 70)).alloc (.cells #[.int .u64 items] 32)) := by
  obtain ⟨v1, e1⟩ : ∃ v, w.alloc (.cells #[.int .i64 (-1)] 3) = v := ⟨_, rfl⟩
  have z1 : v1.heap.size = w.heap.size + 1 := by rw [← e1]; simp
  have b1 : Blk v1 w.heap.size 3 [.int .i64 (-1)] := by rw [← e1]; exact Blk.new w _ _
  have l1 : Below w.heap.size w v1 := by rw [← e1]; exact (Below.refl _ _).alloc (Nat.le_refl _) _
  rw [e1]
  obtain ⟨v2, e2⟩ : ∃ v, v1.alloc (.cells #[.int .i64 0] 3) = v := ⟨_, rfl⟩
  have z2 : v2.heap.size = w.heap.size + 1 + 1 := by rw [← e2]; simp [z1]
  have b2 : Blk v2 (w.heap.size + 1) 3 [.int .i64 0] := by rw [← e2, ← z1]; exact Blk.new v1 _ _
  have l2 : Below v1.heap.size v1 v2 := by rw [← e2]; exact (Below.refl _ _).alloc (Nat.le_refl _) _
  rw [e2]
  obtain ⟨v3, e3⟩ : ∃ v, v2.alloc (.cells #[va] 67) = v := ⟨_, rfl⟩
  have z3 : v3.heap.size = w.heap.size + 1 + 1 + 1 := by rw [← e3]; simp [z2]
  have b3 : Blk v3 (w.heap.size + 1 + 1) 67 [va] := by rw [← e3, ← z2]; exact Blk.new v2 _ _
  have l3 : Below v2.heap.size v2 v3 := by rw [← e3]; exact (Below.refl _ _).alloc (Nat.le_refl _) _
  rw [e3]
  obtain ⟨v4, e4⟩ : ∃ v, v3.alloc (.cells #[vs] 70) = v := ⟨_, rfl⟩
  have z4 : v4.heap.size = w.heap.size + 1 + 1 + 2 := by rw [← e4]; simp [z3]
  have b4 : Blk v4 (w.heap.size + 1 + 1 + 1) 70 [vs] := by rw [← e4, ← z3]; exact Blk.new v3 _ _
  have l4 : Below v3.heap.size v3 v4 := by rw [← e4]; exact (Below.refl _ _).alloc (Nat.le_refl _) _
  rw [e4]
  have b5 : Blk (v4.alloc (.cells #[.int .u64 items] 32)) (w.heap.size + 1 + 1 + 2) 32 [.int .u64 items] := by rw [← z4]; exact Blk.new v4 _ _
  have l5 : Below v4.heap.size v4 (v4.alloc (.cells #[.int .u64 items] 32)) := (Below.refl _ _).alloc (Nat.le_refl _) _
  have k2 := l1.trans (l2.mono l1.size)
  have k3 := k2.trans (l3.mono k2.size)
  have k4 := k3.trans (l4.mono k3.size)
  exact ⟨(((b1.belowS l2).belowS l3).belowS l4).belowS l5, ((b2.belowS l3).belowS l4).belowS l5, (b3.belowS l4).belowS l5, b4.belowS l5, b5, k4.trans (l5.mono k4.size)⟩
set_option maxHeartbeats 8000000 in
set_option maxRecDepth 100000 in
theorem reports_core (W : World) (v u : Value) (all books : List (List En)) (h : PEE W v all) (k : PEE W u books) (hU : ∀ l ∈ all, UE l) (kU : ∀ l ∈ books, UE l) (items : Int) (hi : U items) (mo : Int) :
    Calls Try.prog 9 #[v, u, .int .u64 items, .int .i64 mo] W fun e w' => e = .returned (.bool true) ∧ Below W.heap.size W w' := by
  have H := Lib.hid h; have K := Lib.hid k
  obtain ⟨A1, c1, rfl, -⟩ := h
  obtain ⟨A2, c2, rfl, -⟩ := k
  refine (callsIn_wide (n := 4)).1 ?_
  refine callsIn_of_wp_marks Try.func9 rfl trivial ?_ rfl
  refine wpIn_wide.2 ?_
  simp only [Try.ntmps9, List.size_toArray, List.length_cons, List.length_nil, Nat.reduceAdd, Nat.reduceSub, Array.replicate_succ, Array.replicate_zero, List.push_toArray, List.append_toArray, List.nil_append, List.cons_append]
  have hc0 : C0 W mo ((W.alloc (.cells #[.int .i64 mo] 3)).alloc (.cells #[.bool false] 4)) :=
    ⟨(Blk.new W [.int .i64 mo] 3).alloc _, Blk.new2 W _ [.bool false] 4, ((Below.refl _ W).alloc (Nat.le_refl _) _).alloc (by simp) _⟩
  have HC0 := Lib.hid hc0
  clear hc0
  go_wp2_with fail
  refine (aliveC_any _).mono ?_; rintro e w1 ⟨rfl, hb1⟩
  have HC1 := Lib.hid (HC0.out.below hb1)
  clear hb1
  have FW := few_any w1 _ all (H.out.below HC1.out.bel) 10 30 (by decide)
  obtain ⟨fe, hfe⟩ : ∃ fe, fewB all 10 30 = fe := ⟨_, rfl⟩
  rw [hfe] at FW
  have HFW := Lib.hid FW; have HFE := Lib.hid hfe
  clear FW hfe
  go_wp2_with fail
  refine HFW.out.mono ?_; rintro e w2 ⟨rfl, hb2⟩
  have HC2 := Lib.hid (HC1.out.below hb2)
  clear hb2
  have c6 := HC2.out.b6.cell (i := 0) rfl
  have f6 := HC2.out.b6.frozen 0
  have hfin := HC2.out.b6.set 0 (.bool true)
  have hbl := HC2.out.bel.setCell (p := ⟨W.heap.size + 1, 0, none⟩) (by simp) (.bool true)
  have c7 := hfin.cell (i := 0) rfl
  have HB := Lib.hid hbl
  clear hfin hbl
  cases fe with
  | false =>
    go_wp2_with fail
    refine ⟨.bool true, (results_cell1 rfl _ _ _).trans ?_, rfl, HB.out⟩
    go_simp
  | true =>
    by_cases hlong : 12 < books.length
    · have g1 : (12 : Int) < (books.length : Int) := by omega
      go_wp2_with fail
      refine ⟨.bool true, (results_cell1 rfl _ _ _).trans ?_, rfl, HB.out⟩
      go_simp
    · have g1 : ¬ (12 : Int) < (books.length : Int) := by omega
      have hall : all.length ≤ 10 ∧ ∀ l ∈ all, l.length ≤ 30 := by
        have := HFE.out
        unfold fewB at this
        rw [Bool.and_eq_true, decide_eq_true_eq, List.all_eq_true] at this
        refine ⟨by omega, fun l hl => ?_⟩
        have := of_decide_eq_true (this.2 l hl)
        omega
      have HALL := Lib.hid hall
      have ha10 := hall.1
      clear hall c6 f6 c7 HB
      have hlit := World.ownsRow_lit (base := w2.heap.size) (e := 25) (size := 1) w2 #[] 0 (Nat.le_refl _) (by decide) rfl
      have hal2 : Below w2.heap.size w2 (w2.alloc (.cells #[] 25)) := (Below.refl _ w2).alloc (Nat.le_refl _) _
      have HL0 := Lib.hid hlit; have HC3 := Lib.hid (HC2.out.below hal2)
      have hz3 : (w2.alloc (.cells #[] 25)).heap.size = w2.heap.size + 1 := by simp
      obtain ⟨B, hBn⟩ : ∃ B, w2.heap.size = B := ⟨_, rfl⟩
      have hWB : W.heap.size ≤ B := by rw [← hBn]; exact HC2.out.bel.size
      obtain ⟨w3, hw3⟩ : ∃ w3, w2.alloc (.cells #[] 25) = w3 := ⟨_, rfl⟩
      rw [hw3, hBn] at HL0 hz3
      rw [hw3] at HC3
      have HW3 := Lib.hid hw3; have HBN := Lib.hid hBn; have HZ3 := Lib.hid hz3
      clear hlit hal2 hw3 hBn hz3
      go_wp2_with fail
      rw [HW3.out, HBN.out]
      obtain ⟨i0, hi0, hiz0, hiz1, hiz2⟩ := info_parts infoP
      go_loopw [9, 35] (fun o i wr => ∃ (k : Nat) (ps : List Nat), k ≤ books.length ∧ i = .int .i64 (k : Int) ∧ LB W mo B books k ps o wr ∧ B ≤ wr.heap.size) (fun _ i _ => books.length - (intOf i).toNat)
      case atStart => exact ⟨0, [], Nat.zero_le _, rfl, ⟨rfl, HL0.out, fun i p es hi => by simp [sAt] at hi, HC3.out, fun j l hj => by omega⟩, by have := HZ3.out; omega⟩
      case round =>
        clear HL0 HC3
        obtain ⟨k, ps, hk, rfl, hLB, hBs⟩ := hrel
        have HLB := Lib.hid hLB
        clear hLB
        by_cases hlt : k < books.length
        · obtain ⟨l, hx⟩ : ∃ x, books[k] = x := ⟨_, rfl⟩
          have hx2 : books[k]? = some l := by rw [List.getElem?_eq_getElem hlt, hx]
          have hUl : UE l := kU _ (List.mem_of_getElem? hx2)
          obtain ⟨b3, off3, c4, A3, c3, e1, hlb, r0, hpe⟩ := (K.out.below HLB.out.c.bel).at hx2
          obtain ⟨rfl, rfl⟩ : A2 = some ⟨b3, off3, none⟩ ∧ c2 = c4 := by injection e1 with e1 e2 e3; exact ⟨e1, e3⟩
          have HX := Lib.hid hx2; have HPE := Lib.hid hpe
          clear hx hx2 e1 hpe
          by_cases hl30 : 30 < l.length
          · have g3 : (30 : Int) < (l.length : Int) := by omega
            have c6 := HLB.out.c.b6.cell (i := 0) rfl
            have f6 := HLB.out.c.b6.frozen 0
            have c7 := (HLB.out.c.b6.set 0 (.bool true)).cell (i := 0) rfl
            have HB := Lib.hid (HLB.out.c.bel.setCell (p := ⟨W.heap.size + 1, 0, none⟩) (by simp) (.bool true))
            go_wp2_with fail
            refine ⟨.bool true, (results_cell1 rfl _ _ _).trans ?_, rfl, HB.out⟩
            go_simp
          · have g3 : ¬ (30 : Int) < (l.length : Int) := by omega
            go_wp2_with fail
            refine (of_anyF wr _ l HPE.out hUl (by omega)).mono ?_; rintro e w4 ⟨rfl, hS4, hl4, hb4, hO4⟩
            obtain ⟨p, hp⟩ : ∃ p, wr.heap.size = p := ⟨_, rfl⟩
            rw [hp] at hS4 hO4 ⊢
            have hal : Below w4.heap.size w4 (w4.alloc (.cells #[.pointer (some ⟨p, 0, none⟩)] tP)) := (Below.refl _ w4).alloc (Nat.le_refl _) _
            have hLA := (HLB.out.below hb4).below hal
            have hSA := hS4.below hal
            have hOA := hO4.below hS4.pr.lt hal
            have hol : ∀ q, u9.ownBlock = some q → q < p := fun q hq => by have := HLB.out.own.lt q hq; omega
            have hFA : ∀ v, Blk (w4.alloc (.cells #[.pointer (some ⟨p, 0, none⟩)] tP)) p tS [v] → ∀ q, v.ownBlock = some q → q < (w4.alloc (.cells #[.pointer (some ⟨p, 0, none⟩)] tP)).heap.size ∧ u9.ownBlock ≠ some q := fun v hv q hq => by
              have h1 := hOA v hv q hq
              exact ⟨h1.2, fun e => by have := hol q e; omega⟩
            have hbA : B ≤ (w4.alloc (.cells #[.pointer (some ⟨p, 0, none⟩)] tP)).heap.size := Nat.le_trans hBs (Nat.le_trans hb4.size hal.size)
            have HLA := Lib.hid hLA; have HSA := Lib.hid hSA; have HFA := Lib.hid hFA; have HBA := Lib.hid hbA; have HNB := Lib.hid (news_blk (Blk.new w4 [.pointer (some ⟨p, 0, none⟩)] tP))
            have h3f := i64_and3 k (by omega)
            clear hS4 hl4 hb4 hO4 hp hal hLA hSA hOA hFA hol hbA
            by_cases h3 : k % 4 = 3
            · have h3i : (k : Int) % 4 = 3 := by omega
              go_upto_region 12 with (first | (at_builtin; refine wpList_append_own_at _ rfl _ _ 70 rfl B tP i0 _ 1 8 Try.underlying70 hi0 hiz0 hiz1 hiz2 rfl (by decide) _ k _ rfl HLA.out.own ⟨w4.heap.size, 0, none⟩ 1 1 [.pointer (some ⟨p, 0, none⟩)] rfl rfl HNB.out (by simp [Value.oneCell']) (by unfold maxLen; omega) (by omega) HBA.out ?_; intro v6 w6 hown6 hgrow6 hnil6 hloc6) | fail)
              have hpush := (HLA.out.push hWB HX.out (by omega) HSA.out HFA.out hown6 hgrow6 hloc6).2 h3
              have hs6 : B ≤ w6.heap.size := Nat.le_trans HBA.out hgrow6.size
              obtain ⟨g, cap, rfl⟩ := own_addr hown6
              have f6 := own_frozen hown6 k
              obtain ⟨v6c, q6⟩ := own_some hown6 (k := k) (by simp [sAt_len])
              have HN := Lib.hid (show LB W mo B books (k + 1) (ps ++ [p]) (.slice (some ⟨g, 0, none⟩) (k + 1) cap) (w6.setCell ⟨g, k, none⟩ (.pointer none)) ∧ B ≤ (w6.setCell ⟨g, k, none⟩ (.pointer none)).heap.size from ⟨hpush g cap rfl, by simpa [World.setCell] using hs6⟩)
              clear hpush hown6 hgrow6 hnil6 hloc6
              go_wp2_with fail
              go_roundw
              case rel => exact ⟨k + 1, ps ++ [p], by omega, by simp, HN.out⟩
              case measure => simp [intOf]; omega
            · have h3i : ¬ (k : Int) % 4 = 3 := by omega
              go_wp2_with (first | (at_builtin; refine wpList_append_own_at _ rfl _ _ 70 rfl B tP i0 _ 1 8 Try.underlying70 hi0 hiz0 hiz1 hiz2 rfl (by decide) _ k _ rfl HLA.out.own ⟨w4.heap.size, 0, none⟩ 1 1 [.pointer (some ⟨p, 0, none⟩)] rfl rfl HNB.out (by simp [Value.oneCell']) (by unfold maxLen; omega) (by omega) HBA.out ?_; intro v6 w6 hown6 hgrow6 hnil6 hloc6) | fail)
              have hpush := (HLA.out.push hWB HX.out (by omega) HSA.out HFA.out hown6 hgrow6 hloc6).1 h3
              have HN := Lib.hid (show LB W mo B books (k + 1) (ps ++ [p]) v6 w6 ∧ B ≤ w6.heap.size from ⟨hpush, Nat.le_trans HBA.out hgrow6.size⟩)
              clear hpush hown6 hgrow6 hnil6 hloc6
              go_roundw
              case rel => exact ⟨k + 1, ps ++ [p], by omega, by simp, HN.out⟩
              case measure => simp [intOf]; omega
        · obtain rfl : k = books.length := by omega
          obtain ⟨f, hf⟩ : ∃ f, wErr all books items = f := ⟨_, rfl⟩
          have HF := Lib.hid hf
          have hm := WM.made wr f
          have halm : Below wr.heap.size wr (wr.alloc (.map #[] 0)) := (Below.refl _ wr).alloc (Nat.le_refl _) _
          obtain ⟨bm, hbm⟩ : ∃ bm, wr.heap.size = bm := ⟨_, rfl⟩
          have hWm : W.heap.size + 1 < bm := by rw [← hbm]; exact HLB.out.c.b6.lt
          have hzm : (wr.alloc (.map #[] 0)).heap.size = bm + 1 := by simp [hbm]
          have hb12 := Blk.new (wr.alloc (.map #[] 0)) [.map (some bm)] tM
          rw [hbm] at hm
          rw [hzm] at hb12
          have hal12 : Below (wr.alloc (.map #[] 0)).heap.size (wr.alloc (.map #[] 0)) ((wr.alloc (.map #[] 0)).alloc (.cells #[.map (some bm)] tM)) := (Below.refl _ _).alloc (Nat.le_refl _) _
          have HWB := Lib.hid (show WB W mo B books ps u9 bm (bm + 1) f 0 ((wr.alloc (.map #[] 0)).alloc (.cells #[.map (some bm)] tM)) from ⟨(HLB.out.below halm).below hal12, hm.below hal12, hb12, by omega, by omega⟩)
          have HBM := Lib.hid hbm
          have hmm := @run_makeMap Try.prog
          clear hf hm halm hbm hzm hb12 hal12 HLB
          go_wp2_with fail
          rw [HBM.out]
          go_loopw [58] (fun i wr => ∃ k : Nat, k ≤ all.length ∧ i = .int .i64 (k : Int) ∧ WB W mo B books ps u9 bm (bm + 1) f k wr) (fun i _ => all.length - (intOf i).toNat)
          case atStart => exact ⟨0, Nat.zero_le _, rfl, HWB.out⟩
          case round =>
            clear HWB
            obtain ⟨k, hk, rfl, hW⟩ := hrel
            have HWr := Lib.hid hW
            clear hW
            by_cases hlt : k < all.length
            · obtain ⟨bs, hx⟩ : ∃ x, all[k] = x := ⟨_, rfl⟩
              have hx2 : all[k]? = some bs := by rw [List.getElem?_eq_getElem hlt, hx]
              have hUb : UE bs := hU _ (List.mem_of_getElem? hx2)
              have hgd : all.getD k [] = bs := by rw [List.getD_eq_getElem?_getD, hx2]; rfl
              obtain ⟨b3, off3, c4, A3, c3, e1, hlb, r0, hpe⟩ := (H.out.below HWr.out.l.c.bel).at hx2
              obtain ⟨rfl, rfl⟩ : A1 = some ⟨b3, off3, none⟩ ∧ c1 = c4 := by injection e1 with e1 e2 e3; exact ⟨e1, e3⟩
              obtain ⟨er, her⟩ : ∃ er, f k = er := ⟨_, rfl⟩
              have HER := Lib.hid her; have HPR := Lib.hid hpe
              have HFE := Lib.hid (show allN bs (xAt books k) items = er from by rw [← her, ← HF.out]; unfold wErr; rw [hgd])
              have HEW := Lib.hid (show (Lit.int .i64 er).wf = true from by
                have hr := allN_range bs (xAt books k) items
                rw [HFE.out] at hr
                obtain ⟨en, hen⟩ : ∃ en : Nat, er = (en : Int) := ⟨er.toNat, by omega⟩
                rw [hen]; exact nat_wf (by omega))
              have h3f := i64_and3 k (by omega)
              clear hx hx2 hgd e1 her hpe
              by_cases hkb : k < books.length
              · by_cases h3 : k % 4 = 3
                · have h3i : (k : Int) % 4 = 3 := by omega
                  have HX0 := Lib.hid (show xAt books k = [] from by unfold xAt; rw [if_neg (by omega)])
                  have hale : Below wr.heap.size wr (wr.alloc (.cells #[] tE)) := (Below.refl _ wr).alloc (Nat.le_refl _) _
                  have HWX := Lib.hid (HWr.out.below hale); have HPB := Lib.hid (HPR.out.below hale)
                  have HPX := Lib.hid (show PE (wr.alloc (.cells #[] tE)) (.slice (some ⟨wr.heap.size, 0, none⟩) 0 0) (xAt books k) from by rw [HX0.out]; exact pe_blk (l := []) (Blk.new wr [] tE) (Nat.le_refl _) (by decide))
                  have HXL := Lib.hid (show (xAt books k).length ≤ 1000 from by rw [HX0.out]; simp)
                  clear hale
                  go_wp2_with fail
                  refine (rall_any _ _ bs HPB.out hUb _ (xAt books k) HPX.out (xAt_ue kU k) (by have := HXL.out; omega) items hi).mono ?_; rintro e wy ⟨rfl, hby⟩
                  rw [HFE.out]
                  have HWy := Lib.hid (HWX.out.below hby)
                  clear hby
                  by_cases he : er = 0
                  · have HN := Lib.hid (HWy.out.skip (by rw [HER.out]; exact he))
                    subst he
                    go_wp2_with fail
                    go_roundw
                    case rel => exact ⟨k + 1, by omega, by simp, HN.out⟩
                    case measure => simp [intOf]; omega
                  · have c12 := HWy.out.b.cell (i := 0) rfl
                    obtain ⟨D, ho, hD, hh, hs⟩ := HWy.out.m
                    have HOWN := Lib.hid ho; have HPUT := Lib.hid (WM.put (ho.tidy law3) (by rw [HER.out]; exact he) hD hh hs)
                    clear ho hD hh hs
                    go_wp2_with (first | (at_mapUpdate; refine wpList_mapUpdate_own _ rfl _ _ _ tM rfl 3 3 law3 Try.underlying71 _ bm k _ rfl HOWN.out (by unfold maxLen; omega) _ _ _ rfl rfl (keyOf_int_mk Try.underlying3 (nat_wf (by omega))) _ [] (plainElem_int Try.underlying3 HEW.out) ?_; intro w9 hown9 hgrow9) | fail)
                    have HN := Lib.hid (show WB W mo B books ps u9 bm (bm + 1) f (k + 1) w9 from HWy.out.put ⟨_, hown9, by have := HPUT.out; rw [HER.out] at this; exact this⟩ hgrow9)
                    clear hown9 hgrow9
                    go_roundw
                    case rel => exact ⟨k + 1, by omega, by simp, HN.out⟩
                    case measure => simp [intOf]; omega
                · have h3i : ¬ (k : Int) % 4 = 3 := by omega
                  obtain ⟨lb, hy⟩ : ∃ x, books[k] = x := ⟨_, rfl⟩
                  have hy2 : books[k]? = some lb := by rw [List.getElem?_eq_getElem hkb, hy]
                  have hgb : books.getD k [] = lb := by rw [List.getD_eq_getElem?_getD, hy2]; rfl
                  have hUl : UE lb := kU _ (List.mem_of_getElem? hy2)
                  have hlb30 := HWr.out.l.le k lb hkb hy2
                  have hale : Below wr.heap.size wr (wr.alloc (.cells #[] tE)) := (Below.refl _ wr).alloc (Nat.le_refl _) _
                  obtain ⟨b4, off4, c5, A4, c6, e2, hlb4, s0, hpe4⟩ := ((K.out.below HWr.out.l.c.bel).below hale).at hy2
                  obtain ⟨rfl, rfl⟩ : A2 = some ⟨b4, off4, none⟩ ∧ c2 = c5 := by injection e2 with e1 e2 e3; exact ⟨e1, e3⟩
                  have HX0 := Lib.hid (show xAt books k = ofL lb from by unfold xAt; rw [if_pos ⟨hkb, h3⟩, hgb])
                  have HWA := Lib.hid (HWr.out.below hale); have HPA := Lib.hid (HPR.out.below hale); have HP4 := Lib.hid hpe4
                  have HLE := Lib.hid (show (ofL lb).length ≤ 1000 from by have := ofL_len lb; omega)
                  clear hy hy2 hgb e2 hpe4 hale
                  go_wp2_with fail
                  refine (rof_any _ _ lb HP4.out hUl (by omega)).mono ?_; rintro e wx ⟨vx, rfl, hpx, hbx⟩
                  have HWX := Lib.hid (HWA.out.below hbx); have HPB := Lib.hid (HPA.out.below hbx)
                  have HPX := Lib.hid (show PE wx vx (xAt books k) from by rw [HX0.out]; exact hpx)
                  have HXL := Lib.hid (show (xAt books k).length ≤ 1000 from by rw [HX0.out]; exact HLE.out)
                  obtain ⟨Avx, cvx, rfl, -⟩ := hpx
                  clear hbx s0
                  go_wp2_with fail
                  refine (rall_any _ _ bs HPB.out hUb _ (xAt books k) HPX.out (xAt_ue kU k) (by have := HXL.out; omega) items hi).mono ?_; rintro e wy ⟨rfl, hby⟩
                  rw [HFE.out]
                  have HWy := Lib.hid (HWX.out.below hby)
                  clear hby
                  by_cases he : er = 0
                  · have HN := Lib.hid (HWy.out.skip (by rw [HER.out]; exact he))
                    subst he
                    go_wp2_with fail
                    go_roundw
                    case rel => exact ⟨k + 1, by omega, by simp, HN.out⟩
                    case measure => simp [intOf]; omega
                  · have c12 := HWy.out.b.cell (i := 0) rfl
                    obtain ⟨D, ho, hD, hh, hs⟩ := HWy.out.m
                    have HOWN := Lib.hid ho; have HPUT := Lib.hid (WM.put (ho.tidy law3) (by rw [HER.out]; exact he) hD hh hs)
                    clear ho hD hh hs
                    go_wp2_with (first | (at_mapUpdate; refine wpList_mapUpdate_own _ rfl _ _ _ tM rfl 3 3 law3 Try.underlying71 _ bm k _ rfl HOWN.out (by unfold maxLen; omega) _ _ _ rfl rfl (keyOf_int_mk Try.underlying3 (nat_wf (by omega))) _ [] (plainElem_int Try.underlying3 HEW.out) ?_; intro w9 hown9 hgrow9) | fail)
                    have HN := Lib.hid (show WB W mo B books ps u9 bm (bm + 1) f (k + 1) w9 from HWy.out.put ⟨_, hown9, by have := HPUT.out; rw [HER.out] at this; exact this⟩ hgrow9)
                    clear hown9 hgrow9
                    go_roundw
                    case rel => exact ⟨k + 1, by omega, by simp, HN.out⟩
                    case measure => simp [intOf]; omega
              · have HX0 := Lib.hid (show xAt books k = [] from by unfold xAt; rw [if_neg (by omega)])
                have hale : Below wr.heap.size wr (wr.alloc (.cells #[] tE)) := (Below.refl _ wr).alloc (Nat.le_refl _) _
                have HWX := Lib.hid (HWr.out.below hale); have HPB := Lib.hid (HPR.out.below hale)
                have HPX := Lib.hid (show PE (wr.alloc (.cells #[] tE)) (.slice (some ⟨wr.heap.size, 0, none⟩) 0 0) (xAt books k) from by rw [HX0.out]; exact pe_blk (l := []) (Blk.new wr [] tE) (Nat.le_refl _) (by decide))
                have HXL := Lib.hid (show (xAt books k).length ≤ 1000 from by rw [HX0.out]; simp)
                clear hale
                go_wp2_with fail
                refine (rall_any _ _ bs HPB.out hUb _ (xAt books k) HPX.out (xAt_ue kU k) (by have := HXL.out; omega) items hi).mono ?_; rintro e wy ⟨rfl, hby⟩
                rw [HFE.out]
                have HWy := Lib.hid (HWX.out.below hby)
                clear hby
                by_cases he : er = 0
                · have HN := Lib.hid (HWy.out.skip (by rw [HER.out]; exact he))
                  subst he
                  go_wp2_with fail
                  go_roundw
                  case rel => exact ⟨k + 1, by omega, by simp, HN.out⟩
                  case measure => simp [intOf]; omega
                · have c12 := HWy.out.b.cell (i := 0) rfl
                  obtain ⟨D, ho, hD, hh, hs⟩ := HWy.out.m
                  have HOWN := Lib.hid ho; have HPUT := Lib.hid (WM.put (ho.tidy law3) (by rw [HER.out]; exact he) hD hh hs)
                  clear ho hD hh hs
                  go_wp2_with (first | (at_mapUpdate; refine wpList_mapUpdate_own _ rfl _ _ _ tM rfl 3 3 law3 Try.underlying71 _ bm k _ rfl HOWN.out (by unfold maxLen; omega) _ _ _ rfl rfl (keyOf_int_mk Try.underlying3 (nat_wf (by omega))) _ [] (plainElem_int Try.underlying3 HEW.out) ?_; intro w9 hown9 hgrow9) | fail)
                  have HN := Lib.hid (show WB W mo B books ps u9 bm (bm + 1) f (k + 1) w9 from HWy.out.put ⟨_, hown9, by have := HPUT.out; rw [HER.out] at this; exact this⟩ hgrow9)
                  clear hown9 hgrow9
                  go_roundw
                  case rel => exact ⟨k + 1, by omega, by simp, HN.out⟩
                  case measure => simp [intOf]; omega
            · obtain rfl : k = all.length := by omega
              obtain ⟨hm0, hm1⟩ := i64_and15r mo
              obtain ⟨mi, hmi⟩ : ∃ mi, bits .and .i64 mo 15 = mi := ⟨_, rfl⟩
              rw [hmi] at hm0 hm1
              obtain ⟨m, hm⟩ : ∃ m : Nat, mi = (m : Int) := ⟨mi.toNat, by omega⟩
              subst hm
              have fw : IntKind.i64.wrap (1 + (m : Int)) = ((m + 1 : Nat) : Int) := by rw [IntKind.wrap_i64]; omega
              have hl5 := HWr.out.l.c.b5.lt
              have c5 := HWr.out.l.c.b5.cell (i := 0) rfl
              have f5 := HWr.out.l.c.b5.frozen 0
              have HW9 := Lib.hid (HWr.out.num ((m : Int) + 1))
              have HZ9 := Lib.hid (show (wr.setCell ⟨W.heap.size, 0, none⟩ (.int .i64 ((m : Int) + 1))).heap.size = wr.heap.size from by simp [World.setCell])
              obtain ⟨Ao, co, rfl, -⟩ := HWr.out.ps
              go_wp2_with fail
              refine (report_any _ _ _ _ _ _ _ _).mono ?_; rintro e w12 ⟨rfl, hw12⟩
              obtain ⟨w10, hw10⟩ : ∃ w10, wr.setCell ⟨W.heap.size, 0, none⟩ (.int .i64 ((m : Int) + 1)) = w10 := ⟨_, rfl⟩
              rw [hw10] at HW9 HZ9 hw12 ⊢
              have hQ := qi_made w10 (.slice A1 all.length c1) (.slice Ao books.length co) items
              rw [← hw12] at hQ
              have hz12 : w12.heap.size = w10.heap.size + 5 := by rw [hw12]; simp
              simp only [World.size_alloc]
              rw [← HZ9.out]
              have HQ := Lib.hid hQ; have HZ12 := Lib.hid hz12
              clear hw12 hw10 HZ9 hQ hz12 hl5 c5 f5 HWr
              obtain ⟨S, hS⟩ : ∃ S, sAt ps books books.length = S := ⟨_, rfl⟩
              have hps : PS w10 (.slice Ao books.length co) S := by obtain ⟨_, _, _, h⟩ := HW9.out.ps; rw [← hS]; exact h
              have herr : ∀ k, errAt all S items k = f k := fun k => by rw [← hS, errAt_sAt, HF.out]
              have hSl : S.length ≤ 1000000 := by rw [← hS, sAt_len]; omega
              have HPS := Lib.hid hps; have HERR := Lib.hid herr
              have hf0 : ∀ k, f k = 0 → lastE f (k + 1) = lastE f k ∧ cntE f (k + 1) = cntE f k := fun k h0 => ⟨by simp only [lastE]; rw [if_neg (by simpa using h0)], by rw [cntE_succ, if_neg (by simpa using h0)]; rfl⟩
              have hHA : PEE w10 (.slice A1 all.length c1) all := H.out.below HW9.out.l.c.bel
              have HHA := Lib.hid hHA
              have IT := report_iter 3 (w10.heap.size + 1 + 1) (w10.heap.size + 1 + 1 + 1) (w10.heap.size + 1 + 1 + 2) (.slice A1 all.length c1) (.slice Ao books.length co) all S items hi hU (by omega) hSl (fun k W' => cntE f k < m + 1 ∧ QI w10 (lastE f k) (cntE f k : Int) (.slice A1 all.length c1) (.slice Ao books.length co) items W')
                (fun k W' h => ⟨h.2.x.cell rfl, h.2.y.cell rfl, h.2.t.cell rfl, HHA.out.below h.2.bel, HPS.out.below h.2.bel⟩) (fun k A C h hb => ⟨h.1, h.2.below hb⟩)
                (fun k W' hk h0 h => by
                  rw [HERR.out] at h0
                  rw [(hf0 k h0).1, (hf0 k h0).2]
                  exact h)
              clear hS hps herr hf0 hHA
              go_wp2_with fail
              have hsO : ∀ a n, OwnFrom w12.heap.size (fun (_ : Unit) W' => QI w10 a n (.slice A1 all.length c1) (.slice Ao books.length co) items W') := fun a n => QI.ownF w10 a n items _ _ (by have := HZ12.out; omega)
              refine wpIn_wide.1 (range_gen (F := Fence.wide) (n := 4) rfl (by omega) (gf := 76) (lb := #[.pointer (some ⟨w10.heap.size + 1 + 1, 0, none⟩), .pointer (some ⟨w10.heap.size + 1 + 1 + 1, 0, none⟩), .pointer (some ⟨w10.heap.size + 1 + 1 + 2, 0, none⟩)]) rfl trivial (enters_of Try.func76 (by kernel_rfl) rfl) (encs := fun k : Nat => #[.int .i64 (k : Int), .int .i64 (errAt all S items k)]) (fun _ => rfl)
                (fun W' => cntE f 0 < m + 1 ∧ QI w10 (lastE f 0) ((cntE f 0 : Nat) : Int) (.slice A1 all.length c1) (.slice Ao books.length co) items W')
                (fun k W' => k < all.length ∧ errAt all S items k ≠ 0 ∧ cntE f k < m + 1 ∧ QI w10 (lastE f k) ((cntE f k : Nat) : Int) (.slice A1 all.length c1) (.slice Ao books.length co) items W')
                (fun k W' => cntE f (k + 1) < m + 1 ∧ QI w10 (lastE f (k + 1)) ((cntE f (k + 1) : Nat) : Int) (.slice A1 all.length c1) (.slice Ao books.length co) items W')
                (fun c W' => c = .exit 4 ∧ m + 1 ≤ cntE f all.length ∧ ∃ a, QI w10 a ((min (m + 1) (cntE f all.length) : Nat) : Int) (.slice A1 all.length c1) (.slice Ao books.length co) items W')
                (fun W' => cntE f all.length < m + 1 ∧ QI w10 (lastE f all.length) ((cntE f all.length : Nat) : Int) (.slice A1 all.length c1) (.slice Ao books.length co) items W')
                (fun k a' W' => a' = { tmps := #[.slice A1 all.length c1, .slice A2 books.length c2, .int .u64 items, .int .i64 mo, undef, undef, undef, .pointer (some ⟨W.heap.size, 0, none⟩), .pointer (some ⟨W.heap.size + 1, 0, none⟩), .slice Ao books.length co, u10, u11, .pointer (some ⟨bm + 1, 0, none⟩), u13, u14, u15, u16, .pointer (some ⟨w10.heap.size, 0, none⟩), .pointer (some ⟨w10.heap.size + 1, 0, none⟩), .int .i64 (k : Int), .int .i64 (errAt all S items k), undef, .bool true, .bool false, .slice A1 all.length c1, .bool true, .bool false, .bool false, .slice A2 books.length c2, .int .i64 (books.length : Int), .bool (decide ((12 : Int) < (books.length : Int))), .bool (decide ((12 : Int) < (books.length : Int))), .slice (some ⟨B, 0, none⟩) 0 0, .slice A2 books.length c2, .int .i64 (books.length : Int), .int .i64 (books.length : Int), .bool false, u37, u38, u39, u40, u41, u42, u43, u44, u45, u46, u47, u48, u49, u50, u51, u52, u53, u54, .map (some bm), .slice A1 all.length c1, .int .i64 (all.length : Int), .int .i64 (all.length : Int), .bool false, u60, u61, u62, u63, u64, u65, u66, u67, u68, u69, u70, u71, u72, u73, u74, u75, u76, u77, u78, u79, u80, u81, u82, u83, u84, u85, u86, u87, .int .i64 mo, .int .i64 (m : Int), .int .i64 ((m : Int) + 1), .slice A1 all.length c1, .slice Ao books.length co, .int .u64 items, .func (.func 76) #[] #[.pointer (some ⟨w10.heap.size + 1 + 1, 0, none⟩), .pointer (some ⟨w10.heap.size + 1 + 1 + 1, 0, none⟩), .pointer (some ⟨w10.heap.size + 1 + 1 + 2, 0, none⟩)], .int .i64 (k : Int), .int .i64 (errAt all S items k), undef, undef, undef, undef, undef, undef, undef, undef, undef, undef, undef, undef, undef, undef, undef, undef, undef, undef, undef, undef, undef, undef, undef, undef, undef, undef, undef, undef, undef, undef, undef, undef, undef, undef, undef, undef, undef], defers := [] } ∧ k < all.length ∧ errAt all S items k ≠ 0 ∧ cntE f k < m + 1 ∧ QI w10 (lastE f k) ((cntE f k : Nat) : Int) (.slice A1 all.length c1) (.slice Ao books.length co) items W')
                (OwnFrom.and (fun _ _ _ _ hs _ _ => hs) (hsO _ _))
                (fun k => OwnFrom.and (fun _ _ _ _ hs _ _ => hs) (hsO _ _))
                (fun c => OwnFrom.and (fun _ _ _ _ hs _ _ => hs) (OwnFrom.and (fun _ _ _ _ hs _ _ => hs) (fun s A C row hs hg hr => by obtain ⟨a, ha⟩ := hs; exact ⟨a, hsO a _ s A C row ha hg hr⟩)))
                (OwnFrom.and (fun _ _ _ _ hs _ _ => hs) (hsO _ _))
                (fun k a' => OwnFrom.and (fun _ _ _ _ hs _ _ => hs) (OwnFrom.and (fun _ _ _ _ hs _ _ => hs) (OwnFrom.and (fun _ _ _ _ hs _ _ => hs) (OwnFrom.and (fun _ _ _ _ hs _ _ => hs) (hsO _ _)))))
                ⟨Nat.succ_pos m, HQ.out⟩ IT ?assign ?body ?done ?stop)
              case assign =>
                clear IT hsO
                rintro l2 k W' K ⟨hk, hne, hcn, hP⟩ hK
                obtain ⟨e, he⟩ : ∃ e, errAt all S items k = e := ⟨_, rfl⟩
                have HPR := Lib.hid hP
                have HK := Lib.hid (fun a' h => hK a' W' (KeepsFrom.refl _ _) ⟨h, hk, hne, hcn, HPR.out⟩)
                rw [he] at HK ⊢
                clear hP hK hne he
                gi_wp2
                exact HK.out _ rfl
              case body =>
                clear IT hsO
                rintro l2 k a' W' hl' hr ⟨rfl, hk, hne, hcn, hP⟩
                obtain ⟨er, her⟩ : ∃ er, f k = er := ⟨_, rfl⟩
                rw [HERR.out k, her] at hne ⊢
                have hW' := HW9.out.below hP.bel
                obtain ⟨lz, hlz⟩ : ∃ lz, lastE f k = lz := ⟨_, rfl⟩
                obtain ⟨cz, hcz⟩ : ∃ cz, cntE f k = cz := ⟨_, rfl⟩
                have hll := lastE_lt f k
                rw [hlz] at hll hP
                rw [hcz] at hcn hP
                have hlk1 := hW'.m.look (i := k) (by omega) (x := er) (by rw [if_pos hk]; exact her)
                have ca := hP.a.cell (i := 0) rfl
                have cn := hP.n.cell (i := 0) rfl
                have fa := hP.a.frozen 0
                have fn' := hP.n.frozen 0
                have c12 := hW'.b.cell (i := 0) rfl
                have c5 := hW'.l.c.b5.cell (i := 0) rfl
                have hne5 : W.heap.size ≠ w10.heap.size := by have := HW9.out.l.c.b5.lt; omega
                have hne6 : W.heap.size ≠ w10.heap.size + 1 := by have := HW9.out.l.c.b5.lt; omega
                have hle1 : ¬ (k : Int) ≤ lz := by omega
                have her0 : ¬ er = 0 := hne
                have HP := Lib.hid hP; have HWp := Lib.hid hW'; have HLZ := Lib.hid hlz; have HCZ := Lib.hid hcz; have HER := Lib.hid her
                obtain ⟨ls, hls⟩ : ∃ ls : Nat, lz + 1 = (ls : Int) := ⟨(lz + 1).toNat, by omega⟩
                have HLS := Lib.hid hls
                have fls : IntKind.i64.wrap (lz + 1) = lz + 1 := by rw [IntKind.wrap_i64]; omega
                clear hP hW' hlz hcz her hls hne
                gi_wp2_with fail
                gi_loopw [21] (fun i wr2 => ∃ j : Nat, ls ≤ j ∧ j ≤ k ∧ i = .int .i64 (j : Int) ∧ wr2 = W') (fun i _ => k - (intOf i).toNat)
                case atStart => exact ⟨ls, Nat.le_refl _, by have := HLS.out; omega, by rw [HLS.out], rfl⟩
                case round =>
                  obtain ⟨j, hj1, hj2, rfl, hww⟩ := hrel
                  subst hww
                  by_cases hjk : j < k
                  · have hfj : f j = 0 := lastE_no f k j (by rw [HLZ.out]; have := HLS.out; omega) hjk
                    have hlk2 := HWp.out.m.look (i := j) (by omega) (x := 0) (by rw [if_pos (by omega), hfj])
                    clear hlk1 hfj
                    gi_wp2_with fail
                    go_roundw
                    case rel => exact ⟨j + 1, by omega, by omega, by simp, trivial⟩
                    case measure => simp [intOf]; omega
                  · obtain rfl : j = k := by omega
                    have hcz1 : cntE f (j + 1) = cz + 1 := by rw [cntE_succ, HCZ.out, if_pos (by rw [HER.out]; exact her0)]
                    have hlz1 : lastE f (j + 1) = (j : Int) := by simp only [lastE]; rw [if_pos (by rw [HER.out]; exact her0)]
                    have HCZ1 := Lib.hid hcz1; have HLZ1 := Lib.hid hlz1
                    have HS := Lib.hid (HP.out.set (j : Int) ((cz : Int) + 1))
                    have HKS := Lib.hid (show ∀ X : World, KeepsFrom w12.heap.size X ((X.setCell ⟨w10.heap.size, 0, none⟩ (.int .i64 (j : Int))).setCell ⟨w10.heap.size + 1, 0, none⟩ (.int .i64 ((cz : Int) + 1))) from fun X => (KeepsFrom.of_grownBy (grownBy_setAt X w10.heap.size 0 (.int .i64 (j : Int))) (fun r e => by have := HZ12.out; cases e; omega)).trans (KeepsFrom.of_grownBy (grownBy_setAt _ (w10.heap.size + 1) 0 (.int .i64 ((cz : Int) + 1))) (fun r e => by have := HZ12.out; cases e; omega)))
                    clear hcz1 hlz1 hlk1
                    by_cases hcm : cz = m
                    · subst hcm
                      gi_wp2_with fail
                      have hmon := cntE_mono f (show j + 1 ≤ all.length by omega)
                      rw [HCZ1.out] at hmon
                      refine ⟨HKS.out _, rfl, hmon, (j : Int), ?_⟩
                      have e : ((min (cz + 1) (cntE f all.length) : Nat) : Int) = (cz : Int) + 1 := by omega
                      rw [e]; exact HS.out
                    · have hcm2 : ¬ (cz : Int) = (m : Int) := by omega
                      gi_wp2_with fail
                      refine ⟨HKS.out _, by rw [HCZ1.out]; omega, ?_⟩
                      rw [HLZ1.out, HCZ1.out]
                      have := HS.out
                      simpa using this
              case done =>
                clear IT hsO
                rintro D W' hD ⟨hl, hP⟩ hK
                have hWW := HW9.out.below hP.bel
                have ci := hP.n.cell (i := 0) rfl
                have c12 := hWW.b.cell (i := 0) rfl
                have c5 := hWW.l.c.b5.cell (i := 0) rfl
                have f6 := hWW.l.c.b6.frozen 0
                have c6' := hWW.l.c.b6.cell (i := 0) rfl
                have hDl : D < W'.heap.size := (Array.getElem?_eq_some_iff.1 hK).1
                have hWD : W.heap.size ≤ D := by have := HW9.out.l.c.b5.lt; have := HZ12.out; omega
                have HWW := Lib.hid hWW; have HKD := Lib.hid hK
                obtain ⟨Dm, ho, _, _, hsz⟩ := hWW.m
                have HO := Lib.hid ho; have HSZ := Lib.hid hsz
                clear hWW hP hK ho hsz
                go_wp2_with (first | (at_len; refine wpList_len_own _ rfl _ tM rfl 3 3 Try.underlying71 _ bm _ Dm rfl HO.out ?_; rw [HSZ.out]) | fail)
                rw [show ((((cntE f all.length : Nat) : Int) : Int) == min ((m : Int) + 1) ((cntE f all.length : Nat) : Int)) = true from by rw [beq_iff_eq]; omega]
                have hc := HWW.out.l.c
                have hkd := (Below.heap_setCell W' ⟨W.heap.size + 1, 0, none⟩ (.bool true) D (by have := HW9.out.l.c.b6.lt; have := HZ12.out; simp; omega)).trans HKD.out
                have hgp := grownBy_putObj' (W'.setCell ⟨W.heap.size + 1, 0, none⟩ (.bool true)) D (.deferred none)
                have hbb := (hc.bel.setCell (p := ⟨W.heap.size + 1, 0, none⟩) (by simp) (.bool true))
                have c6f := ((hc.b6.set 0 (.bool true)).kept hgp (by have := HW9.out.l.c.b6.lt; have := HZ12.out; simp; omega)).cell (i := 0) rfl
                have HBB := Lib.hid (hbb.grown hgp hbb.size (fun r e => by cases e; exact hWD)); have HHD := Lib.hid hkd
                clear hc hkd hgp hbb
                refine ⟨by simp, .inl ⟨_, _, rfl, run_takeDeferred HHD.out, ?_⟩⟩
                refine ⟨.bool true, (results_cell1 rfl _ _ _).trans ?_, rfl, HBB.out⟩
                go_simp
              case stop =>
                clear IT hsO
                rintro D c W' hD ⟨rfl, hl, a, hP⟩ hK
                rw [show ((min (m + 1) (cntE f all.length) : Nat) : Int) = (m : Int) + 1 from by omega] at hP
                have hWW := HW9.out.below hP.bel
                have ci := hP.n.cell (i := 0) rfl
                have c12 := hWW.b.cell (i := 0) rfl
                have c5 := hWW.l.c.b5.cell (i := 0) rfl
                have f6 := hWW.l.c.b6.frozen 0
                have c6' := hWW.l.c.b6.cell (i := 0) rfl
                have hDl : D < W'.heap.size := (Array.getElem?_eq_some_iff.1 hK).1
                have hWD : W.heap.size ≤ D := by have := HW9.out.l.c.b5.lt; have := HZ12.out; omega
                have HWW := Lib.hid hWW; have HKD := Lib.hid hK
                obtain ⟨Dm, ho, _, _, hsz⟩ := hWW.m
                have HO := Lib.hid ho; have HSZ := Lib.hid hsz
                clear hWW hP hK ho hsz
                gi_wp2
                go_wp2_with (first | (at_len; refine wpList_len_own _ rfl _ tM rfl 3 3 Try.underlying71 _ bm _ Dm rfl HO.out ?_; rw [HSZ.out]) | fail)
                rw [show (((m : Int) + 1 : Int) == min ((m : Int) + 1) ((cntE f all.length : Nat) : Int)) = true from by rw [beq_iff_eq]; omega]
                have hc := HWW.out.l.c
                have hkd := (Below.heap_setCell W' ⟨W.heap.size + 1, 0, none⟩ (.bool true) D (by have := HW9.out.l.c.b6.lt; have := HZ12.out; simp; omega)).trans HKD.out
                have hgp := grownBy_putObj' (W'.setCell ⟨W.heap.size + 1, 0, none⟩ (.bool true)) D (.deferred none)
                have hbb := (hc.bel.setCell (p := ⟨W.heap.size + 1, 0, none⟩) (by simp) (.bool true))
                have c6f := ((hc.b6.set 0 (.bool true)).kept hgp (by have := HW9.out.l.c.b6.lt; have := HZ12.out; simp; omega)).cell (i := 0) rfl
                have HBB := Lib.hid (hbb.grown hgp hbb.size (fun r e => by cases e; exact hWD)); have HHD := Lib.hid hkd
                clear hc hkd hgp hbb
                refine ⟨by simp, .inl ⟨_, _, rfl, run_takeDeferred HHD.out, ?_⟩⟩
                refine ⟨.bool true, (results_cell1 rfl _ _ _).trans ?_, rfl, HBB.out⟩
                go_simp
/-- slices that are read, a nil one of no capacity -/
def sliceZ {α : Type} (d : Kd α) : Kd (List α) where
  sz := 1
  E := []
  K := fun w xs cs => ∃ A c, cs = [.slice A xs.length c] ∧ xs.length ≤ c ∧ (A = none → c = 0) ∧ d.C w A xs.length xs
  M := fun _ _ _ _ _ => False
  K_len := by
    rintro w x cs ⟨A, c, rfl, _⟩
    rfl
  K_one := by
    rintro w x cs ⟨A, c, rfl, _⟩ u hu
    rw [List.mem_singleton.1 hu]
    rfl
  K_below := by
    rintro w w1 x cs hb ⟨A, c, rfl, hl, hn, hr⟩
    exact ⟨A, c, rfl, hl, hn, Kd.C_below hr hb⟩
  K_of_M := by
    intro w base ok x cs h
    exact h.elim
  M_mono := by
    intro w base ok ok' x cs hok h
    exact h
  M_bound := by
    intro w base ok x cs h
    exact h.elim
  M_move := by
    intro w w1 base ok x cs hm h
    exact h.elim
  M_lower := by
    intro w base base' ok x cs hb h
    exact h
theorem pee_of {α : Type} {d : Kd α} {g : α → En} {W : World} {z : List (List α)} {A : Option Addr} {c : Nat} (hpe : ∀ (x : List α) (A1 : Option Addr) (c1 : Nat), x.length ≤ c1 → (A1 = none → c1 = 0) → d.C W A1 x.length x → PE W (.slice A1 x.length c1) (x.map g)) (hC : (sliceZ d).C W A z.length z) : PEE W (.slice A z.length c) (z.map (fun x => x.map g)) := by
  refine ⟨A, c, by rw [List.length_map], fun i l hl => ?_⟩
  rw [List.getElem?_map] at hl
  cases hq : z[i]? with
  | none => rw [hq] at hl; simp at hl
  | some x =>
    rw [hq] at hl
    obtain rfl : x.map g = l := by simpa using hl
    have hlt := (List.getElem?_eq_some_iff.1 hq).1
    obtain ⟨b, off, rfl, hlt2⟩ := C_spot hC (by omega) Nat.one_pos
    obtain ⟨a, e0, hr⟩ := hC.2.2 (by omega)
    obtain rfl := Option.some.inj e0
    obtain ⟨cs, hl1, ⟨A1, c1, rfl, h1, h2, h3⟩, hc⟩ := hr i x hq
    have hcell := hc 0 _ rfl
    refine ⟨b, off, A1, c1, rfl, hlt2, ?_, ?_⟩
    · rw [addr_add] at hcell
      rw [List.length_map]
      have e : i * (sliceZ d).sz + 0 = i := by show i * 1 + 0 = i; omega
      rw [e] at hcell
      exact hcell
    · rw [List.length_map]
      exact hpe x A1 c1 h1 h2 h3
theorem reports_row (W : World) (z : List (List (Go.Proofs.Ytnlhgnioedalpaa.PCheckBids.S57))) (A : Option Addr) (c : Nat) (_ : z.length ≤ c) (_ : A = none → c = 0) (hC : (sliceZ (Go.Proofs.Ytnlhgnioedalpaa.PCheckBids.k57)).C W A z.length z) (_ : z.length ≤ maxLen) (hG : ∀ x ∈ z, x.length ≤ maxLen ∧ ∀ y ∈ x, (Lit.int .u64 y.f0).wf = true ∧ (Lit.int .i64 y.f1).wf = true)
    (z1 : List (List (Go.Proofs.Ytnlhgnioedalpaa.PCheckBids.S41))) (A1 : Option Addr) (c1 : Nat) (_ : z1.length ≤ c1) (_ : A1 = none → c1 = 0) (hC1 : (sliceZ (Go.Proofs.Ytnlhgnioedalpaa.PCheckBids.k41)).C W A1 z1.length z1) (_ : z1.length ≤ maxLen) (hG1 : ∀ x ∈ z1, x.length ≤ maxLen ∧ ∀ y ∈ x, (Lit.int .u64 y.f0).wf = true ∧ (Lit.int .i64 y.f1).wf = true)
    (n : Int) (hn : (Lit.int .u64 n).wf = true) (mo : Int) (_ : (Lit.int .i64 mo).wf = true) :
    Calls Try.prog 9 #[.slice A z.length c, .slice A1 z1.length c1, .int .u64 n, .int .i64 mo] W fun e w' => e = .returned (.bool true) ∧ Below W.heap.size W w' := by
  have h1 : PEE W (.slice A z.length c) (z.map (fun x => x.map (fun y => (y.f0, y.f1)))) := pee_of (fun x A1 c1 a b d => pb_row a b d) hC
  have h2 : PEE W (.slice A1 z1.length c1) (z1.map (fun x => x.map (fun y => (y.f0, y.f1)))) := pee_of (fun x A1 c1 a b d => pb_row41 a b d) hC1
  exact reports_core W _ _ _ _ h1 h2 (fun l hl e he => by
    obtain ⟨x, hx, rfl⟩ := List.mem_map.1 hl
    obtain ⟨y, hy, rfl⟩ := List.mem_map.1 he
    exact U_wf ((hG x hx).2 y hy).1) (fun l hl e he => by
    obtain ⟨x, hx, rfl⟩ := List.mem_map.1 hl
    obtain ⟨y, hy, rfl⟩ := List.mem_map.1 he
    exact U_wf ((hG1 x hx).2 y hy).1) n (U_wf hn) mo
end Go.Proofs.Ytnlhgnioedalpaa.Pri
