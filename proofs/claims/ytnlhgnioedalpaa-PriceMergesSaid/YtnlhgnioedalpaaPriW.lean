/- price: Less, Merge. -/
import Derived.Test.YtnlhgnioedalpaaPriV
set_option linter.unusedSimpArgs false
set_option linter.unusedVariables false
namespace Go.Proofs.Ytnlhgnioedalpaa.Pri
open Go.RowKit Go.Proofs.YtnlhgnioedalpaaW.PrintWords Go.Proofs.Ytnlhgnioedalpaa.PPricePlays
attribute [local go_sem] Oper.semAt_some

/-- a step that turns one thing that is no cell -/
abbrev RowOk (A : World) (row : Option Nat) : Prop := ∀ r, row = some r → ∃ o : Obj, A.heap[r]? = some o ∧ o.isCells = false
theorem blk_row1 {A B : World} {b : Nat} {t : TypeId} {l : List Value} (h : Blk A b t l) {row : Option Nat} (hg : A.grownBy B row) (hr : RowOk A row) : Blk B b t l :=
  h.kept hg (fun e => by
    obtain ⟨o, ho, hc⟩ := hr b e.symm
    have hs' : A.heap[b]? = _ := h
    rw [hs'] at ho
    cases ho
    simp [Obj.isCells] at hc)
theorem PE.row {A B : World} {row : Option Nat} {v : Value} {l : List En} (h : PE A v l) (hg : A.grownBy B row) (hr : RowOk A row) : PE B v l := by
  obtain ⟨a, c, rfl, h1, h2, h3⟩ := h
  refine ⟨a, c, rfl, h1, h2, h3.1, h3.2.1, fun hpos => ?_⟩
  obtain ⟨a, rfl, hq⟩ := h3.2.2 hpos
  refine ⟨a, rfl, fun j x hx => ?_⟩
  obtain ⟨cs, hl, hk, hc⟩ := hq j x hx
  obtain rfl := k41_open hk
  refine ⟨_, hl, k41_mk B x, fun i u hu => ?_⟩
  have hcu := hc i u hu
  have hsp := cell_spot hcu
  rw [hsp.1] at hcu ⊢
  have e : B.cell? ⟨(a.add (j * k41.sz + i)).block, (a.add (j * k41.sz + i)).off, none⟩ = A.cell? ⟨(a.add (j * k41.sz + i)).block, (a.add (j * k41.sz + i)).off, none⟩ := by
    unfold World.cell?
    rw [hg.block _ hsp.2 (fun e => ?_)]
    obtain ⟨o, ho, hcell⟩ := hr _ e.symm
    simp only [World.cell?, ho] at hcu
    cases o with
    | cells => simp [Obj.isCells] at hcell
    | _ => simp at hcu
  rw [e]; exact hcu
theorem PR.row {A B : World} {row : Option Nat} {p : Nat} {l : List En} (h : PR A p l) (hg : A.grownBy B row) (hr : RowOk A row) : PR B p l := by
  obtain ⟨v, h1, h2⟩ := h
  exact ⟨v, blk_row1 h1 hg hr, h2.row hg hr⟩
theorem SR.row {A B : World} {row : Option Nat} {p : Nat} {l : List En} (h : SR A p l) (hg : A.grownBy B row) (hr : RowOk A row) : SR B p l := ⟨h.pr.row hg hr, h.ue, h.ti, h.len⟩
theorem SR.alloc {A : World} {p : Nat} {l : List En} (h : SR A p l) (o : Obj) : SR (A.alloc o) p l := h.below ((Below.refl _ A).alloc (Nat.le_refl _) o)

def mk (D : Nat) : Deferred := { target := .collected D, args := #[] }
/-- the marks of ranges that are over -/
def Marks (lo hi : Nat) (ds : List Deferred) (W : World) : Prop := ∃ Ds : List Nat, ds = Ds.map mk ∧ Ds.Nodup ∧ ∀ D ∈ Ds, (lo ≤ D ∧ D < hi) ∧ W.heap[D]? = some (.deferred (some []))
theorem Marks.nil (lo hi : Nat) (W : World) : Marks lo hi [] W := ⟨[], rfl, List.nodup_nil, by simp⟩
theorem Marks.up {lo hi hi' : Nat} {ds : List Deferred} {W : World} (h : Marks lo hi ds W) (hh : hi ≤ hi') : Marks lo hi' ds W := by
  obtain ⟨Ds, h1, h2, h3⟩ := h
  exact ⟨Ds, h1, h2, fun D hD => ⟨⟨(h3 D hD).1.1, Nat.lt_of_lt_of_le (h3 D hD).1.2 hh⟩, (h3 D hD).2⟩⟩
theorem Marks.cons {lo hi D : Nat} {ds : List Deferred} {W : World} (h : Marks lo hi ds W) (hl : lo ≤ D) (hh : hi ≤ D) (hD : W.heap[D]? = some (.deferred (some []))) : Marks lo (D + 1) (mk D :: ds) W := by
  obtain ⟨Ds, h1, h2, h3⟩ := h
  refine ⟨D :: Ds, by rw [h1]; rfl, List.nodup_cons.2 ⟨fun hm => by have := (h3 D hm).1.2; omega, h2⟩, fun E hE => ?_⟩
  rcases List.mem_cons.1 hE with rfl | hE
  · exact ⟨⟨hl, by omega⟩, hD⟩
  · exact ⟨⟨(h3 E hE).1.1, by have := (h3 E hE).1.2; omega⟩, (h3 E hE).2⟩
theorem Marks.gb {lo hi : Nat} {ds : List Deferred} {A B : World} (h : Marks lo hi ds A) {row : Option Nat} (hg : A.grownBy B row) (hr : ∀ r, row = some r → hi ≤ r ∨ ∃ o : Obj, A.heap[r]? = some o ∧ o.isCells = true) : Marks lo hi ds B := by
  obtain ⟨Ds, h1, h2, h3⟩ := h
  refine ⟨Ds, h1, h2, fun D hD => ⟨(h3 D hD).1, (hg.block D (Array.getElem?_eq_some_iff.1 (h3 D hD).2).1 (fun e => ?_)).trans (h3 D hD).2⟩⟩
  rcases hr D e.symm with h | ⟨o, ho, hc⟩
  · have := (h3 D hD).1.2; omega
  · rw [(h3 D hD).2] at ho
    cases ho
    simp [Obj.isCells] at hc
theorem Marks.below {lo hi : Nat} {ds : List Deferred} {A B : World} (h : Marks lo hi ds A) (hb : Below A.heap.size A B) : Marks lo hi ds B :=
  h.gb (row := none) ⟨hb.os, hb.tape, hb.output, hb.size, fun k hk _ => hb.block k hk⟩ (fun r e => by cases e)
/-- a function with marks leaves as one without -/
theorem Marks.leave {lo hi : Nat} {F : Fence} {n : Nat} {P : Program} {fn : Func} {tmps : Array Value} {R : Ending → World → Prop} (G : World → Prop)
    (hG : ∀ A D, lo ≤ D → G A → A.heap[D]? = some (.deferred (some [])) → G (A.putObj D (.deferred none)))
    (hR : ∀ A, G A → LeavesIn F n P fn tmps R [] .returning A) : ∀ {ds : List Deferred} {W : World}, Marks lo hi ds W → G W → LeavesInM F n P fn tmps R ds .returning W := by
  rintro ds W ⟨Ds, rfl, h2, h3⟩ hW
  induction Ds generalizing W with
  | nil => exact hR W hW
  | cons D Ds ih =>
    have hD := h3 D (List.mem_cons_self ..)
    refine ⟨by simp, .inl ⟨_, _, rfl, run_takeDeferred hD.2, ?_⟩⟩
    refine ih (W := W.putObj D (.deferred none)) (List.nodup_cons.1 h2).2 (fun E hE => ⟨(h3 E (List.mem_cons_of_mem _ hE)).1, ?_⟩) (hG W D hD.1.1 hW hD.2)
    rw [World.putObj_heap_other (fun e => (List.nodup_cons.1 h2).1 (by rw [e] at hE; exact hE))]
    exact (h3 E (List.mem_cons_of_mem _ hE)).2

/-- the first of fs for which es ask less -/
def lessF (es fs : List En) : Option En := fs.find? (fun e => decide (askL es e.1 < e.2))
def lessS (es fs : List En) : Int := match lessF es fs with | some e => e.1 | none => 0
def lessB (es fs : List En) : Bool := (lessF es fs).isSome
theorem lessF_some {es fs : List En} {k : Nat} (h : ∀ j, j < k → ¬ askL es (fs.getD j dE).1 < (fs.getD j dE).2) (hk : k < fs.length) (hl : askL es (fs.getD k dE).1 < (fs.getD k dE).2) : lessF es fs = some (fs.getD k dE) := by
  unfold lessF
  have hs : fs = fs.take k ++ fs.drop k := (List.take_append_drop k fs).symm
  have hd : fs.drop k = fs.getD k dE :: fs.drop (k + 1) := by rw [show fs.getD k dE = fs[k] from by simp [List.getD, hk]]; exact (List.getElem_cons_drop ..).symm
  rw [hs, List.find?_append, hd, List.find?_cons_of_pos (by simpa using hl)]
  have hn : (fs.take k).find? (fun e => decide (askL es e.1 < e.2)) = none := by
    rw [List.find?_eq_none]
    intro x hx
    obtain ⟨j, hj, rfl⟩ := List.getElem_of_mem hx
    have hj2 : j < k ∧ j < fs.length := by simp at hj; omega
    have := h j hj2.1
    rw [show fs.getD j dE = fs[j] from by simp [List.getD, hj2.2]] at this
    simpa using this
  rw [hn]
  simp only [Option.none_or]
  rw [← hd, ← hs]
theorem lessF_none {es fs : List En} (h : ∀ j, j < fs.length → ¬ askL es (fs.getD j dE).1 < (fs.getD j dE).2) : lessF es fs = none := by
  unfold lessF
  rw [List.find?_eq_none]
  intro x hx
  obtain ⟨j, hj, rfl⟩ := List.getElem_of_mem hx
  have := h j hj
  rw [show fs.getD j dE = fs[j] from by simp [List.getD, hj]] at this
  simpa using this
theorem results_cell2 {fn : Func} {p u : Tmp} {ty uy : TypeId} (h : fn.results = #[.cell p ty, .cell u uy]) (tmps : Array Value) (P : Program) (w : World) :
    (results fn tmps).run P w =
      ((asAddr (tmps.getD p undef)).run P w).andThen fun a w₁ => ((loadVar ty a).run P w₁).andThen fun v w₂ => ((asAddr (tmps.getD u undef)).run P w₂).andThen fun b w₃ => ((loadVar uy b).run P w₃).andThen fun x w₄ => .ok (.tuple #[v, x]) w₄ := by
  simp only [results, h]
  simp [Sem.run_bind, Result.andThen]
/-- for none of the first k do es ask less -/
def NL (es fs : List En) (k : Nat) : Prop := ∀ j, j < k → ¬ askL es (fs.getD j dE).1 < (fs.getD j dE).2
theorem NL.succ {es fs : List En} {k : Nat} (h : NL es fs k) (hk : ¬ askL es (fs.getD k dE).1 < (fs.getD k dE).2) : NL es fs (k + 1) := fun j hj => by
  by_cases hjk : j = k
  · subst hjk; exact hk
  · exact h j (by omega)
/-- what Less keeps -/
structure LI (W : World) (p q : Nat) (x y : Value) (W' : World) : Prop where
  b1 : Blk W' W.heap.size 25 [.pointer (some ⟨p, 0, none⟩)]
  b2 : Blk W' (W.heap.size + 1) 32 [x]
  b3 : Blk W' (W.heap.size + 1 + 1) 4 [y]
  b4 : Blk W' (W.heap.size + 1 + 1 + 1) 25 [.pointer (some ⟨q, 0, none⟩)]
  bel : Below W.heap.size W W'
theorem LI.row {W : World} {p q : Nat} {x y : Value} {A B : World} (h : LI W p q x y A) {row : Option Nat} (hg : A.grownBy B row) (hr : ∀ r, row = some r → W.heap.size ≤ r ∧ ∃ o : Obj, A.heap[r]? = some o ∧ o.isCells = false) : LI W p q x y B :=
  have k : RowOk A row := fun r e => (hr r e).2
  ⟨blk_row1 h.b1 hg k, blk_row1 h.b2 hg k, blk_row1 h.b3 hg k, blk_row1 h.b4 hg k, h.bel.grown hg h.bel.size (fun r e => (hr r e).1)⟩
theorem LI.ownF (W : World) (p q : Nat) (x y : Value) {b : Nat} (hb : W.heap.size ≤ b) : OwnFrom b (fun (_ : Unit) W' => LI W p q x y W') := fun s A B row hs hg hr =>
  hs.row hg (fun r e => ⟨Nat.le_trans hb (hr r e).1, (hr r e).2⟩)
theorem LI.alloc {W : World} {p q : Nat} {x y : Value} {A : World} (h : LI W p q x y A) (o : Obj) : LI W p q x y (A.alloc o) := h.row (World.grownBy_alloc A o none) (fun r e => by cases e)
theorem LI.below {W : World} {p q : Nat} {x y : Value} {A B : World} (h : LI W p q x y A) (hb : Below A.heap.size A B) : LI W p q x y B :=
  ⟨h.b1.belowS hb, h.b2.belowS hb, h.b3.belowS hb, h.b4.belowS hb, h.bel.trans (hb.mono h.bel.size)⟩
theorem LI.wrote {W : World} {p q : Nat} {x y : Value} {A : World} (h : LI W p q x y A) (u v : Value) : LI W p q u v ((A.setCell ⟨W.heap.size + 1, 0, none⟩ u).setCell ⟨W.heap.size + 1 + 1, 0, none⟩ v) :=
  ⟨(h.b1.other (by simp) _).other (by simp; omega) _, (h.b2.set 0 _).other (by simp) _, (h.b3.other (by simp) _).set 0 _, (h.b4.other (by simp; omega) _).other (by simp) _,
    (h.bel.setCell (p := ⟨W.heap.size + 1, 0, none⟩) (by simp) _).setCell (p := ⟨W.heap.size + 1 + 1, 0, none⟩) (by simp; omega) _⟩
set_option maxRecDepth 100000 in
set_option maxHeartbeats 4000000 in
theorem less_any (W : World) (p q : Nat) (es fs : List En) (hp : SR W p es) (hq : SR W q fs) :
    Calls Try.prog 30 #[.pointer (some ⟨p, 0, none⟩), .pointer (some ⟨q, 0, none⟩)] W fun e w' => e = .returned (.tuple #[.int .u64 (lessS es fs), .bool (lessB es fs)]) ∧ Below W.heap.size W w' := by
  have HP := Lib.hid hp; have HQ := Lib.hid hq
  clear hp hq
  refine (callsIn_wide (n := 4)).1 ?_
  refine callsIn_of_wp_marks Try.func30 rfl trivial ?_ rfl
  refine wpIn_wide.2 ?_
  simp only [Try.ntmps30, List.size_toArray, List.length_cons, List.length_nil, Nat.reduceAdd, Nat.reduceSub, Array.replicate_succ, Array.replicate_zero, List.push_toArray, List.append_toArray, List.nil_append, List.cons_append]
  go_wp2_with fail
  refine (entries_any _ q).mono ?_; rintro e w4 ⟨rfl, hw4⟩
  obtain ⟨W1, hW1⟩ : ∃ W1, W.alloc (.cells #[.pointer (some ⟨p, 0, none⟩)] 25) = W1 := ⟨_, rfl⟩
  have s1 : W1.heap.size = W.heap.size + 1 := by rw [← hW1]; simp
  have b1 : Blk W1 W.heap.size 25 [.pointer (some ⟨p, 0, none⟩)] := by rw [← hW1]; exact Blk.new W _ _
  have e1 : Below W.heap.size W W1 := by rw [← hW1]; exact (Below.refl _ W).alloc (Nat.le_refl _) _
  rw [hW1] at hw4
  obtain ⟨W2, hW2⟩ : ∃ W2, W1.alloc (.cells #[.int .u64 0] 32) = W2 := ⟨_, rfl⟩
  have s2 : W2.heap.size = W.heap.size + 2 := by rw [← hW2]; simp [s1]
  have b2 : Blk W2 (W.heap.size + 1) 32 [.int .u64 0] := by rw [← hW2, ← s1]; exact Blk.new W1 _ _
  have b12 : Blk W2 W.heap.size 25 [.pointer (some ⟨p, 0, none⟩)] := by rw [← hW2]; exact b1.alloc _
  have e2 : Below W.heap.size W W2 := by rw [← hW2]; exact e1.alloc e1.size _
  rw [hW2] at hw4
  obtain ⟨W3, hW3⟩ : ∃ W3, W2.alloc (.cells #[.bool false] 4) = W3 := ⟨_, rfl⟩
  have s3 : W3.heap.size = W.heap.size + 3 := by rw [← hW3]; simp [s2]
  have b3 : Blk W3 (W.heap.size + 1 + 1) 4 [.bool false] := by rw [← hW3, ← s2]; exact Blk.new W2 _ _
  have b13 : Blk W3 W.heap.size 25 [.pointer (some ⟨p, 0, none⟩)] := by rw [← hW3]; exact b12.alloc _
  have b23 : Blk W3 (W.heap.size + 1) 32 [.int .u64 0] := by rw [← hW3]; exact b2.alloc _
  have e3 : Below W.heap.size W W3 := by rw [← hW3]; exact e2.alloc e2.size _
  rw [hW3] at hw4
  have s4 : w4.heap.size = W.heap.size + 4 := by rw [hw4]; simp [s3]
  have b4 : Blk w4 (W.heap.size + 1 + 1 + 1) 25 [.pointer (some ⟨q, 0, none⟩)] := by rw [hw4, ← s3]; exact Blk.new W3 _ _
  have b14 : Blk w4 W.heap.size 25 [.pointer (some ⟨p, 0, none⟩)] := by rw [hw4]; exact b13.alloc _
  have b24 : Blk w4 (W.heap.size + 1) 32 [.int .u64 0] := by rw [hw4]; exact b23.alloc _
  have b34 : Blk w4 (W.heap.size + 1 + 1) 4 [.bool false] := by rw [hw4]; exact b3.alloc _
  have e4 : Below W.heap.size W w4 := by rw [hw4]; exact e3.alloc e3.size _
  simp only [World.size_alloc]
  clear hw4 b1 b2 b3 b12 b13 b23 e1 e2 e3 hW1 hW2 hW3 s1 s2 s3
  have HS := Lib.hid (show LI W p q (.int .u64 0) (.bool false) w4 from ⟨b14, b24, b34, b4, e4⟩)
  clear b14 b24 b34 b4 e4
  go_wp2_with fail
  have HZ4 := Lib.hid s4
  obtain ⟨B, hB⟩ : ∃ B, W.heap.size = B := ⟨_, rfl⟩
  have hCS : ∀ x y, OwnFrom w4.heap.size (fun (_ : Unit) W' => LI W p q x y W') := fun x y => LI.ownF W p q x y (by have := HZ4.out; omega)
  obtain ⟨v, hbq, hpq⟩ := HQ.out.pr
  have HBQ := Lib.hid hbq; have HPQ := Lib.hid hpq
  have IT := entries_iter 3 (W.heap.size + 1 + 1 + 1) q v fs (by have := HQ.out.len; omega) (fun k W' => NL es fs k ∧ LI W p q (.int .u64 0) (.bool false) W')
    (fun k W' h => ⟨h.2.b4.cell rfl, (HBQ.out.belowS h.2.bel).cell rfl, HPQ.out.below h.2.bel⟩) (fun k W' o h => ⟨h.1, h.2.alloc o⟩)
  clear hbq hpq hB s4
  refine wpIn_wide.1 (range_gen (F := Fence.wide) (n := 4) rfl (by omega) (gf := 70) (lb := #[.pointer (some ⟨W.heap.size + 1 + 1 + 1, 0, none⟩)]) rfl trivial (enters_of Try.func70 (by kernel_rfl) rfl) (encs := fun k : Nat => #[.int .u64 (fs.getD k dE).1, .int .i64 (fs.getD k dE).2]) (fun _ => rfl)
    (fun W' => NL es fs 0 ∧ LI W p q (.int .u64 0) (.bool false) W')
    (fun k W' => k < fs.length ∧ NL es fs k ∧ LI W p q (.int .u64 0) (.bool false) W')
    (fun k W' => NL es fs (k + 1) ∧ LI W p q (.int .u64 0) (.bool false) W')
    (fun c W' => c = .ret ∧ lessB es fs = true ∧ LI W p q (.int .u64 (lessS es fs)) (.bool true) W')
    (fun W' => NL es fs fs.length ∧ LI W p q (.int .u64 0) (.bool false) W')
    (fun k a' W' => a' = { tmps := #[.pointer (some ⟨p, 0, none⟩), .pointer (some ⟨q, 0, none⟩), .pointer (some ⟨W.heap.size, 0, none⟩), undef, .pointer (some ⟨W.heap.size + 1, 0, none⟩), .pointer (some ⟨W.heap.size + 1 + 1, 0, none⟩), .int .u64 (fs.getD k dE).1, .int .i64 (fs.getD k dE).2, .pointer (some ⟨q, 0, none⟩), .func (.func 70) #[] #[.pointer (some ⟨W.heap.size + 1 + 1 + 1, 0, none⟩)], .int .u64 (fs.getD k dE).1, .int .i64 (fs.getD k dE).2, undef, undef, undef, undef, undef, undef], defers := [] } ∧ k < fs.length ∧ NL es fs k ∧ LI W p q (.int .u64 0) (.bool false) W')
    (OwnFrom.and (fun _ _ _ _ hs _ _ => hs) (hCS _ _))
    (fun k => OwnFrom.and (fun _ _ _ _ hs _ _ => hs) (hCS _ _))
    (fun c => OwnFrom.and (fun _ _ _ _ hs _ _ => hs) (OwnFrom.and (fun _ _ _ _ hs _ _ => hs) (hCS _ _)))
    (OwnFrom.and (fun _ _ _ _ hs _ _ => hs) (hCS _ _))
    (fun k a' => OwnFrom.and (fun _ _ _ _ hs _ _ => hs) (OwnFrom.and (fun _ _ _ _ hs _ _ => hs) (OwnFrom.and (fun _ _ _ _ hs _ _ => hs) (hCS _ _))))
    ⟨fun j hj => absurd hj (Nat.not_lt_zero j), HS.out⟩ IT ?assign ?body ?done ?stop)
  case assign =>
    clear IT hCS HS
    rintro l2 k W' K ⟨hk, hn, hP⟩ hK
    obtain ⟨⟨x, y⟩, hx⟩ : ∃ x, fs.getD k dE = x := ⟨_, rfl⟩
    have HN := Lib.hid hn; have HPP := Lib.hid hP
    have HK := Lib.hid (fun a' h => hK a' W' (KeepsFrom.refl _ _) ⟨h, hk, HN.out, HPP.out⟩)
    rw [hx] at HK ⊢
    clear hn hP hK hx
    gi_wp2
    exact HK.out _ rfl
  case body =>
    clear IT hCS HS
    rintro l2 k a' W' hl' hr ⟨rfl, hk, hn, hP⟩
    obtain ⟨⟨x, y⟩, hx⟩ : ∃ x, fs.getD k dE = x := ⟨_, rfl⟩
    have hux : U x := by
      have := HQ.out.ue (fs.getD k dE) (by rw [show fs.getD k dE = fs[k] from by simp [List.getD, hk]]; exact List.getElem_mem hk)
      rw [hx] at this
      exact this
    have AK := sask_any W' p es x (HP.out.below hP.bel) hux
    have HN := Lib.hid hn; have HX := Lib.hid hx; have HPP := Lib.hid hP
    rw [hx]
    obtain ⟨m, hm⟩ : ∃ m, askL es x = m := ⟨_, rfl⟩
    rw [hm] at AK
    have HM := Lib.hid hm; have HAK := Lib.hid AK
    have c1 := hP.b1.cell (i := 0) rfl
    clear hn hx hP hm AK
    gi_wp2_with fail
    refine ⟨trivial, ?_⟩
    refine (CallsIn.inRound l2 (callsIn_wide.2 HAK.out)).mono ?_; rintro e w5 ⟨rfl, hb5⟩
    have hP5 := HPP.out.below hb5
    have HP5 := Lib.hid hP5
    have c2 := hP5.b2.cell (i := 0) rfl
    have c3 := hP5.b3.cell (i := 0) rfl
    have f2 := hP5.b2.frozen 0
    have f3 := hP5.b3.frozen 0
    have HK5 := Lib.hid (show KeepsFrom w4.heap.size W' w5 from (belowOthers hb5).from _)
    clear hP5 hb5
    by_cases hlt : m < y
    · gi_wp2_with fail
      have hls : lessF es fs = some (x, y) := by rw [← HX.out]; exact lessF_some HN.out hk (by rw [HX.out, HM.out]; exact hlt)
      refine ⟨HK5.out.trans ((KeepsFrom.of_grownBy (grownBy_setAt w5 _ 0 _) (fun j e => by have := HZ4.out; cases e; omega)).trans (KeepsFrom.of_grownBy (grownBy_setAt _ _ 0 _) (fun j e => by have := HZ4.out; cases e; omega))), rfl, ?_, ?_⟩
      · unfold lessB; rw [hls]; rfl
      · unfold lessS; rw [hls]
        exact HP5.out.wrote _ _
    · gi_wp2_with fail
      exact ⟨HK5.out, HN.out.succ (by rw [HX.out, HM.out]; dsimp only; omega), HP5.out⟩
  case done =>
    clear IT hCS HS
    rintro D W' hD ⟨hn, hP⟩ hK
    have hls := lessF_none hn
    have c1 := hP.b2.cell (i := 0) rfl
    have c2 := hP.b3.cell (i := 0) rfl
    have f1 := hP.b2.frozen 0
    have f2 := hP.b3.frozen 0
    have HPP := Lib.hid (hP.wrote (.int .u64 0) (.bool false))
    have hK3 := (Below.heap_setCell (W'.setCell ⟨W.heap.size + 1, 0, none⟩ (.int .u64 0)) ⟨W.heap.size + 1 + 1, 0, none⟩ (.bool false) D (by have := HZ4.out; simp; omega)).trans ((Below.heap_setCell W' ⟨W.heap.size + 1, 0, none⟩ (.int .u64 0) D (by have := HZ4.out; simp; omega)).trans hK)
    have HK3 := Lib.hid hK3
    clear hP hK hK3 hn
    have hb : lessB es fs = false := by unfold lessB; rw [hls]; rfl
    have hs : lessS es fs = 0 := by unfold lessS; rw [hls]
    have HBS := Lib.hid hb; have HSS := Lib.hid hs
    clear hb hs hls
    go_wp2_with fail
    refine ⟨by simp, .inl ⟨_, _, rfl, run_takeDeferred HK3.out, ?_⟩⟩
    have hL := HPP.out.row (grownBy_putObj' _ D (.deferred none)) (fun r e => by cases e; exact ⟨by have := HZ4.out; omega, _, HK3.out, rfl⟩)
    have HL := Lib.hid hL
    have c1 := hL.b2.cell (i := 0) rfl
    have c2 := hL.b3.cell (i := 0) rfl
    clear hL
    refine ⟨.tuple #[.int .u64 (lessS es fs), .bool (lessB es fs)], (results_cell2 rfl _ _ _).trans ?_, rfl, HL.out.bel⟩
    rw [HBS.out, HSS.out]
    go_simp
  case stop =>
    clear IT hCS HS
    rintro D c W' hD ⟨rfl, hb, hP⟩ hK
    have HBS := Lib.hid hb
    clear hb
    gi_wp2
    refine ⟨by simp, .inl ⟨_, _, rfl, run_takeDeferred hK, ?_⟩⟩
    have hL := hP.row (grownBy_putObj' _ D (.deferred none)) (fun r e => by cases e; exact ⟨by have := HZ4.out; omega, _, hK, rfl⟩)
    have HL := Lib.hid hL
    have c1 := hL.b2.cell (i := 0) rfl
    have c2 := hL.b3.cell (i := 0) rfl
    clear hL
    refine ⟨.tuple #[.int .u64 (lessS es fs), .bool (lessB es fs)], (results_cell2 rfl _ _ _).trans ?_, rfl, HL.out.bel⟩
    rw [HBS.out]
    go_simp

/-- the slice v reads as pointers to the stores ps -/
def MS (W : World) (v : Value) (ps : List (Nat × List En)) : Prop := ∃ A c, v = .slice A ps.length c ∧ ∀ (i : Nat) q, ps[i]? = some q → ∃ b off, A = some ⟨b, off, none⟩ ∧ b < W.heap.size ∧ W.cell? ⟨b, off + i, none⟩ = some (.pointer (some ⟨q.1, 0, none⟩)) ∧ SR W q.1 q.2
theorem MS.below {W W' : World} {v : Value} {ps : List (Nat × List En)} (h : MS W v ps) (hb : Below W.heap.size W W') : MS W' v ps := by
  obtain ⟨A, c, rfl, hp⟩ := h
  refine ⟨A, c, rfl, fun i q hq => ?_⟩
  obtain ⟨b, off, e, hlt, hc, hs⟩ := hp i q hq
  exact ⟨b, off, e, Nat.lt_of_lt_of_le hlt hb.size, (hb.cell (p := ⟨b, off + i, none⟩) hlt).trans hc, hs.below hb⟩
def allL (ps : List (Nat × List En)) (k : Nat) : List En := (ps.take k).flatMap (·.2)
theorem allL_succ {ps : List (Nat × List En)} {k : Nat} {q : Nat × List En} (h : ps[k]? = some q) : allL ps (k + 1) = allL ps k ++ q.2 := by
  unfold allL
  obtain ⟨hk, rfl⟩ := List.getElem?_eq_some_iff.1 h
  rw [List.take_succ_eq_append_getElem hk, List.flatMap_append]
  simp
theorem ofL_app_take (L : List En) {es : List En} {k : Nat} (hk : k < es.length) : ofL (L ++ es.take (k + 1)) = putP (ofL (L ++ es.take k)) (es.getD k dE).1 (es.getD k dE).2 := by
  rw [List.take_succ_eq_append_getElem hk, show es.getD k dE = es[k] from by simp [List.getD, hk], ← List.append_assoc]
  unfold ofL
  rw [List.foldl_append]
  rfl
theorem ofL_len (es : List En) : (ofL es).length ≤ es.length := by
  suffices h : ∀ (es o : List En), (es.foldl (fun o e => putP o e.1 e.2) o).length ≤ o.length + es.length from by have := h es []; unfold ofL; simpa using this
  intro es
  induction es with
  | nil => intro o; simp
  | cons e es ih => intro o; have := ih (putP o e.1 e.2); have := put_len o e.1 e.2; simp only [List.foldl_cons, List.length_cons]; omega
theorem allL_le (ps : List (Nat × List En)) (k : Nat) : (allL ps k).length ≤ (allL ps ps.length).length := by
  unfold allL
  rw [List.take_length]
  have : ps.flatMap (·.2) = (ps.take k).flatMap (·.2) ++ (ps.drop k).flatMap (·.2) := by rw [← List.flatMap_append, List.take_append_drop]
  rw [this, List.length_append]
  omega
/-- what Merge keeps between two stores -/
structure MI (W : World) (ps : List (Nat × List En)) (k : Nat) (ds : List Deferred) (W' : World) : Prop where
  s : SR W' W.heap.size (ofL (allL ps k))
  b : Blk W' (W.heap.size + 1) 25 [.pointer (some ⟨W.heap.size, 0, none⟩)]
  bel : Below W.heap.size W W'
  m : Marks W.heap.size W'.heap.size ds W'
/-- and between two entries -/
structure MJ (W : World) (L : List En) (B1 hi p : Nat) (ds : List Deferred) (W' : World) : Prop where
  s : SR W' W.heap.size (ofL L)
  b : Blk W' (W.heap.size + 1) 25 [.pointer (some ⟨W.heap.size, 0, none⟩)]
  b1 : Blk W' B1 25 [.pointer (some ⟨p, 0, none⟩)]
  bel : Below W.heap.size W W'
  m : Marks W.heap.size hi ds W'
theorem MJ.row {W : World} {L : List En} {B1 hi p : Nat} {ds : List Deferred} {A B : World} (h : MJ W L B1 hi p ds A) {row : Option Nat} (hg : A.grownBy B row) (hr : ∀ r, row = some r → hi ≤ r ∧ ∃ o : Obj, A.heap[r]? = some o ∧ o.isCells = false) (hh : W.heap.size ≤ hi) : MJ W L B1 hi p ds B :=
  have k : RowOk A row := fun r e => (hr r e).2
  ⟨h.s.row hg k, blk_row1 h.b hg k, blk_row1 h.b1 hg k, h.bel.grown hg h.bel.size (fun r e => Nat.le_trans hh (hr r e).1), h.m.gb hg (fun r e => .inl (hr r e).1)⟩
theorem MJ.alloc {W : World} {L : List En} {B1 hi p : Nat} {ds : List Deferred} {A : World} (h : MJ W L B1 hi p ds A) (o : Obj) (hh : W.heap.size ≤ hi) : MJ W L B1 hi p ds (A.alloc o) := h.row (World.grownBy_alloc A o none) (fun r e => by cases e) hh
theorem MJ.put {W : World} {L L' : List En} {B1 hi p : Nat} {ds : List Deferred} {A B : World} (h : MJ W L B1 hi p ds A) (hs : SR B W.heap.size (ofL L')) (hg : A.grownBy B (some W.heap.size)) (h1 : B1 ≠ W.heap.size) : MJ W L' B1 hi p ds B :=
  ⟨hs, h.b.kept hg (by simp), h.b1.kept hg (by simp; omega), h.bel.grown hg h.bel.size (fun r e => by cases e; exact Nat.le_refl _), h.m.gb hg (fun r e => by
    cases e
    obtain ⟨v, hb, _⟩ := h.s.pr
    exact .inr ⟨_, hb, rfl⟩)⟩
set_option maxRecDepth 100000 in
set_option maxHeartbeats 8000000 in
theorem merge_any (W : World) (v : Value) (ps : List (Nat × List En)) (h : MS W v ps) (hl : (allL ps ps.length).length ≤ 1000000) (hn : ps.length ≤ 1000000) :
    Calls Try.prog 29 #[v] W fun e w' => e = .returned (.pointer (some ⟨W.heap.size, 0, none⟩)) ∧ SR w' W.heap.size (ofL (allL ps ps.length)) ∧ Below W.heap.size W w' := by
  have H := Lib.hid h
  obtain ⟨A, c, rfl, -⟩ := h
  have HS0 := Lib.hid (show SR (W.alloc (.cells #[.slice none 0 0] tS)) W.heap.size (ofL (allL ps 0)) ∧ Below W.heap.size W (W.alloc (.cells #[.slice none 0 0] tS)) from
    ⟨⟨⟨_, Blk.new W _ _, pe_nil _⟩, by intro e he; simp [ofL, allL] at he, Tight.nil, by simp [ofL, allL]⟩, (Below.refl _ W).alloc (Nat.le_refl _) _⟩)
  refine (callsIn_wide (n := 4)).1 ?_
  refine callsIn_of_wp_marks Try.func29 rfl trivial ?_ rfl
  refine wpIn_wide.2 ?_
  simp only [Try.ntmps29, List.size_toArray, List.length_cons, List.length_nil, Nat.reduceAdd, Nat.reduceSub, Array.replicate_succ, Array.replicate_zero, List.push_toArray, List.append_toArray, List.nil_append, List.cons_append]
  go_wp2_with fail
  refine wp_loop (fun a' w' => ∃ u5 u12 u13 u14 u15 u16 u17 u24 ds, (∃ k : Nat, k ≤ ps.length ∧ u12 = .int .i64 (k : Int) ∧ MI W ps k ds w') ∧ a' = { tmps := #[.slice A ps.length c, undef, .pointer none, .pointer (some ⟨W.heap.size + 1, 0, none⟩), undef, u5, undef, undef, .agg #[.slice none 0 0], .pointer (some ⟨W.heap.size, 0, none⟩), .slice A ps.length c, .int .i64 (ps.length : Int), u12, u13, u14, u15, u16, u17, undef, undef, undef, undef, undef, undef, u24, undef], defers := ds }) (fun a' _ => ps.length - (intOf (a'.tmps.getD 12 undef)).toNat) ?_ ?_
  · refine ⟨undef, _, undef, undef, undef, undef, undef, undef, [], ⟨0, Nat.zero_le _, rfl, HS0.out.1.alloc _, ?_, HS0.out.2.alloc HS0.out.2.size _, Marks.nil _ _ _⟩, rfl⟩
    have := Blk.new (W.alloc (.cells #[.slice none 0 0] tS)) [.pointer (some ⟨W.heap.size, 0, none⟩)] 25
    rw [World.size_alloc] at this
    exact this
  · rintro a' wr ⟨u5, u12, u13, u14, u15, u16, u17, u24, ds, ⟨k, hk, rfl, hI⟩, rfl⟩
    clear HS0
    by_cases hlt : k < ps.length
    · obtain ⟨q, hq⟩ : ∃ q, ps[k] = q := ⟨_, rfl⟩
      have hq2 : ps[k]? = some q := by rw [List.getElem?_eq_getElem hlt, hq]
      obtain ⟨A', c', e1, hms⟩ := H.out.below hI.bel
      obtain ⟨rfl, rfl⟩ : A = A' ∧ c = c' := by injection e1 with e1 e2 e3; exact ⟨e1, e3⟩
      obtain ⟨bq, offq, rfl, hlq, cq, hSq⟩ := hms k q hq2
      have HI := Lib.hid hI; have HQ2 := Lib.hid hq2; have HSQ := Lib.hid hSq
      clear hq hq2 hms e1 hI hSq
      go_wp2_with fail
      refine (entries_any _ q.1).mono ?_; rintro e w3 ⟨rfl, hw3⟩
      have hz3 : w3.heap.size = wr.heap.size + 1 := by rw [hw3]; simp
      have hJ : MJ W (allL ps k) wr.heap.size w3.heap.size q.1 ds w3 := by
        rw [hw3]
        exact ⟨HI.out.s.alloc _, HI.out.b.alloc _, Blk.new wr _ _, HI.out.bel.alloc HI.out.bel.size _, (HI.out.m.below ((Below.refl _ wr).alloc (Nat.le_refl _) _)).up (by simp)⟩
      have hSq3 : SR w3 q.1 q.2 := by rw [hw3]; exact HSQ.out.alloc _
      have HJ := Lib.hid hJ; have HSQ3 := Lib.hid hSq3; have HZ3 := Lib.hid hz3
      clear hw3 hJ hSq3 hz3 HSQ
      go_wp2_with fail
      have hh : W.heap.size ≤ w3.heap.size := HJ.out.bel.size
      have hB1 : wr.heap.size ≠ W.heap.size := by have := HI.out.s.pr.lt; omega
      have hle : ∀ j, (allL ps k ++ q.2.take j).length ≤ 1000000 := fun j => by
        have h1 := allL_le ps (k + 1)
        rw [allL_succ HQ2.out] at h1
        have h2 : (q.2.take j).length ≤ q.2.length := by rw [List.length_take]; omega
        rw [List.length_append] at h1 ⊢
        omega
      obtain ⟨L, hL⟩ : ∃ L, allL ps k = L := ⟨_, rfl⟩
      have HLL := Lib.hid hL
      rw [hL] at HJ hle
      have HLE := Lib.hid hle
      obtain ⟨vq, hbq, hpq⟩ := HSQ3.out.pr
      have hcE : ∀ j W', MJ W (L ++ q.2.take j) wr.heap.size w3.heap.size q.1 ds W' → ∃ X, Below W.heap.size W W' ∧ X = W' := fun j W' h => ⟨W', h.bel, rfl⟩
      have hqW : q.1 < W.heap.size ∧ SR W q.1 q.2 := by
        obtain ⟨A', c', e1, hms⟩ := H.out
        obtain ⟨b', o', _, _, _, hS⟩ := hms k q HQ2.out
        exact ⟨hS.pr.lt, hS⟩
      obtain ⟨vq, hbq, hpq⟩ := hqW.2.pr
      have HBQ := Lib.hid hbq; have HPQ := Lib.hid hpq; have HUE := Lib.hid hqW.2.ue
      have hsO : ∀ L', OwnFrom w3.heap.size (fun (_ : Unit) W' => MJ W L' wr.heap.size w3.heap.size q.1 ds W') := fun L' s A B row hs hg hr => hs.row hg hr hh
      have IT := entries_iter 3 wr.heap.size q.1 vq q.2 (by have := hqW.2.len; omega) (fun j W' => MJ W (L ++ q.2.take j) wr.heap.size w3.heap.size q.1 ds W')
        (fun j W' h => ⟨h.b1.cell rfl, (HBQ.out.belowS h.bel).cell rfl, HPQ.out.below h.bel⟩) (fun j W' o h => h.alloc o hh)
      clear hbq hpq hqW hcE hle hL
      refine wpIn_wide.1 (range_gen (F := Fence.wide) (n := 4) rfl (by omega) (gf := 70) (lb := #[.pointer (some ⟨wr.heap.size, 0, none⟩)]) rfl trivial (enters_of Try.func70 (by kernel_rfl) rfl) (encs := fun k : Nat => #[.int .u64 (q.2.getD k dE).1, .int .i64 (q.2.getD k dE).2]) (fun _ => rfl)
        (fun W' => MJ W (L ++ q.2.take 0) wr.heap.size w3.heap.size q.1 ds W')
        (fun j W' => j < q.2.length ∧ MJ W (L ++ q.2.take j) wr.heap.size w3.heap.size q.1 ds W')
        (fun j W' => MJ W (L ++ q.2.take (j + 1)) wr.heap.size w3.heap.size q.1 ds W')
        (fun c W' => False)
        (fun W' => MJ W (L ++ q.2.take q.2.length) wr.heap.size w3.heap.size q.1 ds W')
        (fun j a' W' => a' = { tmps := #[.slice (some ⟨bq, offq, none⟩) ps.length c, undef, .pointer none, .pointer (some ⟨W.heap.size + 1, 0, none⟩), undef, .pointer (some ⟨q.1, 0, none⟩), .int .u64 (q.2.getD j dE).1, .int .i64 (q.2.getD j dE).2, .agg #[.slice none 0 0], .pointer (some ⟨W.heap.size, 0, none⟩), .slice (some ⟨bq, offq, none⟩) ps.length c, .int .i64 (ps.length : Int), .int .i64 (k : Int), .bool true, .pointer (some ⟨bq, offq + k, none⟩), .pointer (some ⟨q.1, 0, none⟩), .pointer (some ⟨q.1, 0, none⟩), .func (.func 70) #[] #[.pointer (some ⟨wr.heap.size, 0, none⟩)], .int .u64 (q.2.getD j dE).1, .int .i64 (q.2.getD j dE).2, undef, undef, undef, undef, u24, undef], defers := [] } ∧ j < q.2.length ∧ MJ W (L ++ q.2.take j) wr.heap.size w3.heap.size q.1 ds W')
        (hsO _)
        (fun j => hsO _)
        (fun c _ _ _ _ hs _ _ => hs)
        (hsO _)
        (fun j a' => OwnFrom.and (fun _ _ _ _ hs _ _ => hs) (OwnFrom.and (fun _ _ _ _ hs _ _ => hs) (hsO _)))
        (by rw [List.take_zero, List.append_nil]; exact HJ.out) IT ?assign ?body ?done ?stop)
      case assign =>
        clear IT hsO
        rintro l2 j W' K ⟨hj, hP⟩ hK
        obtain ⟨⟨x, y⟩, hx⟩ : ∃ x, q.2.getD j dE = x := ⟨_, rfl⟩
        have HPP := Lib.hid hP
        have HK := Lib.hid (fun a' h => hK a' W' (KeepsFrom.refl _ _) ⟨h, hj, HPP.out⟩)
        rw [hx] at HK ⊢
        clear hP hK hx
        gi_wp2
        exact HK.out _ rfl
      case body =>
        clear IT hsO
        rintro l2 j a' W' hl' hr ⟨rfl, hj, hP⟩
        obtain ⟨⟨x, y⟩, hx⟩ : ∃ x, q.2.getD j dE = x := ⟨_, rfl⟩
        have hux : U x := by
          have := HUE.out (q.2.getD j dE) (by rw [show q.2.getD j dE = q.2[j] from by simp [List.getD, hj]]; exact List.getElem_mem hj)
          rw [hx] at this
          exact this
        have hy := ofL_app_take L hj
        rw [hx] at hy ⊢
        have AK := put_c W' W.heap.size (ofL (L ++ q.2.take j)) _ x y _ hP.s hux rfl hy.symm (by have := ofL_len (L ++ q.2.take j); have := HLE.out j; omega)
        have HAK := Lib.hid AK; have HPP := Lib.hid hP
        have c1 := hP.b.cell (i := 0) rfl
        clear hx hP AK hy
        gi_wp2_with fail
        refine ⟨trivial, ?_⟩
        refine (CallsIn.inRound l2 (callsIn_wide.2 HAK.out)).mono ?_; rintro e w5 ⟨rfl, hs5, hg5⟩
        have HR := Lib.hid (show KeepsFrom w3.heap.size W' w5 ∧ MJ W (L ++ q.2.take (j + 1)) wr.heap.size w3.heap.size q.1 ds w5 from
          ⟨KeepsFrom.of_grownBy hg5 (fun r e => by have := HI.out.bel.size; have := HZ3.out; cases e; omega), HPP.out.put hs5 hg5 hB1⟩)
        clear hs5 hg5
        gi_wp2_with fail
        exact HR.out
      case done =>
        clear IT hsO
        rintro D W' hD hP hK
        have hk2 : (k : Int) + 1 ≤ 9223372036854775807 := by omega
        have hm := hP.m.cons (by omega) hD hK
        have hDl : D < W'.heap.size := (Array.getElem?_eq_some_iff.1 hK).1
        have HN := Lib.hid (show MI W ps (k + 1) (mk D :: ds) W' from by
          refine ⟨?_, hP.b, hP.bel, hm.up (by omega)⟩
          rw [allL_succ HQ2.out, HLL.out, ← List.take_length (l := q.2)]
          exact hP.s)
        clear hP hK hm
        go_wp2_with fail
        refine ⟨⟨_, _, _, _, _, _, _, _, _, ⟨k + 1, by omega, by simp, HN.out⟩, rfl⟩, ?_⟩
        simp [intOf]; omega
      case stop =>
        rintro D c W' hD hF hK
        exact hF.elim
    · obtain rfl : k = ps.length := by omega
      have c1 := hI.b.cell (i := 0) rfl
      have HI := Lib.hid hI
      clear hI
      go_wp2_with fail
      refine HI.out.m.leave (fun A => SR A W.heap.size (ofL (allL ps ps.length)) ∧ Below W.heap.size W A) ?_ ?_ ⟨HI.out.s, HI.out.bel⟩
      · rintro A1 D hD ⟨h1, h2⟩ hA
        have hg := grownBy_putObj' A1 D (.deferred none)
        exact ⟨h1.row hg (fun r e => by cases e; exact ⟨_, hA, rfl⟩), h2.grown hg h2.size (fun r e => by cases e; exact hD)⟩
      · rintro A1 ⟨h1, h2⟩
        exact ⟨_, results_tmp rfl _ _ _, rfl, h1, h2⟩
end Go.Proofs.Ytnlhgnioedalpaa.Pri
