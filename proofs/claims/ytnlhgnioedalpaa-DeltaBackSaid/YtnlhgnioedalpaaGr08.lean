/- ChkF, CheckBids, CheckReports, laid together. -/
import Derived.Test.YtnlhgnioedalpaaGr07
import Derived.Maps.OwnOps
import Derived.Test.YtnlhgnioedalpaaPCheckBidsx0

/- check: few bids; the stores of books; what is wanted. -/
set_option linter.unusedSimpArgs false
set_option linter.unusedVariables false
namespace Go.Proofs.Ytnlhgnioedalpaa.Pri
open Go.RowKit Go.Proofs.YtnlhgnioedalpaaW.PrintWords Go.Proofs.Ytnlhgnioedalpaa.PPricePlays Go.Maps
attribute [local go_sem] Oper.semAt_some

def fewB (L : List (List En)) (n m : Int) : Bool := decide ((L.length : Int) ≤ n) && L.all (fun l => decide ((l.length : Int) ≤ m))
/-- the books' stores: none of those in a fourth place -/
def sAt (ps : List Nat) (books : List (List En)) (k : Nat) : List (Option (Nat × List En)) := (List.range k).map (fun i => if i % 4 = 3 then none else some (ps.getD i 0, ofL (books.getD i [])))
/-- what stands in the row -/
def sV (o : Option (Nat × List En)) : Value := .pointer (o.map (fun q => ⟨q.1, 0, none⟩))
/-- the slice of a store is none, or lies from b on -/
def OffN (W : World) (p b : Nat) : Prop := ∀ v, Blk W p tS [v] → ∀ q, v.ownBlock = some q → b ≤ q ∧ q < W.heap.size
theorem OffN.below {A B : World} {p b : Nat} (h : OffN A p b) (hp : p < A.heap.size) (hb : Below A.heap.size A B) : OffN B p b := fun v hv q hq => by
  have := h v ((hb.block p hp).symm.trans hv) q hq
  exact ⟨this.1, Nat.lt_of_lt_of_le this.2 hb.size⟩
theorem OffN.step {A B : World} {p b : Nat} (h : OffN A p b) (hn : NF A B p) (hs : A.heap.size ≤ B.heap.size) (hb : b ≤ A.heap.size) : OffN B p b := fun v hv q hq => by
  rcases hn v hv with h1 | h1
  · have := h1 q hq; exact ⟨by omega, this.2⟩
  · have := h v h1 q hq; exact ⟨this.1, by omega⟩
set_option maxRecDepth 100000 in
set_option maxHeartbeats 4000000 in
theorem of_anyF (W : World) (v : Value) (es : List En) (h : PE W v es) (hU : UE es) (hl : es.length ≤ 1000000) :
    Calls Try.prog 23 #[v] W fun e w' => e = .returned (.pointer (some ⟨W.heap.size, 0, none⟩)) ∧ SR w' W.heap.size (ofL es) ∧ (ofL es).length ≤ es.length ∧ Below W.heap.size W w' ∧ OffN w' W.heap.size W.heap.size := by
  have H := Lib.hid h
  obtain ⟨A, c, rfl, -⟩ := h
  have HS0 := Lib.hid (show SR (W.alloc (.cells #[.slice none 0 0] tS)) W.heap.size (ofL (es.take 0)) ∧ Below W.heap.size W (W.alloc (.cells #[.slice none 0 0] tS)) ∧ OffN (W.alloc (.cells #[.slice none 0 0] tS)) W.heap.size W.heap.size from
    ⟨⟨⟨_, Blk.new W _ _, pe_nil _⟩, by intro e he; simp [ofL] at he, Tight.nil, by simp [ofL]⟩, (Below.refl _ W).alloc (Nat.le_refl _) _, fun v hv q hq => by have := (hv.inj (Blk.new W [.slice none 0 0] tS)).2; injection this with e; subst e; cases hq⟩)
  go_enter Try.func23, Try.ntmps23
  go_wp2_with fail
  go_loopw [10] (fun i wr => ∃ k : Nat, k ≤ es.length ∧ i = .int .i64 (k : Int) ∧ SR wr W.heap.size (ofL (es.take k)) ∧ (ofL (es.take k)).length ≤ k ∧ Below W.heap.size W wr ∧ OffN wr W.heap.size W.heap.size) (fun i _ => es.length - (intOf i).toNat)
  case atStart => exact ⟨0, Nat.zero_le _, rfl, HS0.out.1, by simp [ofL], HS0.out.2.1, HS0.out.2.2⟩
  case round =>
    clear HS0
    obtain ⟨k, hk, rfl, hS, hlen, hB, hO⟩ := hrel
    by_cases hlt : k < es.length
    · obtain ⟨⟨x, y⟩, hx⟩ : ∃ x, es[k] = x := ⟨_, rfl⟩
      have hx2 : es[k]? = some (x, y) := by rw [List.getElem?_eq_getElem hlt, hx]
      have hgd : es.getD k dE = (x, y) := by rw [List.getD_eq_getElem?_getD, hx2]; rfl
      have hux : U x := hU _ (List.mem_of_getElem? hx2)
      obtain ⟨b3, off3, c4, e1, hlb, r0, r1⟩ := (H.out.below hB).at hx2
      obtain ⟨rfl, rfl⟩ : A = some ⟨b3, off3, none⟩ ∧ c = c4 := by injection e1 with e1 e2 e3; exact ⟨e1, e3⟩
      simp only at r0 r1
      have hal : Below wr.heap.size wr (wr.alloc (.cells #[.int .u64 x, .int .i64 y] tE)) := (Below.refl _ wr).alloc (Nat.le_refl _) _
      have hot := ofL_take hlt
      rw [hgd] at hot
      have HPUT := Lib.hid (sput_anyF _ W.heap.size (ofL (es.take k)) x y (hS.below hal) hux)
      have HS := Lib.hid (hS.below hal); have HOT := Lib.hid hot; have HB := Lib.hid (hB.trans (hal.mono hB.size)); have HOF := Lib.hid (hO.below hS.pr.lt hal)
      clear hx hx2 hgd e1 hal hot hS hB hO
      go_wp2_with fail
      refine HPUT.out.mono ?_; rintro e w1 ⟨rfl, hp1, hg1, hf1⟩
      have HN := Lib.hid (show SR w1 W.heap.size (ofL (es.take (k + 1))) ∧ (ofL (es.take (k + 1))).length ≤ k + 1 ∧ Below W.heap.size W w1 ∧ OffN w1 W.heap.size W.heap.size from by
        have hpl := put_len (ofL (es.take k)) x y
        rw [HOT.out]
        exact ⟨HS.out.put hux hp1 (by omega), by omega, HB.out.grown hg1 HB.out.size (fun r e => by cases e; exact Nat.le_refl _), HOF.out.step hf1 hg1.size HB.out.size⟩)
      clear hp1 hg1 hf1 HPUT
      go_wp2_with fail
      go_roundw
      case rel => exact ⟨k + 1, by omega, by simp, HN.out.1, HN.out.2.1, HN.out.2.2.1, HN.out.2.2.2⟩
      case measure => simp [intOf]; omega
    · obtain rfl : k = es.length := by omega
      rw [List.take_length] at hS hlen
      go_wp2_with fail
      go_ret
      exact ⟨rfl, hS, hlen, hB, hO⟩
/-- the stores of a list stand, none of them in the row's block -/
def ST (l : List (Option (Nat × List En))) (o : Value) (w : World) : Prop := ∀ (i : Nat) p es, l[i]? = some (some (p, es)) → SR w p es ∧ ∀ v, Blk w p tS [v] → ∀ q, v.ownBlock = some q → q < w.heap.size ∧ o.ownBlock ≠ some q
theorem ST.below {l : List (Option (Nat × List En))} {o : Value} {A B : World} (h : ST l o A) (hb : Below A.heap.size A B) : ST l o B := fun i p es hi => by
  obtain ⟨h1, h2⟩ := h i p es hi
  refine ⟨h1.below hb, fun v hv q hq => ?_⟩
  have := h2 v ((hb.block p h1.pr.lt).symm.trans hv) q hq
  exact ⟨Nat.lt_of_lt_of_le this.1 hb.size, this.2⟩
theorem ST.step {l : List (Option (Nat × List En))} {o o' : Value} {A B : World} {Bs n : Nat} {xs : List Value} (h : ST l o A) (hown : A.ownsRow Bs 25 1 o n xs) (hg : A.grownBy B o.ownBlock) (hloc : ∀ q, o'.ownBlock = some q → o.ownBlock = some q ∨ A.heap.size ≤ q) : ST l o' B := fun i p es hi => by
  obtain ⟨hs, hoff⟩ := h i p es hi
  obtain ⟨v, hb, hpe⟩ := hs.pr
  have hb' := hb.kept hg (fun e => own_apart hb hown (by decide) e.symm)
  have hK : Kept A B (fun i => o.ownBlock = some i) := ⟨hg.size, fun i hi hn => hg.block i hi (fun e => hn e.symm)⟩
  refine ⟨⟨⟨v, hb', hpe.kept hK (fun q hq => (hoff v hb q hq).2)⟩, hs.ue, hs.ti, hs.len⟩, fun v' hv' q hq => ?_⟩
  obtain rfl : v' = v := by have := (hv'.inj hb').2; injection this
  have := hoff v' hb q hq
  refine ⟨Nat.lt_of_lt_of_le this.1 hg.size, fun e => ?_⟩
  rcases hloc q e with h3 | h3
  · exact this.2 h3
  · omega
theorem ST.snoc {l : List (Option (Nat × List En))} {o : Value} {w : World} {x : Option (Nat × List En)} (h : ST l o w) (hx : ∀ p es, x = some (p, es) → SR w p es ∧ ∀ v, Blk w p tS [v] → ∀ q, v.ownBlock = some q → q < w.heap.size ∧ o.ownBlock ≠ some q) : ST (l ++ [x]) o w := fun i p es hi => by
  rw [List.getElem?_append] at hi
  split at hi
  · exact h i p es hi
  · rename_i hlt
    have h0 : i - l.length = 0 := by have := (List.getElem?_eq_some_iff.1 hi).1; simp at this; omega
    rw [h0] at hi
    exact hx p es (by simpa using hi)
theorem sAt_succ (ps : List Nat) (books : List (List En)) (k : Nat) : sAt ps books (k + 1) = sAt ps books k ++ [if k % 4 = 3 then none else some (ps.getD k 0, ofL (books.getD k []))] := by
  unfold sAt
  rw [List.range_succ, List.map_append]
  rfl
theorem sAt_app {ps : List Nat} {books : List (List En)} {k : Nat} (h : k ≤ ps.length) (p : Nat) : sAt (ps ++ [p]) books k = sAt ps books k := by
  unfold sAt
  refine List.map_congr_left (fun i hi => ?_)
  have hi := List.mem_range.1 hi
  rw [show (ps ++ [p]).getD i 0 = ps.getD i 0 from by simp [List.getD, List.getElem?_append, show i < ps.length by omega]]
theorem sAt_len (ps : List Nat) (books : List (List En)) (k : Nat) : (sAt ps books k).length = k := by simp [sAt]
def cntE (f : Nat → Int) (k : Nat) : Nat := (List.range k).countP (fun i => decide (f i ≠ 0))
theorem cntE_succ (f : Nat → Int) (k : Nat) : cntE f (k + 1) = cntE f k + if f k ≠ 0 then 1 else 0 := by
  unfold cntE
  rw [List.range_succ, List.countP_append]
  by_cases h : f k = 0 <;> simp [h]
/-- what is wanted, in a map -/
def WM (W : World) (b n : Nat) (f : Nat → Int) (k : Nat) : Prop := ∃ D : DataW Unit, W.ownsMap Try.prog 3 (plainElem Try.prog 3) b n D ∧ (∀ i : Nat, D.atKey (.int .i64 (i : Int)) (.lit (.int .i64 0)) = .lit (.int .i64 (if i < k then f i else 0))) ∧ (∀ i : Nat, k ≤ i → Maps.has D (.int .i64 (i : Int)) = false) ∧ Maps.size D = cntE f k
theorem law3 : Keyed Try.prog 3 := int_keyed Try.underlying3
theorem zero3 (w : World) : (zeroValue 3).run Try.prog w = .ok (.int .i64 0) w := by kernel_rfl
theorem nat_wf {i : Nat} (h : i ≤ 1000000) : (Lit.int .i64 (i : Int)).wf = true := by
  show (decide (IntKind.i64.min ≤ (i : Int)) && decide ((i : Int) ≤ IntKind.i64.max)) = true
  have h1 : IntKind.i64.min = -9223372036854775808 := by decide
  have h2 : IntKind.i64.max = 9223372036854775807 := by decide
  rw [h1, h2, decide_eq_true (by omega), decide_eq_true (by omega)]
  rfl
theorem look_int {P : Program} {t k e : TypeId} {w : World} {b n : Nat} {D : DataW Unit} (h : w.ownsMap P k (plainElem P e) b n D) (K : Keyed P k) (ht : P.underlying t = some (.map k e)) (he : P.underlying e = some (.int .i64)) (hz : (zeroValue e).run P w = .ok (.int .i64 0) w)
    {key : Value} {kl : Lit} (hkey : keyOf P k key = some kl) {x : Int} (hx : D.atKey kl (.lit (.int .i64 0)) = .lit (.int .i64 x)) : (Instr.lookup t (.map (some b)) key false).run P w = .ok (.int .i64 x) w := by
  obtain ⟨c, hrun, hc, _⟩ := h.lookup_int K ht he hz hkey
  have h2 := hx.symm.trans hc
  injection h2 with h2
  injection h2 with h2 h3
  subst h3
  exact hrun
set_option maxRecDepth 100000 in
theorem WM.look {W : World} {b n : Nat} {f : Nat → Int} {k : Nat} (h : WM W b n f k) {i : Nat} (hi : i ≤ 1000000) {x : Int} (hx : (if i < k then f i else 0) = x) : (Instr.lookup 71 (.map (some b)) (.int .i64 (i : Int)) false).run Try.prog W = .ok (.int .i64 x) W := by
  obtain ⟨D, ho, hD, _⟩ := h
  exact look_int ho law3 Try.underlying71 Try.underlying3 (zero3 W) (keyOf_int_mk Try.underlying3 (nat_wf hi)) (by rw [hD i, hx])
theorem WM.kept {W W' : World} {b n : Nat} {f : Nat → Int} {k : Nat} {row : Option Nat} (h : WM W b n f k) (hg : W.grownBy W' row) (hne : some b ≠ row) : WM W' b n f k := by
  obtain ⟨D, ho, hD⟩ := h
  exact ⟨D, ho.kept hg hne, hD⟩
theorem WM.lt {W : World} {b n : Nat} {f : Nat → Int} {k : Nat} (h : WM W b n f k) : b < W.heap.size := by
  obtain ⟨D, ho, _⟩ := h
  exact ho.lt
theorem WM.below {W W' : World} {b n : Nat} {f : Nat → Int} {k : Nat} (h : WM W b n f k) (hb : Below W.heap.size W W') : WM W' b n f k := h.kept (gb_none hb) (by simp)
theorem WM.made (W : World) (f : Nat → Int) : WM (W.alloc (.map #[] 0)) W.heap.size 0 f 0 := ⟨_, World.ownsMap_made W _ _ _, fun i => rfl, fun i _ => rfl, rfl⟩
theorem WM.skip {W : World} {b n : Nat} {f : Nat → Int} {k : Nat} (h : WM W b n f k) (hk : f k = 0) : WM W b n f (k + 1) := by
  obtain ⟨D, ho, hD, hh, hs⟩ := h
  refine ⟨D, ho, fun i => ?_, fun i hi => hh i (by omega), by rw [hs, cntE_succ, if_neg (by simpa using hk)]; rfl⟩
  rw [hD i]
  by_cases h1 : i < k
  · rw [if_pos h1, if_pos (by omega)]
  · by_cases h2 : i = k
    · subst h2; rw [if_neg h1, if_pos (by omega), hk]
    · rw [if_neg h1, if_neg (by omega)]
theorem WM.put {D : DataW Unit} {f : Nat → Int} {k : Nat} (hT : Tidy D) (hk : f k ≠ 0) (hD : ∀ i : Nat, D.atKey (.int .i64 (i : Int)) (.lit (.int .i64 0)) = .lit (.int .i64 (if i < k then f i else 0))) (hh : ∀ i : Nat, k ≤ i → Maps.has D (.int .i64 (i : Int)) = false) (hs : Maps.size D = cntE f k) :
    (∀ i : Nat, (D.put (.int .i64 (k : Int)) (.lit (.int .i64 (f k)))).atKey (.int .i64 (i : Int)) (.lit (.int .i64 0)) = .lit (.int .i64 (if i < k + 1 then f i else 0))) ∧ (∀ i : Nat, k + 1 ≤ i → Maps.has (D.put (.int .i64 (k : Int)) (.lit (.int .i64 (f k)))) (.int .i64 (i : Int)) = false) ∧ Maps.size (D.put (.int .i64 (k : Int)) (.lit (.int .i64 (f k)))) = cntE f (k + 1) := by
  refine ⟨fun i => ?_, fun i hi => ?_, ?_⟩
  · by_cases h2 : i = k
    · subst h2
      rw [atKey_put_same hT.isMap (isKey_int _ _), if_pos (by omega)]
    · rw [atKey_put_other (fun e => h2 (by injection e with _ e; omega)), hD i]
      by_cases h1 : i < k
      · rw [if_pos h1, if_pos (by omega)]
      · rw [if_neg h1, if_neg (by omega)]
  · rw [has_put_other (fun e => by injection e with _ e; omega)]
    exact hh i (by omega)
  · rw [size_put hT, hh k (Nat.le_refl _), hs, cntE_succ, if_pos hk]
    rfl
end Go.Proofs.Ytnlhgnioedalpaa.Pri

/- CheckBids: whether all bids may be, and which was the last one, is as the document says. -/
set_option linter.unusedSimpArgs false
set_option linter.unusedVariables false
namespace Go.Proofs.Ytnlhgnioedalpaa.Pri
open Go.RowKit Go.Proofs.YtnlhgnioedalpaaW.PrintWords Go.Proofs.Ytnlhgnioedalpaa.PPricePlays Go.Maps
attribute [local go_sem] Oper.semAt_some

/-- a store, and the document's entries, and what came in -/
structure CB (W : World) (p : Nat) (vx vb vn : Value) (P bs now : List En) (W' : World) : Prop where
  s : SR W' p P
  x : PE W' vx P
  b : PE W' vb bs
  n : PE W' vn now
  bel : Below W.heap.size W W'
theorem CB.below {W : World} {p : Nat} {vx vb vn : Value} {P bs now : List En} {A B : World} (h : CB W p vx vb vn P bs now A) (hb : Below A.heap.size A B) : CB W p vx vb vn P bs now B := ⟨h.s.below hb, h.x.below hb, h.b.below hb, h.n.below hb, h.bel.trans (hb.mono h.bel.size)⟩
end Go.Proofs.Ytnlhgnioedalpaa.Pri

/- CheckReports: the bidders whose bids may not be are those that the document says, as far as is asked for. -/
set_option linter.unusedSimpArgs false
set_option linter.unusedVariables false
namespace Go.Proofs.Ytnlhgnioedalpaa.Pri
open Go.RowKit Go.Proofs.YtnlhgnioedalpaaW.PrintWords Go.Proofs.Ytnlhgnioedalpaa.PPricePlays Go.Maps
attribute [local go_sem] Oper.semAt_some

abbrev tP : TypeId := 25
theorem infoP : (Try.prog.info? 25).map (fun i => (i.zero, i.size, i.bytes)) = some (some (.pointer none), 1, 8) := by kernel_rfl
theorem own_set1 {w : World} {B g n cap : Nat} {e : TypeId} {xs : List Value} (h : w.ownsRow B e 1 (.slice (some ⟨g, 0, none⟩) n cap) n xs) {i : Nat} (hi : i < n) (u : Value) : (w.setCell ⟨g, i, none⟩ u).ownsRow B e 1 (.slice (some ⟨g, 0, none⟩) n cap) n (xs.set i u) := by
  refine ⟨by rw [List.length_set]; exact h.1, .inr ?_⟩
  rcases h.2 with ⟨h1, _⟩ | ⟨g', cap', cur, e1, h2, h3, h4, h5, h6, h7⟩
  · cases h1
  · injection e1 with e1 _ e3
    injection e1 with e1
    injection e1 with e1
    subst e1; subst e3
    have hb : Blk w g e cur.toList := by unfold Blk; rw [Array.toArray_toList]; exact h3
    have hs := hb.set i u
    unfold Blk at hs
    refine ⟨g, cap, (cur.toList.set i u).toArray, rfl, h2, hs, h4, h5, by simp [h6], ?_⟩
    rw [← h7]
    simp [List.take_set]
/-- the first k stores, in a row -/
structure LB (W : World) (mo : Int) (B : Nat) (books : List (List En)) (k : Nat) (ps : List Nat) (o : Value) (A : World) : Prop where
  n : ps.length = k
  own : A.ownsRow B tP 1 o k ((sAt ps books k).map sV)
  st : ST (sAt ps books k) o A
  c : C0 W mo A
  le : ∀ (j : Nat) l, j < k → books[j]? = some l → l.length ≤ 30
theorem LB.below {W : World} {mo : Int} {B : Nat} {books : List (List En)} {k : Nat} {ps : List Nat} {o : Value} {A A' : World} (h : LB W mo B books k ps o A) (hb : Below A.heap.size A A') : LB W mo B books k ps o A' :=
  ⟨h.n, own_below h.own hb, h.st.below hb, h.c.below hb, h.le⟩
theorem C0.kept {W : World} {mo : Int} {A B : World} {Bs n : Nat} {o : Value} {xs : List Value} (h : C0 W mo A) (hown : A.ownsRow Bs tP 1 o n xs) (hW : W.heap.size ≤ Bs) (hg : A.grownBy B o.ownBlock) : C0 W mo B :=
  ⟨h.b5.kept hg (fun e => own_apart h.b5 hown (by decide) e.symm), h.b6.kept hg (fun e => own_apart h.b6 hown (by decide) e.symm), h.bel.grown hg h.bel.size (fun r e => Nat.le_trans hW (own_typ hown r e).1)⟩
/-- one more -/
theorem LB.push {W : World} {mo : Int} {B : Nat} {books : List (List En)} {k : Nat} {ps : List Nat} {o o' : Value} {A A' : World} {l : List En} {p : Nat} (h : LB W mo B books k ps o A) (hW : W.heap.size ≤ B) (hl : books[k]? = some l) (hlen : l.length ≤ 30) (hS : SR A p (ofL l)) (hF : ∀ v, Blk A p tS [v] → ∀ q, v.ownBlock = some q → q < A.heap.size ∧ o.ownBlock ≠ some q)
    (hown : A'.ownsRow B tP 1 o' (k + 1) ((sAt ps books k).map sV ++ [.pointer (some ⟨p, 0, none⟩)])) (hg : A.grownBy A' o.ownBlock) (hloc : o'.ownBlock = o.ownBlock ∨ o'.ownBlock = some A.heap.size) :
    (k % 4 ≠ 3 → LB W mo B books (k + 1) (ps ++ [p]) o' A') ∧ (k % 4 = 3 → ∀ g cap, o' = .slice (some ⟨g, 0, none⟩) (k + 1) cap → LB W mo B books (k + 1) (ps ++ [p]) o' (A'.setCell ⟨g, k, none⟩ (.pointer none))) := by
  have hlo : ∀ q, o'.ownBlock = some q → o.ownBlock = some q ∨ A.heap.size ≤ q := fun q hq => by
    rcases hloc with h1 | h1
    · exact .inl (h1 ▸ hq)
    · rw [h1] at hq; cases hq; exact .inr (Nat.le_refl _)
  have hst := (h.st.snoc (x := some (p, ofL l)) (fun p' es' e => by cases e; exact ⟨hS, hF⟩)).step h.own hg hlo
  have hc := h.c.kept h.own hW hg
  have hle : ∀ (j : Nat) l', j < k + 1 → books[j]? = some l' → l'.length ≤ 30 := fun j l' hj hl' => by
    rcases Nat.lt_succ_iff_lt_or_eq.1 hj with h1 | rfl
    · exact h.le j l' h1 hl'
    · rw [hl] at hl'; cases hl'; exact hlen
  have hn : (ps ++ [p]).length = k + 1 := by simp [h.n]
  have happ := sAt_app (ps := ps) (books := books) (k := k) (by rw [h.n]; exact Nat.le_refl _) p
  have hgk : (ps ++ [p]).getD k 0 = p := by rw [← h.n]; simp [List.getD]
  have hbk : books.getD k [] = l := by rw [List.getD_eq_getElem?_getD, hl]; rfl
  constructor
  · intro h3
    have e : sAt (ps ++ [p]) books (k + 1) = sAt ps books k ++ [some (p, ofL l)] := by rw [sAt_succ, happ, if_neg h3, hgk, hbk]
    exact ⟨hn, by rw [e, List.map_append]; exact hown, by rw [e]; exact hst, hc, hle⟩
  · intro h3 g cap ho
    subst ho
    have e : sAt (ps ++ [p]) books (k + 1) = sAt ps books k ++ [none] := by rw [sAt_succ, happ, if_pos h3]
    have hgs := grownBy_setAt A' g k (.pointer none)
    have hst2 : ST (sAt ps books k ++ [none]) (.slice (some ⟨g, 0, none⟩) (k + 1) cap) A' := by
      refine ST.snoc (fun i p' es' hi => ?_) (fun p' es' e => by cases e)
      exact hst i p' es' (by rw [List.getElem?_append_left (List.getElem?_eq_some_iff.1 hi).1]; exact hi)
    refine ⟨hn, ?_, ?_, ?_, hle⟩
    · rw [e, List.map_append]
      have := own_set1 hown (i := k) (by omega) (.pointer none)
      rw [List.set_append_right _ _ (by rw [List.length_map, sAt_len]; exact Nat.le_refl _), List.length_map, sAt_len, Nat.sub_self] at this
      exact this
    · rw [e]
      exact hst2.step hown hgs (fun q hq => .inl hq)
    · exact hc.kept hown hW hgs
abbrev tM : TypeId := 71
theorem own_row {A C : World} {B n size : Nat} {e : TypeId} {v : Value} {xs : List Value} {row : Option Nat} (h : A.ownsRow B e size v n xs) (hg : A.grownBy C row) (hr : RowOk A row) : C.ownsRow B e size v n xs := by
  refine h.kept hg ?_
  cases hv : v.ownBlock with
  | none => exact .inl rfl
  | some k =>
    refine .inr (fun e => ?_)
    obtain ⟨_, cs, fr, hc⟩ := own_typ h k hv
    obtain ⟨o, ho, hcell⟩ := hr k e.symm
    rw [hc] at ho
    cases ho
    simp [Obj.isCells] at hcell
theorem ST.row {l : List (Option (Nat × List En))} {o : Value} {A C : World} {row : Option Nat} (h : ST l o A) (hg : A.grownBy C row) (hr : RowOk A row) : ST l o C := fun i p es hi => by
  obtain ⟨h1, h2⟩ := h i p es hi
  obtain ⟨v, hb, _⟩ := h1.pr
  have hb' := blk_row1 hb hg hr
  refine ⟨h1.row hg hr, fun v' hv q hq => ?_⟩
  obtain rfl : v' = v := by have := (hv.inj hb').2; injection this
  have := h2 v' hb q hq
  exact ⟨Nat.lt_of_lt_of_le this.1 hg.size, this.2⟩
theorem LB.row {W : World} {mo : Int} {B : Nat} {books : List (List En)} {k : Nat} {ps : List Nat} {o : Value} {A C : World} {row : Option Nat} (h : LB W mo B books k ps o A) (hg : A.grownBy C row) (hr : ∀ r, row = some r → W.heap.size ≤ r ∧ ∃ o : Obj, A.heap[r]? = some o ∧ o.isCells = false) : LB W mo B books k ps o C :=
  have hk : RowOk A row := fun r e => (hr r e).2
  ⟨h.n, own_row h.own hg hk, h.st.row hg hk, h.c.row hg hr, h.le⟩
/-- the stores, and what is wanted of the first k bidders -/
structure WB (W : World) (mo : Int) (B : Nat) (books : List (List En)) (ps : List Nat) (o : Value) (bm b12 : Nat) (f : Nat → Int) (k : Nat) (A : World) : Prop where
  l : LB W mo B books books.length ps o A
  m : WM A bm k f k
  b : Blk A b12 tM [.map (some bm)]
  w : W.heap.size ≤ bm
  w2 : W.heap.size + 1 < b12
theorem WB.below {W : World} {mo : Int} {B : Nat} {books : List (List En)} {ps : List Nat} {o : Value} {bm b12 : Nat} {f : Nat → Int} {k : Nat} {A C : World} (h : WB W mo B books ps o bm b12 f k A) (hb : Below A.heap.size A C) : WB W mo B books ps o bm b12 f k C := ⟨h.l.below hb, h.m.below hb, h.b.belowS hb, h.w, h.w2⟩
theorem WM.isMap {W : World} {b n k : Nat} {f : Nat → Int} (h : WM W b n f k) : ∃ o : Obj, W.heap[b]? = some o ∧ o.isCells = false := by
  obtain ⟨D, ⟨es, clock, hb, _⟩, _⟩ := h
  exact ⟨_, hb, rfl⟩
theorem WB.skip {W : World} {mo : Int} {B : Nat} {books : List (List En)} {ps : List Nat} {o : Value} {bm b12 : Nat} {f : Nat → Int} {k : Nat} {A : World} (h : WB W mo B books ps o bm b12 f k A) (hf : f k = 0) : WB W mo B books ps o bm b12 f (k + 1) A := by
  obtain ⟨D, ho, h1, h2, h3⟩ := h.m.skip hf
  exact ⟨h.l, ⟨D, ho.mono (by omega), h1, h2, h3⟩, h.b, h.w, h.w2⟩
theorem WB.put {W : World} {mo : Int} {B : Nat} {books : List (List En)} {ps : List Nat} {o : Value} {bm b12 : Nat} {f : Nat → Int} {k : Nat} {A C : World} (h : WB W mo B books ps o bm b12 f k A) (hw : WM C bm (k + 1) f (k + 1)) (hg : A.grownBy C (some bm)) : WB W mo B books ps o bm b12 f (k + 1) C :=
  ⟨h.l.row hg (fun r e => by cases e; exact ⟨h.w, h.m.isMap⟩), hw, blk_row1 h.b hg (fun r e => by cases e; exact h.m.isMap), h.w, h.w2⟩
theorem ST.one {l : List (Option (Nat × List En))} {o : Value} {A C : World} {b : Nat} {t : TypeId} {x : Value} (h : ST l o A) (hb : Blk A b t [x]) (ht : tS ≠ t) (hx : ∀ z, x ≠ .int .u64 z) (hg : A.grownBy C (some b)) : ST l o C := fun i p es hi => by
  obtain ⟨h1, h2⟩ := h i p es hi
  obtain ⟨v, kb, _⟩ := h1.pr
  have kb' := kb.kept hg (by have := blk_ne kb hb ht; simpa using this)
  refine ⟨h1.one hb ht hx hg, fun v' hv q hq => ?_⟩
  obtain rfl : v' = v := by have := (hv.inj kb').2; injection this
  have := h2 v' kb q hq
  exact ⟨Nat.lt_of_lt_of_le this.1 hg.size, this.2⟩
theorem WB.num {W : World} {mo : Int} {B : Nat} {books : List (List En)} {ps : List Nat} {o : Value} {bm b12 : Nat} {f : Nat → Int} {k : Nat} {A : World} (h : WB W mo B books ps o bm b12 f k A) (m : Int) : WB W m B books ps o bm b12 f k (A.setCell ⟨W.heap.size, 0, none⟩ (.int .i64 m)) := by
  have hg := grownBy_setAt A W.heap.size 0 (.int .i64 m)
  have b5 := h.l.c.b5
  have hbm : some bm ≠ some W.heap.size := fun e => by
    injection e with e
    obtain ⟨ob, ho, hc⟩ := h.m.isMap
    rw [e] at ho
    have hb : A.heap[W.heap.size]? = _ := b5
    rw [hb] at ho
    cases ho
    simp [Obj.isCells] at hc
  refine ⟨⟨h.l.n, h.l.own.kept hg ?_, h.l.st.one b5 (by decide) (by simp) hg, ⟨b5.set 0 _, h.l.c.b6.other (p := ⟨W.heap.size, 0, none⟩) (by simp) _, h.l.c.bel.setCell (p := ⟨W.heap.size, 0, none⟩) (Nat.le_refl _) _⟩, h.l.le⟩, h.m.kept hg hbm, h.b.other (p := ⟨W.heap.size, 0, none⟩) (by have := h.w2; simp; omega) _, h.w, h.w2⟩
  cases hv : o.ownBlock with
  | none => exact .inl rfl
  | some q => exact .inr (fun e => own_apart b5 h.l.own (by decide) (hv.trans e))
theorem WB.ps {W : World} {mo : Int} {B : Nat} {books : List (List En)} {ps : List Nat} {o : Value} {bm b12 : Nat} {f : Nat → Int} {k : Nat} {A : World} (h : WB W mo B books ps o bm b12 f k A) : ∃ Ao co, o = .slice Ao books.length co ∧ PS A o (sAt ps books books.length) := by
  obtain ⟨Ao, co, rfl⟩ := own_sl h.l.own
  refine ⟨Ao, co, rfl, Ao, co, by rw [sAt_len], fun i x hx => ?_⟩
  have hi : i < books.length := by have := (List.getElem?_eq_some_iff.1 hx).1; rwa [sAt_len] at this
  have hown := h.l.own
  rcases hown.2 with ⟨h1, h0⟩ | ⟨g, cap, cur, e1, h2, h3, h4, h5, h6, h7⟩
  · omega
  · injection e1 with e1 _ e3
    subst e1; subst e3
    have hb : Blk A g tP cur.toList := by unfold Blk; rw [Array.toArray_toList]; exact h3
    refine ⟨g, 0, rfl, hb.lt, ?_, fun q hq => ?_⟩
    · rw [Nat.zero_add]
      refine hb.cell ?_
      have h8 : (cur.toList.take (books.length * 1))[i]? = some (sV x) := by rw [h7, List.getElem?_map, hx]; rfl
      rw [List.getElem?_take, if_pos (by omega)] at h8
      exact h8
    · subst hq
      exact (h.l.st i q.1 q.2 hx).1
/-- while the report goes on -/
structure QI (w : World) (a n : Int) (va vs : Value) (items : Int) (W' : World) : Prop where
  a : Blk W' w.heap.size 3 [.int .i64 a]
  n : Blk W' (w.heap.size + 1) 3 [.int .i64 n]
  x : Blk W' (w.heap.size + 1 + 1) 67 [va]
  y : Blk W' (w.heap.size + 1 + 1 + 1) 70 [vs]
  t : Blk W' (w.heap.size + 1 + 1 + 2) 32 [.int .u64 items]
  bel : Below w.heap.size w W'
theorem QI.below {w : World} {a n items : Int} {va vs : Value} {A C : World} (h : QI w a n va vs items A) (hb : Below A.heap.size A C) : QI w a n va vs items C := ⟨h.a.belowS hb, h.n.belowS hb, h.x.belowS hb, h.y.belowS hb, h.t.belowS hb, h.bel.trans (hb.mono h.bel.size)⟩
theorem QI.row {w : World} {a n items : Int} {va vs : Value} {A C : World} (h : QI w a n va vs items A) {row : Option Nat} (hg : A.grownBy C row) (hr : ∀ r, row = some r → w.heap.size ≤ r ∧ ∃ o : Obj, A.heap[r]? = some o ∧ o.isCells = false) : QI w a n va vs items C :=
  have k : RowOk A row := fun r e => (hr r e).2
  ⟨blk_row1 h.a hg k, blk_row1 h.n hg k, blk_row1 h.x hg k, blk_row1 h.y hg k, blk_row1 h.t hg k, h.bel.grown hg h.bel.size (fun r e => (hr r e).1)⟩
theorem QI.ownF (w : World) (a n items : Int) (va vs : Value) {b : Nat} (hb : w.heap.size ≤ b) : OwnFrom b (fun (_ : Unit) W' => QI w a n va vs items W') := fun s A C row hs hg hr =>
  hs.row hg (fun r e => ⟨Nat.le_trans hb (hr r e).1, (hr r e).2⟩)
theorem QI.set {w : World} {a n items : Int} {va vs : Value} {A : World} (h : QI w a n va vs items A) (a' n' : Int) : QI w a' n' va vs items ((A.setCell ⟨w.heap.size, 0, none⟩ (.int .i64 a')).setCell ⟨w.heap.size + 1, 0, none⟩ (.int .i64 n')) :=
  ⟨(h.a.set 0 _).other (by simp) _, (h.n.other (by simp) _).set 0 _, (h.x.other (by simp <;> omega) _).other (by simp <;> omega) _, (h.y.other (by simp <;> omega) _).other (by simp <;> omega) _, (h.t.other (by simp <;> omega) _).other (by simp <;> omega) _,
    (h.bel.setCell (p := ⟨w.heap.size, 0, none⟩) (Nat.le_refl _) _).setCell (p := ⟨w.heap.size + 1, 0, none⟩) (by simp) _⟩
/-- slices that are read, a nil one of no capacity -/
def sliceZ {α : Type} (d : Kd α) : Kd (List α) where
  sz := 1
  E := []
  K := fun w xs cs => ∃ A c, cs = [.slice A xs.length c] ∧ xs.length ≤ c ∧ (A = none → c = 0) ∧ d.C w A xs.length xs
  M := fun _ _ _ _ _ => False
  K_len := by
    rintro w x cs ⟨A, c, rfl, _⟩
    rfl
  K_one := by
    rintro w x cs ⟨A, c, rfl, _⟩ u hu
    rw [List.mem_singleton.1 hu]
    rfl
  K_below := by
    rintro w w1 x cs hb ⟨A, c, rfl, hl, hn, hr⟩
    exact ⟨A, c, rfl, hl, hn, Kd.C_below hr hb⟩
  K_of_M := by
    intro w base ok x cs h
    exact h.elim
  M_mono := by
    intro w base ok ok' x cs hok h
    exact h
  M_bound := by
    intro w base ok x cs h
    exact h.elim
  M_move := by
    intro w w1 base ok x cs hm h
    exact h.elim
  M_lower := by
    intro w base base' ok x cs hb h
    exact h
theorem pee_of {α : Type} {d : Kd α} {g : α → En} {W : World} {z : List (List α)} {A : Option Addr} {c : Nat} (hpe : ∀ (x : List α) (A1 : Option Addr) (c1 : Nat), x.length ≤ c1 → (A1 = none → c1 = 0) → d.C W A1 x.length x → PE W (.slice A1 x.length c1) (x.map g)) (hC : (sliceZ d).C W A z.length z) : PEE W (.slice A z.length c) (z.map (fun x => x.map g)) := by
  refine ⟨A, c, by rw [List.length_map], fun i l hl => ?_⟩
  rw [List.getElem?_map] at hl
  cases hq : z[i]? with
  | none => rw [hq] at hl; simp at hl
  | some x =>
    rw [hq] at hl
    obtain rfl : x.map g = l := by simpa using hl
    have hlt := (List.getElem?_eq_some_iff.1 hq).1
    obtain ⟨b, off, rfl, hlt2⟩ := C_spot hC (by omega) Nat.one_pos
    obtain ⟨a, e0, hr⟩ := hC.2.2 (by omega)
    obtain rfl := Option.some.inj e0
    obtain ⟨cs, hl1, ⟨A1, c1, rfl, h1, h2, h3⟩, hc⟩ := hr i x hq
    have hcell := hc 0 _ rfl
    refine ⟨b, off, A1, c1, rfl, hlt2, ?_, ?_⟩
    · rw [addr_add] at hcell
      rw [List.length_map]
      have e : i * (sliceZ d).sz + 0 = i := by show i * 1 + 0 = i; omega
      rw [e] at hcell
      exact hcell
    · rw [List.length_map]
      exact hpe x A1 c1 h1 h2 h3
end Go.Proofs.Ytnlhgnioedalpaa.Pri
