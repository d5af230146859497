/- check: few bids; the stores of books; what is wanted. -/
import Derived.Test.YtnlhgnioedalpaaChkAl
import Derived.Test.YtnlhgnioedalpaaChkD
import Derived.Test.YtnlhgnioedalpaaPriX
import Derived.Maps.OwnOps
set_option linter.unusedSimpArgs false
set_option linter.unusedVariables false
namespace Go.Proofs.Ytnlhgnioedalpaa.Pri
open Go.RowKit Go.Proofs.YtnlhgnioedalpaaW.PrintWords Go.Proofs.Ytnlhgnioedalpaa.PPricePlays Go.Maps
attribute [local go_sem] Oper.semAt_some

def fewB (L : List (List En)) (n m : Int) : Bool := decide ((L.length : Int) ≤ n) && L.all (fun l => decide ((l.length : Int) ≤ m))
set_option maxRecDepth 100000 in
set_option maxHeartbeats 4000000 in
theorem few_any (W : World) (v : Value) (L : List (List En)) (h : PEE W v L) (n m : Int) (hl : n ≤ 1000000) :
    Calls Try.prog 39 #[v, .int .i64 n, .int .i64 m] W fun e w' => e = .returned (.bool (fewB L n m)) ∧ Below W.heap.size W w' := by
  have H := Lib.hid h
  obtain ⟨A, c, rfl, -⟩ := h
  obtain ⟨R, hR⟩ : ∃ R, fewB L n m = R := ⟨_, rfl⟩
  have HR := Lib.hid hR
  rw [hR]
  clear hR
  by_cases hn : n < (L.length : Int)
  · have hr : R = false := by rw [← HR.out]; unfold fewB; rw [decide_eq_false (by omega)]; rfl
    have HRR := Lib.hid hr
    clear hr
    go_enter Try.func39, Try.ntmps39
    go_wp2_with fail
    go_ret
    exact ⟨by have := HRR.out; subst this; rfl, Below.refl _ W⟩
  · have hr : R = L.all (fun l => decide ((l.length : Int) ≤ m)) := by rw [← HR.out]; unfold fewB; rw [decide_eq_true (by omega), Bool.true_and]
    have HRR := Lib.hid hr
    clear hr
    go_enter Try.func39, Try.ntmps39
    go_wp2_with fail
    go_loopw [7] (fun i wr => ∃ k : Nat, k ≤ L.length ∧ i = .int .i64 (k : Int) ∧ Below W.heap.size W wr ∧ ∀ j l, j < k → L[j]? = some l → (l.length : Int) ≤ m) (fun i _ => L.length - (intOf i).toNat)
    case atStart => exact ⟨0, Nat.zero_le _, rfl, Below.refl _ W, fun j l hj => by omega⟩
    case round =>
      obtain ⟨k, hk, rfl, hB, hno⟩ := hrel
      have HNO := Lib.hid hno
      clear hno
      by_cases hlt : k < L.length
      · obtain ⟨l, hx⟩ : ∃ x, L[k] = x := ⟨_, rfl⟩
        have hx2 : L[k]? = some l := by rw [List.getElem?_eq_getElem hlt, hx]
        obtain ⟨b3, off3, c4, A1, c1, e1, hlb, r0, hpe⟩ := (H.out.below hB).at hx2
        obtain ⟨rfl, rfl⟩ : A = some ⟨b3, off3, none⟩ ∧ c = c4 := by injection e1 with e1 e2 e3; exact ⟨e1, e3⟩
        have HX := Lib.hid hx2
        clear hx hx2 e1 hpe
        by_cases hm : m < (l.length : Int)
        · have hr : R = false := by
            rw [HRR.out, List.all_eq_false]
            exact ⟨l, List.mem_of_getElem? HX.out, by simpa using hm⟩
          have HRF := Lib.hid hr
          clear hr
          go_wp2_with fail
          go_ret
          exact ⟨by have := HRF.out; subst this; rfl, hB⟩
        · go_wp2_with fail
          go_roundw
          case rel => exact ⟨k + 1, by omega, by simp, hB, fun j l' hj hl' => by
            rcases Nat.lt_succ_iff_lt_or_eq.1 hj with h | rfl
            · exact HNO.out j l' h hl'
            · rw [HX.out] at hl'; cases hl'; omega⟩
          case measure => simp [intOf]; omega
      · obtain rfl : k = L.length := by omega
        have hr : R = true := by
          rw [HRR.out, List.all_eq_true]
          intro l hl
          obtain ⟨j, hj, rfl⟩ := List.getElem_of_mem hl
          simpa using HNO.out j _ hj (List.getElem?_eq_getElem hj)
        have HRT := Lib.hid hr
        clear hr
        go_wp2_with fail
        go_ret
        exact ⟨by have := HRT.out; subst this; rfl, hB⟩
/-- the books' stores: none of those in a fourth place -/
def sAt (ps : List Nat) (books : List (List En)) (k : Nat) : List (Option (Nat × List En)) := (List.range k).map (fun i => if i % 4 = 3 then none else some (ps.getD i 0, ofL (books.getD i [])))
/-- what stands in the row -/
def sV (o : Option (Nat × List En)) : Value := .pointer (o.map (fun q => ⟨q.1, 0, none⟩))
/-- the slice of a store is none, or lies from b on -/
def OffN (W : World) (p b : Nat) : Prop := ∀ v, Blk W p tS [v] → ∀ q, v.ownBlock = some q → b ≤ q ∧ q < W.heap.size
theorem OffN.below {A B : World} {p b : Nat} (h : OffN A p b) (hp : p < A.heap.size) (hb : Below A.heap.size A B) : OffN B p b := fun v hv q hq => by
  have := h v ((hb.block p hp).symm.trans hv) q hq
  exact ⟨this.1, Nat.lt_of_lt_of_le this.2 hb.size⟩
theorem OffN.step {A B : World} {p b : Nat} (h : OffN A p b) (hn : NF A B p) (hs : A.heap.size ≤ B.heap.size) (hb : b ≤ A.heap.size) : OffN B p b := fun v hv q hq => by
  rcases hn v hv with h1 | h1
  · have := h1 q hq; exact ⟨by omega, this.2⟩
  · have := h v h1 q hq; exact ⟨this.1, by omega⟩
set_option maxRecDepth 100000 in
set_option maxHeartbeats 4000000 in
theorem of_anyF (W : World) (v : Value) (es : List En) (h : PE W v es) (hU : UE es) (hl : es.length ≤ 1000000) :
    Calls Try.prog 23 #[v] W fun e w' => e = .returned (.pointer (some ⟨W.heap.size, 0, none⟩)) ∧ SR w' W.heap.size (ofL es) ∧ (ofL es).length ≤ es.length ∧ Below W.heap.size W w' ∧ OffN w' W.heap.size W.heap.size := by
  have H := Lib.hid h
  obtain ⟨A, c, rfl, -⟩ := h
  have HS0 := Lib.hid (show SR (W.alloc (.cells #[.slice none 0 0] tS)) W.heap.size (ofL (es.take 0)) ∧ Below W.heap.size W (W.alloc (.cells #[.slice none 0 0] tS)) ∧ OffN (W.alloc (.cells #[.slice none 0 0] tS)) W.heap.size W.heap.size from
    ⟨⟨⟨_, Blk.new W _ _, pe_nil _⟩, by intro e he; simp [ofL] at he, Tight.nil, by simp [ofL]⟩, (Below.refl _ W).alloc (Nat.le_refl _) _, fun v hv q hq => by have := (hv.inj (Blk.new W [.slice none 0 0] tS)).2; injection this with e; subst e; cases hq⟩)
  go_enter Try.func23, Try.ntmps23
  go_wp2_with fail
  go_loopw [10] (fun i wr => ∃ k : Nat, k ≤ es.length ∧ i = .int .i64 (k : Int) ∧ SR wr W.heap.size (ofL (es.take k)) ∧ (ofL (es.take k)).length ≤ k ∧ Below W.heap.size W wr ∧ OffN wr W.heap.size W.heap.size) (fun i _ => es.length - (intOf i).toNat)
  case atStart => exact ⟨0, Nat.zero_le _, rfl, HS0.out.1, by simp [ofL], HS0.out.2.1, HS0.out.2.2⟩
  case round =>
    clear HS0
    obtain ⟨k, hk, rfl, hS, hlen, hB, hO⟩ := hrel
    by_cases hlt : k < es.length
    · obtain ⟨⟨x, y⟩, hx⟩ : ∃ x, es[k] = x := ⟨_, rfl⟩
      have hx2 : es[k]? = some (x, y) := by rw [List.getElem?_eq_getElem hlt, hx]
      have hgd : es.getD k dE = (x, y) := by rw [List.getD_eq_getElem?_getD, hx2]; rfl
      have hux : U x := hU _ (List.mem_of_getElem? hx2)
      obtain ⟨b3, off3, c4, e1, hlb, r0, r1⟩ := (H.out.below hB).at hx2
      obtain ⟨rfl, rfl⟩ : A = some ⟨b3, off3, none⟩ ∧ c = c4 := by injection e1 with e1 e2 e3; exact ⟨e1, e3⟩
      simp only at r0 r1
      have hal : Below wr.heap.size wr (wr.alloc (.cells #[.int .u64 x, .int .i64 y] tE)) := (Below.refl _ wr).alloc (Nat.le_refl _) _
      have hot := ofL_take hlt
      rw [hgd] at hot
      have HPUT := Lib.hid (sput_anyF _ W.heap.size (ofL (es.take k)) x y (hS.below hal) hux)
      have HS := Lib.hid (hS.below hal); have HOT := Lib.hid hot; have HB := Lib.hid (hB.trans (hal.mono hB.size)); have HOF := Lib.hid (hO.below hS.pr.lt hal)
      clear hx hx2 hgd e1 hal hot hS hB hO
      go_wp2_with fail
      refine HPUT.out.mono ?_; rintro e w1 ⟨rfl, hp1, hg1, hf1⟩
      have HN := Lib.hid (show SR w1 W.heap.size (ofL (es.take (k + 1))) ∧ (ofL (es.take (k + 1))).length ≤ k + 1 ∧ Below W.heap.size W w1 ∧ OffN w1 W.heap.size W.heap.size from by
        have hpl := put_len (ofL (es.take k)) x y
        rw [HOT.out]
        exact ⟨HS.out.put hux hp1 (by omega), by omega, HB.out.grown hg1 HB.out.size (fun r e => by cases e; exact Nat.le_refl _), HOF.out.step hf1 hg1.size HB.out.size⟩)
      clear hp1 hg1 hf1 HPUT
      go_wp2_with fail
      go_roundw
      case rel => exact ⟨k + 1, by omega, by simp, HN.out.1, HN.out.2.1, HN.out.2.2.1, HN.out.2.2.2⟩
      case measure => simp [intOf]; omega
    · obtain rfl : k = es.length := by omega
      rw [List.take_length] at hS hlen
      go_wp2_with fail
      go_ret
      exact ⟨rfl, hS, hlen, hB, hO⟩
/-- the stores of a list stand, none of them in the row's block -/
def ST (l : List (Option (Nat × List En))) (o : Value) (w : World) : Prop := ∀ (i : Nat) p es, l[i]? = some (some (p, es)) → SR w p es ∧ ∀ v, Blk w p tS [v] → ∀ q, v.ownBlock = some q → q < w.heap.size ∧ o.ownBlock ≠ some q
theorem ST.below {l : List (Option (Nat × List En))} {o : Value} {A B : World} (h : ST l o A) (hb : Below A.heap.size A B) : ST l o B := fun i p es hi => by
  obtain ⟨h1, h2⟩ := h i p es hi
  refine ⟨h1.below hb, fun v hv q hq => ?_⟩
  have := h2 v ((hb.block p h1.pr.lt).symm.trans hv) q hq
  exact ⟨Nat.lt_of_lt_of_le this.1 hb.size, this.2⟩
theorem ST.step {l : List (Option (Nat × List En))} {o o' : Value} {A B : World} {Bs n : Nat} {xs : List Value} (h : ST l o A) (hown : A.ownsRow Bs 25 1 o n xs) (hg : A.grownBy B o.ownBlock) (hloc : ∀ q, o'.ownBlock = some q → o.ownBlock = some q ∨ A.heap.size ≤ q) : ST l o' B := fun i p es hi => by
  obtain ⟨hs, hoff⟩ := h i p es hi
  obtain ⟨v, hb, hpe⟩ := hs.pr
  have hb' := hb.kept hg (fun e => own_apart hb hown (by decide) e.symm)
  have hK : Kept A B (fun i => o.ownBlock = some i) := ⟨hg.size, fun i hi hn => hg.block i hi (fun e => hn e.symm)⟩
  refine ⟨⟨⟨v, hb', hpe.kept hK (fun q hq => (hoff v hb q hq).2)⟩, hs.ue, hs.ti, hs.len⟩, fun v' hv' q hq => ?_⟩
  obtain rfl : v' = v := by have := (hv'.inj hb').2; injection this
  have := hoff v' hb q hq
  refine ⟨Nat.lt_of_lt_of_le this.1 hg.size, fun e => ?_⟩
  rcases hloc q e with h3 | h3
  · exact this.2 h3
  · omega
theorem ST.snoc {l : List (Option (Nat × List En))} {o : Value} {w : World} {x : Option (Nat × List En)} (h : ST l o w) (hx : ∀ p es, x = some (p, es) → SR w p es ∧ ∀ v, Blk w p tS [v] → ∀ q, v.ownBlock = some q → q < w.heap.size ∧ o.ownBlock ≠ some q) : ST (l ++ [x]) o w := fun i p es hi => by
  rw [List.getElem?_append] at hi
  split at hi
  · exact h i p es hi
  · rename_i hlt
    have h0 : i - l.length = 0 := by have := (List.getElem?_eq_some_iff.1 hi).1; simp at this; omega
    rw [h0] at hi
    exact hx p es (by simpa using hi)
theorem sAt_succ (ps : List Nat) (books : List (List En)) (k : Nat) : sAt ps books (k + 1) = sAt ps books k ++ [if k % 4 = 3 then none else some (ps.getD k 0, ofL (books.getD k []))] := by
  unfold sAt
  rw [List.range_succ, List.map_append]
  rfl
theorem sAt_app {ps : List Nat} {books : List (List En)} {k : Nat} (h : k ≤ ps.length) (p : Nat) : sAt (ps ++ [p]) books k = sAt ps books k := by
  unfold sAt
  refine List.map_congr_left (fun i hi => ?_)
  have hi := List.mem_range.1 hi
  rw [show (ps ++ [p]).getD i 0 = ps.getD i 0 from by simp [List.getD, List.getElem?_append, show i < ps.length by omega]]
theorem sAt_len (ps : List Nat) (books : List (List En)) (k : Nat) : (sAt ps books k).length = k := by simp [sAt]
theorem i64_and3 (b : Nat) (hb : b < 4611686018427387904) : bits .and .i64 (b : Int) 3 = ((b % 4 : Nat) : Int) := by
  show IntKind.i64.wrap ((BitVec.ofInt 64 (b : Int) &&& BitVec.ofInt 64 3).toNat : Nat) = ((b % 4 : Nat) : Int)
  rw [BitVec.toNat_and, show (BitVec.ofInt 64 3).toNat = 2 ^ 2 - 1 from by decide, Nat.and_two_pow_sub_one_eq_mod, IntKind.wrap_i64, BitVec.toNat_ofInt]
  omega
/-- what the document asks of a bidder -/
def xAt (books : List (List En)) (i : Nat) : List En := if i < books.length ∧ i % 4 ≠ 3 then ofL (books.getD i []) else []
def wErr (all books : List (List En)) (items : Int) (i : Nat) : Int := allN (all.getD i []) (xAt books i) items
theorem esAt_sAt (ps : List Nat) (books : List (List En)) (i : Nat) : esAt (sAt ps books books.length) i = xAt books i := by
  unfold esAt xAt sAt
  rw [List.getElem?_map]
  by_cases h : i < books.length
  · rw [List.getElem?_range h, Option.map_some]
    by_cases h3 : i % 4 = 3
    · rw [if_pos h3, if_neg (by omega)]
    · rw [if_neg h3, if_pos ⟨h, h3⟩]
  · rw [List.getElem?_eq_none (by simpa using h), if_neg (by omega)]
    rfl
theorem errAt_sAt (all books : List (List En)) (ps : List Nat) (items : Int) (i : Nat) : errAt all (sAt ps books books.length) items i = wErr all books items i := by
  unfold errAt wErr
  rw [esAt_sAt]
def cntE (f : Nat → Int) (k : Nat) : Nat := (List.range k).countP (fun i => decide (f i ≠ 0))
theorem cntE_succ (f : Nat → Int) (k : Nat) : cntE f (k + 1) = cntE f k + if f k ≠ 0 then 1 else 0 := by
  unfold cntE
  rw [List.range_succ, List.countP_append]
  by_cases h : f k = 0 <;> simp [h]
theorem cntE_mono (f : Nat → Int) {k m : Nat} (h : k ≤ m) : cntE f k ≤ cntE f m := by
  induction m with
  | zero => obtain rfl : k = 0 := by omega
            exact Nat.le_refl _
  | succ m ih =>
    by_cases hk : k = m + 1
    · rw [hk]; exact Nat.le_refl _
    · have := ih (by omega)
      rw [cntE_succ]; omega
def lastE (f : Nat → Int) : Nat → Int
  | 0 => -1
  | k + 1 => if f k ≠ 0 then (k : Int) else lastE f k
theorem lastE_lt (f : Nat → Int) (k : Nat) : -1 ≤ lastE f k ∧ lastE f k < (k : Int) := by
  induction k with
  | zero => exact ⟨by simp [lastE], by simp [lastE]⟩
  | succ k ih =>
    unfold lastE
    split
    · omega
    · omega
theorem lastE_no (f : Nat → Int) (k j : Nat) (h1 : lastE f k < (j : Int)) (h2 : j < k) : f j = 0 := by
  induction k with
  | zero => omega
  | succ k ih =>
    unfold lastE at h1
    split at h1
    · omega
    · rename_i hk
      by_cases hjk : j = k
      · subst hjk; simpa using hk
      · exact ih h1 (by omega)
/-- what is wanted, in a map -/
def WM (W : World) (b n : Nat) (f : Nat → Int) (k : Nat) : Prop := ∃ D : DataW Unit, W.ownsMap Try.prog 3 (plainElem Try.prog 3) b n D ∧ (∀ i : Nat, D.atKey (.int .i64 (i : Int)) (.lit (.int .i64 0)) = .lit (.int .i64 (if i < k then f i else 0))) ∧ (∀ i : Nat, k ≤ i → Maps.has D (.int .i64 (i : Int)) = false) ∧ Maps.size D = cntE f k
theorem law3 : Keyed Try.prog 3 := int_keyed Try.underlying3
theorem zero3 (w : World) : (zeroValue 3).run Try.prog w = .ok (.int .i64 0) w := by kernel_rfl
theorem nat_wf {i : Nat} (h : i ≤ 1000000) : (Lit.int .i64 (i : Int)).wf = true := by
  show (decide (IntKind.i64.min ≤ (i : Int)) && decide ((i : Int) ≤ IntKind.i64.max)) = true
  have h1 : IntKind.i64.min = -9223372036854775808 := by decide
  have h2 : IntKind.i64.max = 9223372036854775807 := by decide
  rw [h1, h2, decide_eq_true (by omega), decide_eq_true (by omega)]
  rfl
theorem look_int {P : Program} {t k e : TypeId} {w : World} {b n : Nat} {D : DataW Unit} (h : w.ownsMap P k (plainElem P e) b n D) (K : Keyed P k) (ht : P.underlying t = some (.map k e)) (he : P.underlying e = some (.int .i64)) (hz : (zeroValue e).run P w = .ok (.int .i64 0) w)
    {key : Value} {kl : Lit} (hkey : keyOf P k key = some kl) {x : Int} (hx : D.atKey kl (.lit (.int .i64 0)) = .lit (.int .i64 x)) : (Instr.lookup t (.map (some b)) key false).run P w = .ok (.int .i64 x) w := by
  obtain ⟨c, hrun, hc, _⟩ := h.lookup_int K ht he hz hkey
  have h2 := hx.symm.trans hc
  injection h2 with h2
  injection h2 with h2 h3
  subst h3
  exact hrun
set_option maxRecDepth 100000 in
theorem WM.look {W : World} {b n : Nat} {f : Nat → Int} {k : Nat} (h : WM W b n f k) {i : Nat} (hi : i ≤ 1000000) {x : Int} (hx : (if i < k then f i else 0) = x) : (Instr.lookup 71 (.map (some b)) (.int .i64 (i : Int)) false).run Try.prog W = .ok (.int .i64 x) W := by
  obtain ⟨D, ho, hD, _⟩ := h
  exact look_int ho law3 Try.underlying71 Try.underlying3 (zero3 W) (keyOf_int_mk Try.underlying3 (nat_wf hi)) (by rw [hD i, hx])
theorem WM.kept {W W' : World} {b n : Nat} {f : Nat → Int} {k : Nat} {row : Option Nat} (h : WM W b n f k) (hg : W.grownBy W' row) (hne : some b ≠ row) : WM W' b n f k := by
  obtain ⟨D, ho, hD⟩ := h
  exact ⟨D, ho.kept hg hne, hD⟩
theorem WM.lt {W : World} {b n : Nat} {f : Nat → Int} {k : Nat} (h : WM W b n f k) : b < W.heap.size := by
  obtain ⟨D, ho, _⟩ := h
  exact ho.lt
theorem WM.below {W W' : World} {b n : Nat} {f : Nat → Int} {k : Nat} (h : WM W b n f k) (hb : Below W.heap.size W W') : WM W' b n f k := h.kept (gb_none hb) (by simp)
theorem WM.made (W : World) (f : Nat → Int) : WM (W.alloc (.map #[] 0)) W.heap.size 0 f 0 := ⟨_, World.ownsMap_made W _ _ _, fun i => rfl, fun i _ => rfl, rfl⟩
theorem WM.skip {W : World} {b n : Nat} {f : Nat → Int} {k : Nat} (h : WM W b n f k) (hk : f k = 0) : WM W b n f (k + 1) := by
  obtain ⟨D, ho, hD, hh, hs⟩ := h
  refine ⟨D, ho, fun i => ?_, fun i hi => hh i (by omega), by rw [hs, cntE_succ, if_neg (by simpa using hk)]; rfl⟩
  rw [hD i]
  by_cases h1 : i < k
  · rw [if_pos h1, if_pos (by omega)]
  · by_cases h2 : i = k
    · subst h2; rw [if_neg h1, if_pos (by omega), hk]
    · rw [if_neg h1, if_neg (by omega)]
theorem WM.put {D : DataW Unit} {f : Nat → Int} {k : Nat} (hT : Tidy D) (hk : f k ≠ 0) (hD : ∀ i : Nat, D.atKey (.int .i64 (i : Int)) (.lit (.int .i64 0)) = .lit (.int .i64 (if i < k then f i else 0))) (hh : ∀ i : Nat, k ≤ i → Maps.has D (.int .i64 (i : Int)) = false) (hs : Maps.size D = cntE f k) :
    (∀ i : Nat, (D.put (.int .i64 (k : Int)) (.lit (.int .i64 (f k)))).atKey (.int .i64 (i : Int)) (.lit (.int .i64 0)) = .lit (.int .i64 (if i < k + 1 then f i else 0))) ∧ (∀ i : Nat, k + 1 ≤ i → Maps.has (D.put (.int .i64 (k : Int)) (.lit (.int .i64 (f k)))) (.int .i64 (i : Int)) = false) ∧ Maps.size (D.put (.int .i64 (k : Int)) (.lit (.int .i64 (f k)))) = cntE f (k + 1) := by
  refine ⟨fun i => ?_, fun i hi => ?_, ?_⟩
  · by_cases h2 : i = k
    · subst h2
      rw [atKey_put_same hT.isMap (isKey_int _ _), if_pos (by omega)]
    · rw [atKey_put_other (fun e => h2 (by injection e with _ e; omega)), hD i]
      by_cases h1 : i < k
      · rw [if_pos h1, if_pos (by omega)]
      · rw [if_neg h1, if_neg (by omega)]
  · rw [has_put_other (fun e => by injection e with _ e; omega)]
    exact hh i (by omega)
  · rw [size_put hT, hh k (Nat.le_refl _), hs, cntE_succ, if_pos hk]
    rfl
end Go.Proofs.Ytnlhgnioedalpaa.Pri
