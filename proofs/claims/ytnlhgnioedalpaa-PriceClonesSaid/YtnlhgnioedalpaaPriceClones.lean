/- PriceClones: a clone goes its own way. -/
import Derived.Test.YtnlhgnioedalpaaPriR
import Derived.Test.YtnlhgnioedalpaaPriW
import Derived.Test.YtnlhgnioedalpaaPriceGrows
set_option linter.unusedSimpArgs false
set_option linter.unusedVariables false
namespace Go.Proofs.Ytnlhgnioedalpaa.Pri
open Go.RowKit Go.Proofs.YtnlhgnioedalpaaW.PrintWords Go.Proofs.Ytnlhgnioedalpaa.PPricePlays
attribute [local go_sem] Oper.semAt_some

theorem i64_and127r (b : Int) : 0 ≤ bits .and .i64 b 127 ∧ bits .and .i64 b 127 ≤ 127 := by
  show 0 ≤ IntKind.i64.wrap ((BitVec.ofInt 64 b &&& BitVec.ofInt 64 127).toNat : Nat) ∧ IntKind.i64.wrap ((BitVec.ofInt 64 b &&& BitVec.ofInt 64 127).toNat : Nat) ≤ 127
  rw [BitVec.toNat_and, show (BitVec.ofInt 64 127).toNat = 2 ^ 7 - 1 from by decide, Nat.and_two_pow_sub_one_eq_mod, IntKind.wrap_i64]
  omega
theorem blk_ne {W : World} {a b : Nat} {t u : TypeId} {l m : List Value} (h : Blk W a t l) (k : Blk W b u m) (hn : t ≠ u) : a ≠ b := fun e => by
  subst e
  exact hn (h.inj k).1
/-- the result's cell and that of the number asked for -/
structure C0 (W : World) (mo : Int) (W' : World) : Prop where
  b5 : Blk W' W.heap.size 3 [.int .i64 mo]
  b6 : Blk W' (W.heap.size + 1) 4 [.bool false]
  bel : Below W.heap.size W W'
theorem C0.below {W : World} {mo : Int} {A B : World} (h : C0 W mo A) (hb : Below A.heap.size A B) : C0 W mo B := ⟨h.b5.belowS hb, h.b6.belowS hb, h.bel.trans (hb.mono h.bel.size)⟩
theorem C0.row {W : World} {mo : Int} {A B : World} (h : C0 W mo A) {row : Option Nat} (hg : A.grownBy B row) (hr : ∀ r, row = some r → W.heap.size ≤ r ∧ ∃ o : Obj, A.heap[r]? = some o ∧ o.isCells = false) : C0 W mo B :=
  have k : RowOk A row := fun r e => (hr r e).2
  ⟨blk_row1 h.b5 hg k, blk_row1 h.b6 hg k, h.bel.grown hg h.bel.size (fun r e => (hr r e).1)⟩
theorem C0.turn {W : World} {mo : Int} {A B : World} {q : Nat} {m : List En} (h : C0 W mo A) (hq : PR A q m) (hw : W.heap.size ≤ q) (hg : A.grownBy B (some q)) : C0 W mo B := by
  obtain ⟨v, hb, _⟩ := hq
  exact ⟨h.b5.kept hg (by have := blk_ne h.b5 hb (by decide); simpa using this), h.b6.kept hg (by have := blk_ne h.b6 hb (by decide); simpa using this), h.bel.grown hg h.bel.size (fun r e => by cases e; exact hw)⟩
/-- and the store, and what it was -/
structure CK (W : World) (p b8 : Nat) (v1 : Value) (P : List En) (mo : Int) (W' : World) : Prop where
  c : C0 W mo W'
  bw : Blk W' b8 tL [v1]
  lt : W.heap.size + 1 < b8
  p : SR W' p P
  v : PE W' v1 P
theorem CK.below {W : World} {p b8 : Nat} {v1 : Value} {P : List En} {mo : Int} {A B : World} (h : CK W p b8 v1 P mo A) (hb : Below A.heap.size A B) : CK W p b8 v1 P mo B :=
  ⟨h.c.below hb, h.bw.belowS hb, h.lt, h.p.below hb, h.v.below hb⟩
theorem CK.row {W : World} {p b8 : Nat} {v1 : Value} {P : List En} {mo : Int} {A B : World} (h : CK W p b8 v1 P mo A) {row : Option Nat} (hg : A.grownBy B row) (hr : ∀ r, row = some r → W.heap.size ≤ r ∧ ∃ o : Obj, A.heap[r]? = some o ∧ o.isCells = false) : CK W p b8 v1 P mo B :=
  have k : RowOk A row := fun r e => (hr r e).2
  ⟨h.c.row hg hr, blk_row1 h.bw hg k, h.lt, h.p.row hg k, h.v.row hg k⟩
theorem CK.turn {W : World} {p b8 q : Nat} {v1 : Value} {P m : List En} {mo : Int} {A B : World} (h : CK W p b8 v1 P mo A) (hq : SR A q m) (hw : W.heap.size ≤ q) (hne : p ≠ q) (hg : A.grownBy B (some q)) : CK W p b8 v1 P mo B := by
  have h2 := h.p.turn hq hne hg
  have h1 := h.c.turn hq.pr hw hg
  obtain ⟨u, hb, hpe⟩ := hq.pr
  obtain ⟨A2, c2, rfl, -⟩ := hpe
  exact ⟨h1, h.bw.kept hg (by have := blk_ne h.bw hb (by decide); simpa using this), h.lt, h2, h.v.turn hb hg⟩
theorem PE.one {W W' : World} {v : Value} {l : List En} {b : Nat} {t : TypeId} {x : Value} (h : PE W v l) (hb : Blk W b t [x]) (hx : ∀ z, x ≠ .int .u64 z) (hg : W.grownBy W' (some b)) : PE W' v l := by
  have hat := fun j q (hj : l[j]? = some q) => h.at hj
  obtain ⟨A, c, rfl, h1, h2, h3⟩ := h
  refine ⟨A, c, rfl, h1, h2, h3.1, h3.2.1, fun hpos => ?_⟩
  obtain ⟨a, rfl, hr⟩ := h3.2.2 hpos
  obtain ⟨b', off, c', e, hlt, r0, _⟩ := hat 0 _ (List.getElem?_eq_getElem (by simpa using hpos))
  injection e with e _ _
  injection e with e
  subst e
  have hne : b' ≠ b := fun e => by
    subst e
    have hrow := cell_of_row W b' (off + 0 * 2) [x].toArray t (0, 0) hb
    rw [hrow] at r0
    obtain ⟨o, ho⟩ : ∃ o, off + 0 * 2 = o := ⟨_, rfl⟩
    rw [ho] at r0
    cases o with
    | zero => exact hx _ (by simpa using r0)
    | succ o => simp at r0
  refine ⟨_, rfl, fun j q hq => ?_⟩
  obtain ⟨cs, hl, hk, hc⟩ := hr j q hq
  obtain rfl := k41_open hk
  refine ⟨_, hl, k41_mk W' q, fun i u hu => ?_⟩
  have hcu := hc i u hu
  rw [addr_add] at hcu ⊢
  have e : W'.cell? ⟨b', off + (j * k41.sz + i), none⟩ = W.cell? ⟨b', off + (j * k41.sz + i), none⟩ := by
    unfold World.cell?
    rw [hg.block _ hlt (by simpa using hne)]
  rw [e]; exact hcu
theorem SR.one {W W' : World} {p : Nat} {l : List En} {b : Nat} {t : TypeId} {x : Value} (h : SR W p l) (hb : Blk W b t [x]) (ht : tS ≠ t) (hx : ∀ z, x ≠ .int .u64 z) (hg : W.grownBy W' (some b)) : SR W' p l := by
  obtain ⟨v, kb, hpe⟩ := h.pr
  exact ⟨⟨v, kb.kept hg (by have := blk_ne kb hb ht; simpa using this), hpe.one hb hx hg⟩, h.ue, h.ti, h.len⟩
theorem CK.num {W : World} {p b8 : Nat} {v1 : Value} {P : List En} {mo : Int} {A : World} (h : CK W p b8 v1 P mo A) (m : Int) : CK W p b8 v1 P m (A.setCell ⟨W.heap.size, 0, none⟩ (.int .i64 m)) := by
  have hg := grownBy_setAt A W.heap.size 0 (.int .i64 m)
  have b5 := h.c.b5
  exact ⟨⟨b5.set 0 _, h.c.b6.other (p := ⟨W.heap.size, 0, none⟩) (by simp) _, h.c.bel.setCell (p := ⟨W.heap.size, 0, none⟩) (Nat.le_refl _) _⟩, h.bw.other (p := ⟨W.heap.size, 0, none⟩) (by have := h.lt; simp; omega) _, h.lt, h.p.one b5 (by decide) (by simp) hg, h.v.one b5 (by simp) hg⟩
/-- while entries go on: how many there were -/
def RI (w : World) (p : Nat) (x : Int) (W' : World) : Prop := Blk W' w.heap.size 3 [.int .i64 x] ∧ Blk W' (w.heap.size + 1) 25 [.pointer (some ⟨p, 0, none⟩)] ∧ Below w.heap.size w W'
theorem RI.ownF (w : World) (p : Nat) (x : Int) {b : Nat} (hb : w.heap.size ≤ b) : OwnFrom b (fun (_ : Unit) W' => RI w p x W') := fun s A B row hs hg hr => by
  have k : RowOk A row := fun r e => (hr r e).2
  exact ⟨blk_row1 hs.1 hg k, blk_row1 hs.2.1 hg k, hs.2.2.grown hg hs.2.2.size (fun r e => Nat.le_trans hb (hr r e).1)⟩
/-- a row of the call's own, of entries whose asks are numbers -/
def AR (W : World) (B : Nat) (A : Option Addr) (n : Nat) : Prop := n = 0 ∨ ∃ g L, A = some ⟨g, 0, none⟩ ∧ B ≤ g ∧ Blk W g tE L ∧ ∀ i, i < n → ∃ y, L[i * 2 + 1]? = some (.int .i64 y)
theorem AR.own {W : World} {B : Nat} {A : Option Addr} {c : Nat} {es : List En} (h : W.ownsRow B tE 2 (.slice A es.length c) es.length (cellsOf cE es)) : AR W B A es.length := by
  rcases h.2 with ⟨_, h0⟩ | ⟨g, cap, cur, e, hB, hg, _, _, _, ht⟩
  · exact .inl h0
  · injection e with e1 e2 e3
    refine .inr ⟨g, cur.toList, e1, hB, by unfold Blk; rw [Array.toArray_toList]; exact hg, fun i hi => ⟨(es.getD i dE).2, ?_⟩⟩
    have h1 := cellsOf_at cE_length es dE (i := i) (j := 1) hi (by omega)
    rw [← ht, List.getElem?_take, if_pos (by omega)] at h1
    rw [h1]; rfl
theorem AR.set {W : World} {B n i : Nat} {A : Option Addr} {g : Nat} (h : AR W B A n) (hA : A = some ⟨g, 0, none⟩) (hi : i < n) (y : Int) : AR (W.setCell ⟨g, i * 2 + 1, none⟩ (.int .i64 y)) B A n := by
  rcases h with h0 | ⟨g', L, e, hB, hb, hl⟩
  · omega
  · subst hA
    injection e with e
    injection e with e
    subst e
    refine .inr ⟨g, _, rfl, hB, hb.set (i * 2 + 1) _, fun j hj => ?_⟩
    rw [List.getElem?_set]
    by_cases hij : i * 2 + 1 = j * 2 + 1
    · obtain ⟨z, hz⟩ := hl i hi
      rw [if_pos hij, if_pos (List.getElem?_eq_some_iff.1 hz).1]
      exact ⟨y, rfl⟩
    · rw [if_neg hij]
      exact hl j hj
theorem AR.at {W : World} {B n i : Nat} {A : Option Addr} (h : AR W B A n) (hi : i < n) : ∃ g y, A = some ⟨g, 0, none⟩ ∧ B ≤ g ∧ g < W.heap.size ∧ W.cell? ⟨g, i * 2 + 1, none⟩ = some (.int .i64 y) ∧ W.frozen? ⟨g, i * 2 + 1, none⟩ = false := by
  rcases h with h0 | ⟨g, L, rfl, hB, hb, hl⟩
  · omega
  · obtain ⟨y, hy⟩ := hl i hi
    exact ⟨g, y, rfl, hB, hb.lt, hb.cell hy, hb.frozen _⟩
/-- the clone behind k puts -/
def clL (P more : List En) (k : Nat) : List En := ofL (P ++ more.take k)
theorem clL_ge {P more : List En} (hP : Tight P) {e : En} (he : e ∈ P) (k : Nat) : e.2 ≤ askL (clL P more k) e.1 := by
  obtain ⟨b1, b2, b3, b4⟩ := hP.ok e he
  exact ask_ofL_ge.2 (.inr ⟨e, List.mem_append_left _ he, b2, b4, wi_refl _, Int.le_refl _⟩)
theorem results_cell1 {fn : Func} {p : Tmp} {ty : TypeId} (h : fn.results = #[.cell p ty]) (tmps : Array Value) (P : Program) (w : World) :
    (results fn tmps).run P w = ((asAddr (tmps.getD p undef)).run P w).andThen fun a w₁ => (loadVar ty a).run P w₁ := by
  simp only [results, h]
  simp [Sem.run_bind]

set_option maxHeartbeats 8000000 in
set_option maxRecDepth 100000 in
theorem clones_core (W : World) (v u : Value) (es more : List En) (h : PE W v es) (hU : UE es) (k : PE W u more) (kU : UE more) (mo : Int) :
    Calls Try.prog 6 #[v, u, .int .i64 mo] W fun e w' => e = .returned (.bool true) ∧ Below W.heap.size W w' := by
  have H := Lib.hid h; have K := Lib.hid k
  obtain ⟨A1, c1, rfl, -⟩ := h
  obtain ⟨A2, c2, rfl, -⟩ := k
  refine (callsIn_wide (n := 4)).1 ?_
  refine callsIn_of_wp_marks Try.func6 rfl trivial ?_ rfl
  refine wpIn_wide.2 ?_
  simp only [Try.ntmps6, List.size_toArray, List.length_cons, List.length_nil, Nat.reduceAdd, Nat.reduceSub, Array.replicate_succ, Array.replicate_zero, List.push_toArray, List.append_toArray, List.nil_append, List.cons_append]
  have hc0 : C0 W mo ((W.alloc (.cells #[.int .i64 mo] 3)).alloc (.cells #[.bool false] 4)) :=
    ⟨(Blk.new W [.int .i64 mo] 3).alloc _, Blk.new2 W _ [.bool false] 4, ((Below.refl _ W).alloc (Nat.le_refl _) _).alloc (by simp) _⟩
  have HC0 := Lib.hid hc0
  clear hc0
  go_wp2_with fail
  refine (alive_any _).mono ?_; rintro e w1 ⟨rfl, hb1⟩
  have HC1 := Lib.hid (HC0.out.below hb1)
  clear hb1
  have c6 := HC1.out.b6.cell (i := 0) rfl
  have f6 := HC1.out.b6.frozen 0
  by_cases hlong : 60 < es.length ∨ 60 < more.length
  · have d1 : (60 : Int) < (es.length : Int) ∨ ¬ (60 : Int) < (es.length : Int) := by omega
    have d2 : (60 : Int) < (more.length : Int) ∨ ¬ (60 : Int) < (more.length : Int) := by omega
    have hfin := HC1.out.b6.set 0 (.bool true)
    have hbl := HC1.out.bel.setCell (p := ⟨W.heap.size + 1, 0, none⟩) (by simp) (.bool true)
    have c7 := hfin.cell (i := 0) rfl
    have HB := Lib.hid hbl
    clear hfin hbl
    rcases d1 with g1 | g1
    · go_wp2_with fail
      refine ⟨.bool true, (results_cell1 rfl _ _ _).trans ?_, rfl, HB.out⟩
      go_simp
    · rcases d2 with g2 | g2
      · go_wp2_with fail
        refine ⟨.bool true, (results_cell1 rfl _ _ _).trans ?_, rfl, HB.out⟩
        go_simp
      · omega
  · have g1 : ¬ (60 : Int) < (es.length : Int) := by omega
    have g2 : ¬ (60 : Int) < (more.length : Int) := by omega
    clear c6 f6
    go_wp2_with fail
    refine (of_any w1 _ es (H.out.below HC1.out.bel) hU (by omega)).mono ?_; rintro e w2 ⟨rfl, hS2, hl2, hb2⟩
    obtain ⟨p, hp⟩ : ∃ p, w1.heap.size = p := ⟨_, rfl⟩
    have hp1 : W.heap.size + 1 < p := by have := HC1.out.b6.lt; omega
    rw [hp] at hS2 ⊢
    obtain ⟨P, hPe⟩ : ∃ P, ofL es = P := ⟨_, rfl⟩
    rw [hPe] at hS2 hl2
    have HP2 := Lib.hid hS2; have HC2 := Lib.hid (HC1.out.below hb2)
    clear hS2 hb2 hp hPe
    go_wp2_with fail
    refine (list_any w2 p P HP2.out.pr (by omega)).mono ?_; rintro e w3 ⟨v1, rfl, ho3, hb3⟩
    obtain ⟨A3, c3, rfl⟩ := own_sl ho3
    have hpe3 := pe_own (by omega) ho3
    have hal3 : Below w3.heap.size w3 (w3.alloc (.cells #[.slice A3 P.length c3] tL)) := (Below.refl _ w3).alloc (Nat.le_refl _) _
    have hck3 : CK W p w3.heap.size (.slice A3 P.length c3) P mo (w3.alloc (.cells #[.slice A3 P.length c3] tL)) :=
      ⟨(HC2.out.below hb3).below hal3, Blk.new w3 [.slice A3 P.length c3] tL, by have := (HC2.out.below hb3).b6.lt; omega, (HP2.out.below hb3).below hal3, hpe3.below hal3⟩
    have HK3 := Lib.hid hck3
    clear ho3 hb3 hpe3 hal3 hck3
    go_wp2_with fail
    have hq3 : (W.heap.size + 1) < w3.heap.size := HK3.out.lt
    refine (sclone_any _ p P HK3.out.p.pr (by omega)).mono ?_; rintro e w4 ⟨q, rfl, hq, hQ, hb4⟩
    have hpq : p ≠ q := by have := HK3.out.p.pr.lt; omega
    have hWq : W.heap.size ≤ q := by have := HK3.out.bw.lt; omega
    have HQ4 := Lib.hid (show SR w4 q (clL P more 0) from by
      have e : clL P more 0 = P := by unfold clL; rw [List.take_zero, List.append_nil]; exact HK3.out.p.ti.of_self
      rw [e]; exact ⟨hQ, HK3.out.p.ue, HK3.out.p.ti, HK3.out.p.len⟩)
    have HK4 := Lib.hid (HK3.out.below hb4)
    have HL4 := Lib.hid (show (clL P more 0).length ≤ 60 from by
      have e : clL P more 0 = P := by unfold clL; rw [List.take_zero, List.append_nil]; exact HK3.out.p.ti.of_self
      rw [e]; omega)
    obtain ⟨b8, hb8⟩ : ∃ b8, w3.heap.size = b8 := ⟨_, rfl⟩
    rw [hb8] at HK4 hq3
    have HB8 := Lib.hid hb8
    clear hQ hb4 hb8 HK3
    go_wp2_with fail
    rw [HB8.out]
    go_loopw [37] (fun i wr => ∃ k : Nat, k ≤ more.length ∧ i = .int .i64 (k : Int) ∧ SR wr q (clL P more k) ∧ (clL P more k).length ≤ 60 + k ∧ CK W p b8 (.slice A3 P.length c3) P mo wr) (fun i _ => more.length - (intOf i).toNat)
    case atStart => exact ⟨0, Nat.zero_le _, rfl, HQ4.out, by have := HL4.out; omega, HK4.out⟩
    case round =>
      clear HQ4 HL4 HK4
      obtain ⟨k, hk, rfl, hS, hlen, hC⟩ := hrel
      by_cases hlt : k < more.length
      · obtain ⟨⟨x, y⟩, hx⟩ : ∃ x, more[k] = x := ⟨_, rfl⟩
        have hx2 : more[k]? = some (x, y) := by rw [List.getElem?_eq_getElem hlt, hx]
        have hgd : more.getD k dE = (x, y) := by rw [List.getD_eq_getElem?_getD, hx2]; rfl
        have hux : U x := kU _ (List.mem_of_getElem? hx2)
        obtain ⟨b3, off3, c4, e1, hlb, r0, r1⟩ := (K.out.below hC.c.bel).at hx2
        obtain ⟨rfl, rfl⟩ : A2 = some ⟨b3, off3, none⟩ ∧ c2 = c4 := by injection e1 with e1 e2 e3; exact ⟨e1, e3⟩
        simp only at r0 r1
        have hal : Below wr.heap.size wr (wr.alloc (.cells #[.int .u64 x, .int .i64 y] tE)) := (Below.refl _ wr).alloc (Nat.le_refl _) _
        have hot : clL P more (k + 1) = putP (clL P more k) x y := by
          have := ofL_app_take P hlt
          rw [hgd] at this
          exact this
        have hput := put_c _ q (clL P more k) _ x y _ (hS.below hal) hux rfl hot.symm (by omega)
        have HPUT := Lib.hid hput
        have HS := Lib.hid (hS.below hal); have HOT := Lib.hid hot; have HC := Lib.hid (hC.below hal)
        clear hx hx2 hgd e1 hal hot hS hC hput
        go_wp2_with fail
        refine HPUT.out.mono ?_; rintro e w1 ⟨rfl, hp1, hg1⟩
        have HN := Lib.hid (show SR w1 q (clL P more (k + 1)) ∧ (clL P more (k + 1)).length ≤ 60 + (k + 1) ∧ CK W p b8 (.slice A3 P.length c3) P mo w1 from by
          have hpl := put_len (clL P more k) x y
          rw [← HOT.out] at hpl
          exact ⟨hp1, by omega, HC.out.turn HS.out hWq hpq hg1⟩)
        clear hp1 hg1 HPUT
        go_wp2_with fail
        go_roundw
        case rel => exact ⟨k + 1, by omega, by simp, HN.out.1, HN.out.2.1, HN.out.2.2⟩
        case measure => simp [intOf]; omega
      · obtain rfl : k = more.length := by omega
        have HQ5 := Lib.hid hS; have HK5 := Lib.hid hC
        clear hS hC
        go_wp2_with fail
        refine (list_any _ p P HK5.out.p.pr (by omega)).mono ?_; rintro e w6 ⟨v6, rfl, ho6, hb6⟩
        obtain ⟨A6, c6, rfl⟩ := own_sl ho6
        have har := AR.own ho6
        have HAR6 := Lib.hid har; have HB6 := Lib.hid hb6
        clear ho6 hb6 har
        go_wp2_with fail
        go_loopw [52] (fun i ws => ∃ k : Nat, k ≤ P.length ∧ i = .int .i64 (k : Int) ∧ AR ws wr.heap.size A6 P.length ∧ Below wr.heap.size wr ws) (fun i _ => P.length - (intOf i).toNat)
        case atStart => exact ⟨0, Nat.zero_le _, rfl, HAR6.out, HB6.out⟩
        case round =>
          clear HAR6 HB6
          obtain ⟨k, hk, rfl, hA, hB⟩ := hrel
          by_cases hlt : k < P.length
          · obtain ⟨g, y, rfl, hg, hgl, r1, f1⟩ := hA.at hlt
            have HAs := Lib.hid (fun z => hA.set rfl hlt z)
            have HBs := Lib.hid (fun z => hB.setCell (p := ⟨g, k * 2 + 1, none⟩) hg (.int .i64 z))
            clear hA hB
            go_wp2_with fail
            go_roundw
            case rel => exact ⟨k + 1, by omega, by simp, HAs.out _, HBs.out _⟩
            case measure => simp [intOf]; omega
          · obtain rfl : k = P.length := by omega
            have HK6 := Lib.hid (HK5.out.below hB); have HQ6 := Lib.hid (HQ5.out.below hB)
            have c8 := HK6.out.bw.cell (i := 0) rfl
            have hdr := Below.drew (Below.refl wr.heap.size wr)
            clear HK5 HQ5 hA hB
            go_wp2_with fail
            go_region_held3 (fun w' => w'.cell? ⟨b8, 0, none⟩ = some (.slice A3 P.length c3)) (go_keep) ((first | (go_at_call 17; refine (list_any _ p P (HK6.out.p.pr.below hdr) (by omega)).mono ?_; rintro e w7 ⟨v7, rfl, ho7, hb7⟩; have hc7 := ((HK6.out.bw.belowS hdr).belowS hb7).cell (i := 0) rfl) | (go_at_call 16; refine (rsame_any _ _ _ P P (pe_own (by omega) ho7) ((HK6.out.v.below hdr).below hb7) (by omega)).mono ?_; rintro e w8 ⟨rfl, hb8⟩; rw [decide_eq_true (rfl : P = P)]; have hc8 := (((HK6.out.bw.belowS hdr).belowS hb7).belowS hb8).cell (i := 0) rfl)))
            have hb68 : Below wr.heap.size wr w8 := (hdr.trans (hb7.mono hdr.size)).trans (hb8.mono (Nat.le_trans hdr.size hb7.size))
            have HK8 := Lib.hid (HK6.out.below hb68); have HQ8 := Lib.hid (HQ6.out.below hb68)
            clear HK6 HQ6 hdr ho7 hb7 hb8 hb68 hc7 hc8 c8
            obtain ⟨hm0, hm1⟩ := i64_and127r mo
            obtain ⟨mi, hmi⟩ : ∃ mi, bits .and .i64 mo 127 = mi := ⟨_, rfl⟩
            rw [hmi] at hm0 hm1
            obtain ⟨m, hm⟩ : ∃ m : Nat, mi = (m : Int) := ⟨mi.toNat, by omega⟩
            subst hm
            have fw : IntKind.i64.wrap (1 + (m : Int)) = ((m + 1 : Nat) : Int) := by rw [IntKind.wrap_i64]; omega
            have hWl8 := HK8.out.c.b5.lt
            have c5 := HK8.out.c.b5.cell (i := 0) rfl
            have f5 := HK8.out.c.b5.frozen 0
            have HK9 := Lib.hid (HK8.out.num ((m : Int) + 1)); have HQ9 := Lib.hid (HQ8.out.one HK8.out.c.b5 (by decide) (by simp) (grownBy_setAt w8 W.heap.size 0 (.int .i64 ((m : Int) + 1))))
            have HZ9 := Lib.hid (show (w8.setCell ⟨W.heap.size, 0, none⟩ (.int .i64 ((m : Int) + 1))).heap.size = w8.heap.size from by simp [World.setCell])
            go_wp2_with fail
            refine (entries_any _ p).mono ?_; rintro e w12 ⟨rfl, hw12⟩
            obtain ⟨w10, hw10⟩ : ∃ w10, w8.setCell ⟨W.heap.size, 0, none⟩ (.int .i64 ((m : Int) + 1)) = w10 := ⟨_, rfl⟩
            rw [hw10] at HK9 HQ9 HZ9 hw12 ⊢
            clear hw10 HK8 HQ8
            have hR12 : RI w10 p 0 w12 := by
              rw [hw12]
              have b1 := (Blk.new w10 [.int .i64 0] 3).alloc (.cells #[.pointer (some ⟨p, 0, none⟩)] 25)
              have b2 := Blk.new2 w10 (.cells #[.int .i64 0] 3) [.pointer (some ⟨p, 0, none⟩)] 25
              exact ⟨b1, b2, ((Below.refl _ w10).alloc (Nat.le_refl _) _).alloc (by simp) _⟩
            have hz12 : w12.heap.size = w10.heap.size + 2 := by rw [hw12]; simp
            simp only [World.size_alloc]
            rw [← HZ9.out]
            clear hw12 HZ9 hWl8 c5 f5
            obtain ⟨vp, hbp, hpp⟩ := HK9.out.p.pr
            have HBP := Lib.hid hbp; have HPP := Lib.hid hpp; have HR12 := Lib.hid hR12; have HZ12 := Lib.hid hz12
            have IT := entries_iter 3 (w10.heap.size + 1) p vp P (by omega) (fun k W' => k < m + 1 ∧ RI w10 p (k : Int) W')
              (fun k W' h => ⟨h.2.2.1.cell rfl, (HBP.out.belowS h.2.2.2).cell rfl, HPP.out.below h.2.2.2⟩) (fun k W' o h => ⟨h.1, h.2.1.alloc o, h.2.2.1.alloc o, h.2.2.2.alloc h.2.2.2.size o⟩)
            clear hbp hpp hz12 hR12
            go_wp2_with fail
            have hsO : ∀ x, OwnFrom w12.heap.size (fun (_ : Unit) W' => RI w10 p x W') := fun x => RI.ownF w10 p x (by have := HZ12.out; omega)
            have hl0 : (0 : Nat) < m + 1 := Nat.succ_pos m
            refine wpIn_wide.1 (range_gen (F := Fence.wide) (n := 4) rfl (by omega) (gf := 70) (lb := #[.pointer (some ⟨w10.heap.size + 1, 0, none⟩)]) rfl trivial (enters_of Try.func70 (by kernel_rfl) rfl) (encs := fun k : Nat => #[.int .u64 (P.getD k dE).1, .int .i64 (P.getD k dE).2]) (fun _ => rfl)
              (fun W' => 0 < m + 1 ∧ RI w10 p ((0 : Nat) : Int) W')
              (fun k W' => k < P.length ∧ k < m + 1 ∧ RI w10 p (k : Int) W')
              (fun k W' => k + 1 < m + 1 ∧ RI w10 p ((k + 1 : Nat) : Int) W')
              (fun c W' => c = .exit 4 ∧ m + 1 ≤ P.length ∧ RI w10 p ((min (m + 1) P.length : Nat) : Int) W')
              (fun W' => P.length < m + 1 ∧ RI w10 p (P.length : Int) W')
              (fun k a' W' => a' = { tmps := #[.slice A1 es.length c1, .slice A2 more.length c2, .int .i64 mo, undef, undef, .pointer (some ⟨W.heap.size, 0, none⟩), .pointer (some ⟨W.heap.size + 1, 0, none⟩), .pointer (some ⟨p, 0, none⟩), .pointer (some ⟨b8, 0, none⟩), .pointer (some ⟨q, 0, none⟩), undef, u11, .slice A6 P.length c6, u13, .pointer (some ⟨w10.heap.size, 0, none⟩), .int .u64 (P.getD k dE).1, .int .i64 (P.getD k dE).2, undef, undef, .bool true, .bool false, .slice A1 es.length c1, .int .i64 (es.length : Int), .bool (decide ((60 : Int) < (es.length : Int))), .bool (decide ((60 : Int) < (es.length : Int))), .slice A2 more.length c2, .int .i64 (more.length : Int), .bool (decide ((60 : Int) < (more.length : Int))), .bool (decide ((60 : Int) < (es.length : Int)) || decide ((60 : Int) < (more.length : Int))), .slice A1 es.length c1, .pointer (some ⟨p, 0, none⟩), .pointer (some ⟨p, 0, none⟩), .slice A3 P.length c3, .pointer (some ⟨p, 0, none⟩), .pointer (some ⟨q, 0, none⟩), .slice A2 more.length c2, .int .i64 (more.length : Int), .int .i64 (more.length : Int), .bool false, u39, u40, u41, u42, u43, u44, u45, u46, u47, .pointer (some ⟨p, 0, none⟩), .slice A6 P.length c6, .slice A6 P.length c6, .int .i64 (P.length : Int), .int .i64 (P.length : Int), .bool false, u54, u55, u56, u57, u58, u59, u60, u61, u62, u63, .pointer (some ⟨p, 0, none⟩), v7, .slice A3 P.length c3, .bool true, .bool false, .int .i64 mo, .int .i64 (m : Int), .int .i64 ((m : Int) + 1), .pointer (some ⟨p, 0, none⟩), .func (.func 70) #[] #[.pointer (some ⟨w10.heap.size + 1, 0, none⟩)], .int .u64 (P.getD k dE).1, .int .i64 (P.getD k dE).2, undef, undef, undef, undef, undef, undef, undef, undef, undef, undef, undef, undef, undef, undef, undef, undef, undef, undef, undef, undef, undef, undef, undef, undef, undef, undef, undef, undef, undef, undef, undef, undef, undef, undef, undef, undef, undef, undef, undef, undef, undef, undef, undef, undef, undef, undef, undef], defers := [] } ∧ k < P.length ∧ k < m + 1 ∧ RI w10 p (k : Int) W')
              (OwnFrom.and (fun _ _ _ _ hs _ _ => hs) (hsO _))
              (fun k => OwnFrom.and (fun _ _ _ _ hs _ _ => hs) (hsO _))
              (fun c => OwnFrom.and (fun _ _ _ _ hs _ _ => hs) (OwnFrom.and (fun _ _ _ _ hs _ _ => hs) (hsO _)))
              (OwnFrom.and (fun _ _ _ _ hs _ _ => hs) (hsO _))
              (fun k a' => OwnFrom.and (fun _ _ _ _ hs _ _ => hs) (OwnFrom.and (fun _ _ _ _ hs _ _ => hs) (OwnFrom.and (fun _ _ _ _ hs _ _ => hs) (hsO _))))
              ⟨hl0, HR12.out⟩ IT ?assign ?body ?done ?stop)
            case assign =>
              clear IT hsO
              rintro l2 k W' K ⟨hk, hkm, hP⟩ hK
              obtain ⟨⟨x, y⟩, hx⟩ : ∃ x, P.getD k dE = x := ⟨_, rfl⟩
              have HPR := Lib.hid hP
              have HK := Lib.hid (fun a' h => hK a' W' (KeepsFrom.refl _ _) ⟨h, hk, hkm, HPR.out⟩)
              rw [hx] at HK ⊢
              clear hP hK hx
              gi_wp2
              exact HK.out _ rfl
            case body =>
              clear IT hsO
              rintro l2 k a' W' hl' hr ⟨rfl, hk, hkm, hP⟩
              obtain ⟨⟨x, y⟩, hx⟩ : ∃ x, P[k] = x := ⟨_, rfl⟩
              have hx2 : P[k]? = some (x, y) := by rw [List.getElem?_eq_getElem hk, hx]
              have hgd : P.getD k dE = (x, y) := by rw [List.getD_eq_getElem?_getD, hx2]; rfl
              rw [hgd]
              have hK' := HK9.out.below hP.2.2
              obtain ⟨b3, off3, c4, e1, hlb, r0, r1⟩ := hK'.v.at hx2
              obtain ⟨rfl, rfl⟩ : A3 = some ⟨b3, off3, none⟩ ∧ c3 = c4 := by injection e1 with e1 e2 e3; exact ⟨e1, e3⟩
              simp only at r0 r1
              have c8 := hK'.bw.cell (i := 0) rfl
              have c5 := hK'.c.b5.cell (i := 0) rfl
              have ci := hP.1.cell (i := 0) rfl
              have fi := hP.1.frozen 0
              have hne5 : W.heap.size ≠ w10.heap.size := by have := HK9.out.c.b5.lt; omega
              have hks : KeepsFrom w12.heap.size W' (W'.setCell ⟨w10.heap.size, 0, none⟩ (.int .i64 ((k : Int) + 1))) := KeepsFrom.of_grownBy (grownBy_setAt W' _ 0 _) (fun j e => by have := HZ12.out; cases e; omega)
              have hps : RI w10 p ((k : Int) + 1) (W'.setCell ⟨w10.heap.size, 0, none⟩ (.int .i64 ((k : Int) + 1))) := ⟨hP.1.set 0 _, hP.2.1.other (p := ⟨w10.heap.size, 0, none⟩) (by simp) _, hP.2.2.setCell (p := ⟨w10.heap.size, 0, none⟩) (Nat.le_refl _) _⟩
              have HKS := Lib.hid hks; have HPS := Lib.hid hps
              have hkl : (k : Int) < (P.length : Int) := by omega
              clear hks hps hP hx hx2 hgd hK' e1
              by_cases hkm2 : k = m
              · subst hkm2
                gi_wp2_with fail
                refine ⟨HKS.out, rfl, by omega, ?_⟩
                have e : ((min (k + 1) P.length : Nat) : Int) = (k : Int) + 1 := by omega
                rw [e]; exact HPS.out
              · have hkm3 : ¬ (k : Int) = (m : Int) := by omega
                gi_wp2_with fail
                exact ⟨HKS.out, by omega, by simpa using HPS.out⟩
            case done =>
              clear IT hsO
              rintro D W' hD ⟨hl, hP⟩ hK
              have HK13 := Lib.hid (HK9.out.below hP.2.2); have HQ13 := Lib.hid (HQ9.out.below hP.2.2); have HP13 := Lib.hid hP; have HKD := Lib.hid hK
              have c8 := HK13.out.bw.cell (i := 0) rfl
              have hDl : D < W'.heap.size := (Array.getElem?_eq_some_iff.1 hK).1
              have hWD : W.heap.size ≤ D := by have := HK9.out.c.b5.lt; have := HZ12.out; omega
              clear hP hK
              go_wp2_with fail
              go_loopw [105] (fun i wz => ∃ k : Nat, k ≤ P.length ∧ i = .int .i64 (k : Int) ∧ Below W'.heap.size W' wz) (fun i _ => P.length - (intOf i).toNat)
              case atStart => exact ⟨0, Nat.zero_le _, rfl, Below.refl _ W'⟩
              case round =>
                clear c8
                obtain ⟨k, hk, rfl, hB⟩ := hrel
                by_cases hlt : k < P.length
                · obtain ⟨⟨x, y⟩, hx⟩ : ∃ x, P[k] = x := ⟨_, rfl⟩
                  have hx2 : P[k]? = some (x, y) := by rw [List.getElem?_eq_getElem hlt, hx]
                  have hmem := List.mem_of_getElem? hx2
                  have hge := clL_ge HK13.out.p.ti hmem (more := more) more.length
                  have hux : U x := HK13.out.p.ue _ hmem
                  obtain ⟨b3, off3, c4, e1, hlb, r0, r1⟩ := (HK13.out.v.below hB).at hx2
                  obtain ⟨rfl, rfl⟩ : A3 = some ⟨b3, off3, none⟩ ∧ c3 = c4 := by injection e1 with e1 e2 e3; exact ⟨e1, e3⟩
                  simp only at r0 r1 hge
                  have hb1 := Blk.new wr [.int .u64 x, .int .i64 y] tE
                  have hB1 := hB.alloc hB.size (.cells #[.int .u64 x, .int .i64 y] tE)
                  have HQz := Lib.hid (HQ13.out.below hB1); have HBz := Lib.hid hB1; have HB1 := Lib.hid hb1
                  obtain ⟨ak, hak⟩ : ∃ a, askL (clL P more more.length) x = a := ⟨_, rfl⟩
                  rw [hak] at hge
                  have HAK := Lib.hid hak
                  have hge2 : ¬ ak < y := by omega
                  have q0 := hb1.cell (i := 0) rfl
                  have q1 := hb1.cell (i := 1) rfl
                  clear hx hx2 hmem e1 hb1 hB1 hB hak hge
                  go_wp2_with fail
                  go_region_held3 (fun w' => w'.cell? ⟨wr.heap.size, 0, none⟩ = some (.int .u64 x) ∧ w'.cell? ⟨wr.heap.size, 1, none⟩ = some (.int .i64 y)) (go_keep) ((refine (ask_c _ q (clL P more more.length) x ak (HQz.out.below ((Below.refl _ _).drew)) hux HAK.out).mono ?_; rintro e w15 ⟨rfl, hb15⟩; have q15 := ((HB1.out.drew).belowS hb15).cell (i := 0) rfl; have q16 := ((HB1.out.drew).belowS hb15).cell (i := 1) rfl))
                  all_goals
                    have HB15 := Lib.hid (HBz.out.trans ((Below.drew (Below.refl _ _)).trans (hb15.mono (Nat.le_refl _)) |>.mono HBz.out.size))
                    clear q15 q16 hb15
                    go_wp2_with fail
                    go_roundw
                    case rel => exact ⟨k + 1, by omega, by simp, HB15.out⟩
                    case measure => simp [intOf]; omega
                · obtain rfl : k = P.length := by omega
                  have HB := Lib.hid hB
                  have hK14 := HK13.out.below hB
                  have ci := (HP13.out.1.belowS hB).cell (i := 0) rfl
                  have c8 := hK14.bw.cell (i := 0) rfl
                  have c5 := hK14.c.b5.cell (i := 0) rfl
                  have f6 := hK14.c.b6.frozen 0
                  have c6' := hK14.c.b6.cell (i := 0) rfl
                  have HK14 := Lib.hid hK14
                  clear hB hK14
                  go_wp2_with fail
                  rw [show ((P.length : Int) == min ((m : Int) + 1) (P.length : Int)) = true from by rw [beq_iff_eq]; omega]
                  have hc := HK14.out.c
                  have hkd := (Below.heap_setCell wr ⟨W.heap.size + 1, 0, none⟩ (.bool true) D (by have := HK9.out.c.b6.lt; have := HZ12.out; simp; omega)).trans ((HB.out.block D hDl).trans HKD.out)
                  have hgp := grownBy_putObj' (wr.setCell ⟨W.heap.size + 1, 0, none⟩ (.bool true)) D (.deferred none)
                  have hbb := (hc.bel.setCell (p := ⟨W.heap.size + 1, 0, none⟩) (by simp) (.bool true))
                  have c6f := ((hc.b6.set 0 (.bool true)).kept hgp (by have := HK9.out.c.b6.lt; have := HZ12.out; simp; omega)).cell (i := 0) rfl
                  have HBB := Lib.hid (hbb.grown hgp hbb.size (fun r e => by cases e; exact hWD)); have HHD := Lib.hid hkd
                  clear hc hkd hgp hbb
                  refine ⟨by simp, .inl ⟨_, _, rfl, run_takeDeferred HHD.out, ?_⟩⟩
                  refine ⟨.bool true, (results_cell1 rfl _ _ _).trans ?_, rfl, HBB.out⟩
                  go_simp
            case stop =>
              clear IT hsO
              rintro D c W' hD ⟨rfl, hl, hP⟩ hK
              rw [show ((min (m + 1) P.length : Nat) : Int) = (m : Int) + 1 from by omega] at hP
              have HK13 := Lib.hid (HK9.out.below hP.2.2); have HQ13 := Lib.hid (HQ9.out.below hP.2.2); have HP13 := Lib.hid hP; have HKD := Lib.hid hK
              have c8 := HK13.out.bw.cell (i := 0) rfl
              have hDl : D < W'.heap.size := (Array.getElem?_eq_some_iff.1 hK).1
              have hWD : W.heap.size ≤ D := by have := HK9.out.c.b5.lt; have := HZ12.out; omega
              clear hP hK
              gi_wp2
              go_wp2_with fail
              go_loopw [105] (fun i wz => ∃ k : Nat, k ≤ P.length ∧ i = .int .i64 (k : Int) ∧ Below W'.heap.size W' wz) (fun i _ => P.length - (intOf i).toNat)
              case atStart => exact ⟨0, Nat.zero_le _, rfl, Below.refl _ W'⟩
              case round =>
                clear c8
                obtain ⟨k, hk, rfl, hB⟩ := hrel
                by_cases hlt : k < P.length
                · obtain ⟨⟨x, y⟩, hx⟩ : ∃ x, P[k] = x := ⟨_, rfl⟩
                  have hx2 : P[k]? = some (x, y) := by rw [List.getElem?_eq_getElem hlt, hx]
                  have hmem := List.mem_of_getElem? hx2
                  have hge := clL_ge HK13.out.p.ti hmem (more := more) more.length
                  have hux : U x := HK13.out.p.ue _ hmem
                  obtain ⟨b3, off3, c4, e1, hlb, r0, r1⟩ := (HK13.out.v.below hB).at hx2
                  obtain ⟨rfl, rfl⟩ : A3 = some ⟨b3, off3, none⟩ ∧ c3 = c4 := by injection e1 with e1 e2 e3; exact ⟨e1, e3⟩
                  simp only at r0 r1 hge
                  have hb1 := Blk.new wr [.int .u64 x, .int .i64 y] tE
                  have hB1 := hB.alloc hB.size (.cells #[.int .u64 x, .int .i64 y] tE)
                  have HQz := Lib.hid (HQ13.out.below hB1); have HBz := Lib.hid hB1; have HB1 := Lib.hid hb1
                  obtain ⟨ak, hak⟩ : ∃ a, askL (clL P more more.length) x = a := ⟨_, rfl⟩
                  rw [hak] at hge
                  have HAK := Lib.hid hak
                  have hge2 : ¬ ak < y := by omega
                  have q0 := hb1.cell (i := 0) rfl
                  have q1 := hb1.cell (i := 1) rfl
                  clear hx hx2 hmem e1 hb1 hB1 hB hak hge
                  go_wp2_with fail
                  go_region_held3 (fun w' => w'.cell? ⟨wr.heap.size, 0, none⟩ = some (.int .u64 x) ∧ w'.cell? ⟨wr.heap.size, 1, none⟩ = some (.int .i64 y)) (go_keep) ((refine (ask_c _ q (clL P more more.length) x ak (HQz.out.below ((Below.refl _ _).drew)) hux HAK.out).mono ?_; rintro e w15 ⟨rfl, hb15⟩; have q15 := ((HB1.out.drew).belowS hb15).cell (i := 0) rfl; have q16 := ((HB1.out.drew).belowS hb15).cell (i := 1) rfl))
                  all_goals
                    have HB15 := Lib.hid (HBz.out.trans ((Below.drew (Below.refl _ _)).trans (hb15.mono (Nat.le_refl _)) |>.mono HBz.out.size))
                    clear q15 q16 hb15
                    go_wp2_with fail
                    go_roundw
                    case rel => exact ⟨k + 1, by omega, by simp, HB15.out⟩
                    case measure => simp [intOf]; omega
                · obtain rfl : k = P.length := by omega
                  have HB := Lib.hid hB
                  have hK14 := HK13.out.below hB
                  have ci := (HP13.out.1.belowS hB).cell (i := 0) rfl
                  have c8 := hK14.bw.cell (i := 0) rfl
                  have c5 := hK14.c.b5.cell (i := 0) rfl
                  have f6 := hK14.c.b6.frozen 0
                  have c6' := hK14.c.b6.cell (i := 0) rfl
                  have HK14 := Lib.hid hK14
                  clear hB hK14
                  go_wp2_with fail
                  rw [show (((m : Int) + 1 : Int) == min ((m : Int) + 1) (P.length : Int)) = true from by rw [beq_iff_eq]; omega]
                  have hc := HK14.out.c
                  have hkd := (Below.heap_setCell wr ⟨W.heap.size + 1, 0, none⟩ (.bool true) D (by have := HK9.out.c.b6.lt; have := HZ12.out; simp; omega)).trans ((HB.out.block D hDl).trans HKD.out)
                  have hgp := grownBy_putObj' (wr.setCell ⟨W.heap.size + 1, 0, none⟩ (.bool true)) D (.deferred none)
                  have hbb := (hc.bel.setCell (p := ⟨W.heap.size + 1, 0, none⟩) (by simp) (.bool true))
                  have c6f := ((hc.b6.set 0 (.bool true)).kept hgp (by have := HK9.out.c.b6.lt; have := HZ12.out; simp; omega)).cell (i := 0) rfl
                  have HBB := Lib.hid (hbb.grown hgp hbb.size (fun r e => by cases e; exact hWD)); have HHD := Lib.hid hkd
                  clear hc hkd hgp hbb
                  refine ⟨by simp, .inl ⟨_, _, rfl, run_takeDeferred HHD.out, ?_⟩⟩
                  refine ⟨.bool true, (results_cell1 rfl _ _ _).trans ?_, rfl, HBB.out⟩
                  go_simp
theorem clones_row (W : World) (z : List S41) (A : Option Addr) (c : Nat) (hc : z.length ≤ c) (hA : A = none → c = 0) (hC : k41.C W A z.length z) (_ : z.length ≤ maxLen) (hG : ∀ x ∈ z, (Lit.int .u64 x.f0).wf = true ∧ (Lit.int .i64 x.f1).wf = true)
    (z1 : List S41) (A1 : Option Addr) (c1 : Nat) (hc1 : z1.length ≤ c1) (hA1 : A1 = none → c1 = 0) (hC1 : k41.C W A1 z1.length z1) (_ : z1.length ≤ maxLen) (hG1 : ∀ x ∈ z1, (Lit.int .u64 x.f0).wf = true ∧ (Lit.int .i64 x.f1).wf = true)
    (b : Int) (_ : (Lit.int .i64 b).wf = true) :
    Calls Try.prog 6 #[.slice A z.length c, .slice A1 z1.length c1, .int .i64 b] W fun e w' => e = .returned (.bool true) ∧ Below W.heap.size W w' :=
  clones_core W _ _ (z.map frE) (z1.map frE) (pe_row hc hA hC) (ue_row hG) (pe_row hc1 hA1 hC1) (ue_row hG1) b

end Go.Proofs.Ytnlhgnioedalpaa.Pri
