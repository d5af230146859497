/- DeltaSteps, laid together. -/
import Derived.Test.YtnlhgnioedalpaaGr15

/- DeltaSteps. -/
set_option linter.unusedSimpArgs false
set_option linter.unusedVariables false
namespace Go.Proofs.Ytnlhgnioedalpaa.Pri
open Go.RowKit Go.Proofs.YtnlhgnioedalpaaW.PrintWords Go.Proofs.Ytnlhgnioedalpaa.PPricePlays Go.Maps
open Go.Proofs.Ytnlhgnioedalpaa.Cod (PC pc_own)
attribute [local go_sem] Oper.semAt_some

theorem blk_typed {A B : World} {b : Nat} {t u : TypeId} {l : List Value} {row : Option Nat} (h : Blk A b t l) (hg : A.grownBy B row) (hr : ∀ r, row = some r → ∃ cs fr, A.heap[r]? = some (.cells cs u fr)) (hu : u ≠ t) : Blk B b t l :=
  h.kept hg (fun e => by
    obtain ⟨cs, fr, hc⟩ := hr b e.symm
    have hb : A.heap[b]? = _ := h
    rw [hb] at hc
    injection hc with hc
    injection hc with _ hc
    exact hu hc.symm)
theorem C0.typed {W : World} {mo : Int} {A B : World} {u : TypeId} {row : Option Nat} (h : C0 W mo A) (hg : A.grownBy B row) (hr : ∀ r, row = some r → ∃ cs fr, A.heap[r]? = some (.cells cs u fr)) (hw : ∀ r, row = some r → W.heap.size ≤ r) (h1 : u ≠ 3) (h2 : u ≠ 4) : C0 W mo B :=
  ⟨blk_typed h.b5 hg hr h1, blk_typed h.b6 hg hr h2, h.bel.grown hg h.bel.size hw⟩
theorem blk_row_of {A : World} {b : Nat} {t : TypeId} {l : List Value} (h : Blk A b t l) : ∀ r, some b = some r → ∃ cs fr, A.heap[r]? = some (.cells cs t fr) := fun r e => by
  injection e with e
  subst e
  exact ⟨_, _, h⟩
/-- what is kept while the steps come -/
structure SI (w0 : World) (rows : List (List Ch)) (M : Nat) (x : Value) (k : Nat) (W' : World) : Prop where
  bel : Below w0.heap.size w0 W'
  b9 : Blk W' w0.heap.size 3 [.int .i64 (k : Int)]
  cp : ∃ A c vs B, Blk W' (w0.heap.size + 1 + 1) tEss [.slice A (cop rows k).length c] ∧ LR B (cop rows k) vs (.slice A (cop rows k).length c) W'
  bx : Blk W' (w0.heap.size + 1 + 1 + 1) tE3 [x]
  kM : k < M
theorem SI.row {w0 : World} {rows : List (List Ch)} {M : Nat} {x : Value} {k : Nat} {A B : World} {row : Option Nat} (h : SI w0 rows M x k A) (hg : A.grownBy B row) (hr : ∀ r, row = some r → w0.heap.size ≤ r ∧ ∃ o : Obj, A.heap[r]? = some o ∧ o.isCells = false) : SI w0 rows M x k B := by
  have q : RowOk A row := fun r e => (hr r e).2
  obtain ⟨A1, c1, vs, B1, h1, h2⟩ := h.cp
  exact ⟨h.bel.grown hg h.bel.size (fun r e => (hr r e).1), blk_row1 h.b9 hg q, ⟨A1, c1, vs, B1, blk_row1 h1 hg q, h2.row hg q⟩, blk_row1 h.bx hg q, h.kM⟩
theorem SI.below {w0 : World} {rows : List (List Ch)} {M : Nat} {x : Value} {k : Nat} {A B : World} (h : SI w0 rows M x k A) (hb : Below A.heap.size A B) : SI w0 rows M x k B := h.row (gb_none hb) (fun r e => by cases e)
theorem SI.ownF (w0 : World) (rows : List (List Ch)) (M : Nat) (x : Value) (k : Nat) {b : Nat} (hb : w0.heap.size ≤ b) : OwnFrom b (fun (_ : Unit) W' => SI w0 rows M x k W') := fun s A C row hs hg hr => hs.row hg (fun r e => ⟨by have := (hr r e).1; omega, (hr r e).2⟩)
theorem PC.ownF (v : Value) (cs : List Ch) (b : Nat) : OwnFrom b (fun (_ : Unit) W' => PC W' v cs) := fun s A C row hs hg hr => PC.row hs hg (fun r e => (hr r e).2)
/-- and where it was left -/
structure SE (w0 : World) (M : Nat) (W' : World) : Prop where
  bel : Below w0.heap.size w0 W'
  b9 : Blk W' w0.heap.size 3 [.int .i64 (M : Int)]
theorem SE.ownF (w0 : World) (M : Nat) {b : Nat} (hb : w0.heap.size ≤ b) : OwnFrom b (fun (_ : Unit) W' => SE w0 M W') := fun s A C row hs hg hr =>
  ⟨hs.bel.grown hg hs.bel.size (fun r e => by have := (hr r e).1; omega), blk_row1 hs.b9 hg (fun r e => (hr r e).2)⟩
set_option maxRecDepth 100000 in
set_option maxHeartbeats 16000000 in
theorem steps_core (W : World) (v : Value) (rows : List (List Ch)) (h : PCC W v rows) (hU : ∀ r ∈ rows, ∀ c ∈ r, U c.2.1) (mo : Int) :
    Calls Try.prog 13 #[v, .int .i64 mo] W fun e w' => e = .returned (.bool true) ∧ Below W.heap.size W w' := by
  have H := Lib.hid h
  obtain ⟨A1, c1, rfl, -⟩ := h
  obtain ⟨i0, hi0, hiz0, hiz1, hiz2⟩ := info_parts infoEss
  refine (callsIn_wide (n := 4)).1 ?_
  refine callsIn_of_wp_marks Try.func13 rfl trivial ?_ rfl
  refine wpIn_wide.2 ?_
  simp only [Try.ntmps13, List.size_toArray, List.length_cons, List.length_nil, Nat.reduceAdd, Nat.reduceSub, Array.replicate_succ, Array.replicate_zero, List.push_toArray, List.append_toArray, List.nil_append, List.cons_append]
  have hc0 : C0 W mo ((W.alloc (.cells #[.int .i64 mo] 3)).alloc (.cells #[.bool false] 4)) :=
    ⟨(Blk.new W [.int .i64 mo] 3).alloc _, Blk.new2 W _ [.bool false] 4, ((Below.refl _ W).alloc (Nat.le_refl _) _).alloc (by simp) _⟩
  have HC0 := Lib.hid hc0
  clear hc0
  go_wp2_with fail
  refine (alive12_any _).mono ?_; rintro e w1 ⟨rfl, hb1⟩
  have HC1 := Lib.hid (HC0.out.below hb1)
  clear hb1
  have c6 := HC1.out.b6.cell (i := 0) rfl
  have f6 := HC1.out.b6.frozen 0
  by_cases hlong : 10 < rows.length
  · have hfin := HC1.out.b6.set 0 (.bool true)
    have HB := Lib.hid (HC1.out.bel.setCell (p := ⟨W.heap.size + 1, 0, none⟩) (by simp) (.bool true))
    have c7 := hfin.cell (i := 0) rfl
    clear hfin
    have g1 : (10 : Int) < (rows.length : Int) := by omega
    go_wp2_with fail
    refine ⟨.bool true, (results_cell1 rfl _ _ _).trans ?_, rfl, HB.out⟩
    go_simp
  have g1 : ¬ (10 : Int) < (rows.length : Int) := by omega
  clear c6 f6
  obtain ⟨z, hz⟩ : ∃ z, w1.heap.size = z := ⟨_, rfl⟩
  have hWz : W.heap.size + 1 < z := by rw [← hz]; exact HC1.out.b6.lt
  obtain ⟨w4, hw4⟩ : ∃ w4, (((w1.alloc (.cells #[] tEss)).alloc (.cells #[.slice (some ⟨z, 0, none⟩) 0 0] tE3)).alloc (.cells #[] tEs)) = w4 := ⟨_, rfl⟩
  have hal : Below w1.heap.size w1 w4 := by rw [← hw4]; exact (((Below.refl _ w1).alloc (Nat.le_refl _) _).alloc (by simp) _).alloc (by simp; omega) _
  have hbb : BB W.heap.size [] [] (.slice (some ⟨z, 0, none⟩) 0 0) w4 := by
    refine ⟨rfl, ?_, fun i v b a c => by simp at a⟩
    have h1 := own_below (own0 w1 tEss 1) (show Below (w1.alloc (.cells #[] tEss)).heap.size (w1.alloc (.cells #[] tEss)) w4 by rw [← hw4]; exact ((Below.refl _ _).alloc (Nat.le_refl _) _).alloc (by simp) _)
    rw [hz] at h1
    exact own_weaken h1 (by omega)
  have b5 : Blk w4 (z + 1) tE3 [.slice (some ⟨z, 0, none⟩) 0 0] := by
    rw [← hw4, ← hz]
    exact (Blk.new2 w1 (.cells #[] tEss) [.slice (some ⟨w1.heap.size, 0, none⟩) 0 0] tE3).alloc _
  have hlr : LR W.heap.size [] [] (.slice (some ⟨z + 1 + 1, 0, none⟩) 0 0) w4 := by
    have h1 := lr_nil ((w1.alloc (.cells #[] tEss)).alloc (.cells #[.slice (some ⟨z, 0, none⟩) 0 0] tE3))
    rw [hw4] at h1
    simp only [World.size_alloc, hz] at h1
    exact h1.weaken (by omega)
  have hc4 := HC1.out.below hal
  have HBB := Lib.hid hbb; have HB5 := Lib.hid b5; have HLR := Lib.hid hlr; have HC4 := Lib.hid hc4; have HW4 := Lib.hid hw4; have HZ := Lib.hid hz
  clear hal hbb b5 hlr hc4 hw4 hz
  go_wp2_with fail
  simp only [HZ.out]
  rw [HW4.out]
  go_loopw [6, 23] (fun b6 i wr => ∃ (k : Nat) (vals : List Value) (A : Option Addr) (c : Nat) (vs : List Value), k ≤ rows.length ∧ i = .int .i64 (k : Int) ∧ (∀ j, j < k → (rows.getD j []).length ≤ 20) ∧ C0 W mo wr ∧ Blk wr (z + 1) tE3 [.slice A k c] ∧ BB W.heap.size (bks rows k) vals (.slice A k c) wr ∧ LR W.heap.size (bk rows k) vs b6 wr) (fun _ i _ => rows.length - (intOf i).toNat)
  case atStart => exact ⟨0, [], _, 0, [], Nat.zero_le _, rfl, fun j hj => by omega, HC4.out, HB5.out, HBB.out, HLR.out⟩
  case round =>
    obtain ⟨k, vals, A, c, vs, hk, rfl, hl20, hC, hB5, hBB, hLR⟩ := hrel
    by_cases hlt : k < rows.length
    · obtain ⟨r, hx⟩ : ∃ x, rows[k] = x := ⟨_, rfl⟩
      have hx2 : rows[k]? = some r := by rw [List.getElem?_eq_getElem hlt, hx]
      have hgd : rows.getD k [] = r := by rw [List.getD_eq_getElem?_getD, hx2]; rfl
      have hur := hU _ (List.mem_of_getElem? hx2)
      obtain ⟨b3, off3, c4, A3, c3, e1, r0, hpc⟩ := (H.out.below hC.bel).at hx2
      obtain ⟨rfl, rfl⟩ : A1 = some ⟨b3, off3, none⟩ ∧ c1 = c4 := by injection e1 with e1 e2 e3; exact ⟨e1, e3⟩
      have hbs : bk rows (k + 1) = applyL (bk rows k) r := by rw [← hgd]; rfl
      have hfit := bk_fit2 hU (k := k) (by omega) hl20
      by_cases h20 : 20 < r.length
      · have c6 := hC.b6.cell (i := 0) rfl
        have f6 := hC.b6.frozen 0
        have hfin := hC.b6.set 0 (.bool true)
        have HB := Lib.hid (hC.bel.setCell (p := ⟨W.heap.size + 1, 0, none⟩) (by simp) (.bool true))
        have c7 := hfin.cell (i := 0) rfl
        have g2 : (20 : Int) < (r.length : Int) := by omega
        clear hfin hx hx2 hgd e1 hpc hbs hfit hC hB5 hBB hLR hl20
        go_wp2_with fail
        refine ⟨.bool true, (results_cell1 rfl _ _ _).trans ?_, rfl, HB.out⟩
        go_simp
      have g2 : ¬ (20 : Int) < (r.length : Int) := by omega
      have hl20' : ∀ j, j < k + 1 → (rows.getD j []).length ≤ 20 := fun j hj => by
        by_cases hjk : j < k
        · exact hl20 j hjk
        · obtain rfl : j = k := by omega
          rw [hgd]; omega
      have hap := apply_any wr _ _ (bk rows k) r (hLR.pee (fun l hl => by have := hfit.short l hl; omega)) hpc hfit.ue hur (by have := hfit.len; omega) hfit.short (by omega)
      rw [← hbs] at hap
      obtain ⟨A6, c6, rfl⟩ := own_sl hLR.own
      have HAP := Lib.hid hap; have HC := Lib.hid hC; have HB5 := Lib.hid hB5; have HBB := Lib.hid hBB; have HL20 := Lib.hid hl20'
      clear hx hx2 hgd e1 hpc hbs hfit hC hB5 hBB hLR hl20 hl20' hap
      go_wp2_with fail
      refine HAP.out.mono ?_; rintro e w5 ⟨o5, vs5, rfl, hL5, hb5⟩
      obtain ⟨A5, c5, rfl⟩ := own_sl hL5.own
      have hal : Below w5.heap.size w5 (w5.alloc (.cells #[.slice A5 (bk rows (k + 1)).length c5] tEss)) := (Below.refl _ w5).alloc (Nat.le_refl _) _
      have hb6 := hb5.trans (hal.mono hb5.size)
      have HL6 := Lib.hid ((hL5.below hal).weaken HC.out.bel.size)
      have HC6 := Lib.hid (HC.out.below hb6); have HB6 := Lib.hid (HB5.out.belowS hb6); have HBB6 := Lib.hid (HBB.out.below hb6)
      have HNB := Lib.hid (news_blk (Blk.new w5 [.slice A5 (bk rows (k + 1)).length c5] tEss))
      have d5 := (HB5.out.belowS hb5).cell (i := 0) rfl
      have hown := HBB6.out.own
      rw [bks_len] at hown
      have HWK := Lib.hid hown
      clear hL5 hb5 hal hb6 hown
      go_wp2_with (first | (at_builtin; refine wpList_append_own_at _ rfl _ _ tE3 rfl W.heap.size tEss i0 _ 1 24 Try.underlying95 hi0 hiz0 hiz1 hiz2 rfl (by decide) _ k _ rfl HWK.out ⟨w5.heap.size, 0, none⟩ 1 1 [.slice A5 (bk rows (k + 1)).length c5] rfl rfl HNB.out (by simp [Value.oneCell']) (by unfold maxLen; omega) (by omega) HC6.out.bel.size ?_; intro v6 w6 hown6 hgrow6 hnil6 hloc6; obtain ⟨A7, c7, rfl⟩ := own_sl hown6; have hb9 := blk_typed HB6.out hgrow6 (fun r e => (own_typ HWK.out r e).2) (by decide); have d9 := hb9.cell (i := 0) rfl; have e9 := hb9.frozen 0) | fail)
      have hrw := fun r e => (own_typ HWK.out r e).2
      have hgs := grownBy_setAt w6 (z + 1) 0 (.slice A7 (k + 1) c7)
      have hrs := blk_row_of hb9
      have hC7 := HC6.out.typed hgrow6 hrw (fun r e => (own_typ HWK.out r e).1) (by decide) (by decide)
      have hC8 := hC7.typed hgs hrs (fun r e => by injection e with e; omega) (by decide) (by decide)
      have hL8 := (HL6.out.typed hgrow6 hrw (by decide) (by decide)).typed hgs hrs (by decide) (by decide)
      have hBB7 := HBB6.out.push HL6.out (by rw [bks_len]; exact hown6) hgrow6
      have hBB8 := hBB7.typed hgs hrs (by decide) (by decide) (by decide)
      rw [← bks_succ] at hBB8
      have hB8 := hb9.set 0 (.slice A7 (k + 1) c7)
      refine ⟨⟨k + 1, _, A7, c7, vs5, by omega, by simp, HL20.out, hC8, hB8, hBB8, hL8⟩, ?_⟩
      simp [intOf]; omega
    · obtain rfl : k = rows.length := by omega
      have hl : ∀ r ∈ rows, r.length ≤ 20 := fun r hr => by
        obtain ⟨j, hj, rfl⟩ := List.getElem_of_mem hr
        have := hl20 j hj
        rw [List.getD_eq_getElem?_getD, List.getElem?_eq_getElem hj] at this
        exact this
      have hm := i64_and15r mo
      obtain ⟨m, hmd⟩ : ∃ m, bits .and .i64 mo 15 = m := ⟨_, rfl⟩
      rw [hmd] at hm
      obtain ⟨M, hM⟩ : ∃ M : Nat, 1 + m = (M : Int) := ⟨(1 + m).toNat, by omega⟩
      have hM1 : 1 ≤ M := by omega
      have hM16 : M ≤ 16 := by omega
      obtain ⟨hm0, hm15⟩ := hm
      have c3 := hC.b5.cell (i := 0) rfl
      have f3 := hC.b5.frozen 0
      have c5 := hB5.cell (i := 0) rfl
      obtain ⟨w0, hw0⟩ : ∃ w0, wr.setCell ⟨W.heap.size, 0, none⟩ (.int .i64 (M : Int)) = w0 := ⟨_, rfl⟩
      have hgs := grownBy_setAt wr W.heap.size 0 (.int .i64 (M : Int))
      rw [hw0] at hgs
      have hrs := blk_row_of hC.b5
      have b3 : Blk w0 W.heap.size 3 [.int .i64 (M : Int)] := by rw [← hw0]; exact hC.b5.set 0 _
      have b4 := blk_typed hC.b6 hgs hrs (by decide)
      have b5 := blk_typed hB5 hgs hrs (by decide)
      have hbb := hBB.typed hgs hrs (by decide) (by decide) (by decide)
      have hz0 : w0.heap.size = wr.heap.size := by rw [← hw0]; simp [World.setCell]
      have hb0 : Below W.heap.size W w0 := hC.bel.grown hgs hC.bel.size (fun r e => by injection e with e; omega)
      have hbs : ∀ b ∈ bks rows rows.length, Fit b := fun b hb => by
        obtain ⟨j, hj, rfl⟩ := List.getElem_of_mem hb
        rw [bks_len] at hj
        have := bks_at (rows := rows) hj
        rw [List.getElem?_eq_getElem (by rw [bks_len]; exact hj)] at this
        rw [Option.some.inj this]
        exact bk_fit hU hl (by omega)
      have hp3 := hbb.p3 (fun b hb l hl' => by have := (hbs b hb).short l hl'; omega)
      have HP3 := Lib.hid hp3; have HB3 := Lib.hid b3; have HB4 := Lib.hid b4; have HB5 := Lib.hid b5; have HB0 := Lib.hid hb0; have HW0 := Lib.hid hw0; have HZ0 := Lib.hid hz0; have HBS := Lib.hid hbs; have HLL := Lib.hid hl
      have hwb := hC.b5.lt
      have hzl : z + 1 < wr.heap.size := (cell_spot c5).2
      have c5f : ((((wr.setCell ⟨W.heap.size, 0, none⟩ (.int .i64 (M : Int))).alloc (.cells #[.int .i64 0] 3)).alloc (.cells #[] tEs)).alloc (.cells #[.slice (some ⟨wr.heap.size + 1, 0, none⟩) 0 0] tEss)).cell? ⟨z + 1, 0, none⟩ = some (.slice A rows.length c) := by
        rw [hw0]
        exact (((b5.alloc _).alloc _).alloc _).cell (i := 0) rfl
      clear hgs hrs b3 b4 b5 hbb hz0 hb0 hbs hp3 hw0 hl hBB hLR hB5 hl20 hC
      go_wp2_with fail
      refine (steps_any _ _ _ _).mono ?_; rintro e w7 ⟨rfl, hw7⟩
      rw [HW0.out] at hw7
      obtain ⟨N, hN⟩ : ∃ N, wr.heap.size = N := ⟨_, rfl⟩
      have hz0N : w0.heap.size = N := by rw [HZ0.out]; exact hN
      simp only [World.size_alloc, HW0.out, hN] at hw7 ⊢
      simp only [hz0N] at hw7 ⊢
      have hS0 : SI w0 rows M (.slice A rows.length c) 0 w7 := by
        have e1 : (w0.alloc (.cells #[.int .i64 0] 3)).heap.size = N + 1 := by rw [World.size_alloc, hz0N]
        refine ⟨?_, ?_, ⟨some ⟨N + 1, 0, none⟩, 0, [], N + 1, ?_, ?_⟩, ?_, by omega⟩
        · rw [hw7]; exact ((((Below.refl _ w0).alloc (Nat.le_refl _) _).alloc (by simp) _).alloc (by simp; omega) _).alloc (by simp; omega) _
        · rw [hw7]; exact (((Blk.new w0 [.int .i64 0] 3).alloc _).alloc _).alloc _
        · rw [hw7, hz0N]
          have h1 := (Blk.new2 (w0.alloc (.cells #[.int .i64 0] 3)) (.cells #[] tEs) [.slice (some ⟨N + 1, 0, none⟩) 0 0] tEss).alloc (.cells #[.slice A rows.length c] tE3)
          rw [e1] at h1
          exact h1
        · rw [hw7]
          have h1 := lr_nil (w0.alloc (.cells #[.int .i64 0] 3))
          rw [e1] at h1
          exact h1.below (((Below.refl _ _).alloc (Nat.le_refl _) _).alloc (by simp) _)
        · rw [hw7, hz0N]
          have h1 := Blk.new (((w0.alloc (.cells #[.int .i64 0] 3)).alloc (.cells #[] tEs)).alloc (.cells #[.slice (some ⟨N + 1, 0, none⟩) 0 0] tEss)) [.slice A rows.length c] tE3
          simp only [World.size_alloc, hz0N] at h1
          exact h1
      have hz7 : w7.heap.size = N + 1 + 1 + 1 + 1 := by rw [hw7]; simp [hz0N]
      have IT := steps_iter 3 (w0.heap.size + 1 + 1 + 1) (.slice A rows.length c) vals (bks rows rows.length) HBS.out (by rw [bks_len]; omega) (fun k W' => SI w0 rows M (.slice A rows.length c) k W')
        (fun k W' h => ⟨h.bx.cell rfl, HP3.out.below h.bel⟩) (fun k A C h hb => h.below hb)
      rw [hz0N] at IT
      have HS0 := Lib.hid hS0; have HN := Lib.hid hz0N; have HZ7 := Lib.hid hz7
      clear hw7 hS0 hz7 c3 c5 f3 c5f hz0N
      go_wp2_with fail
      have hN7 : N ≤ w7.heap.size := by have := HZ7.out; omega
      have hsI : ∀ k, OwnFrom w7.heap.size (fun (_ : Unit) W' => SI w0 rows M (.slice A rows.length c) k W') := fun k => SI.ownF w0 rows M _ k (by have := HN.out; omega)
      refine wpIn_wide.1 (range_gen (F := Fence.wide) (n := 4) rfl (by omega) (gf := 92) (lb := #[.pointer (some ⟨N + 1 + 1 + 1, 0, none⟩)]) rfl trivial (enters_of Try.func92 (by kernel_rfl) rfl) (encs := fun x : Nat × Value => #[x.2]) (fun _ => rfl)
        (fun W' => SI w0 rows M (.slice A rows.length c) 0 W')
        (fun x W' => x.1 < (bks rows rows.length).length ∧ PC W' x.2 (stD (bks rows rows.length) x.1) ∧ SI w0 rows M (.slice A rows.length c) x.1 W')
        (fun x W' => SI w0 rows M (.slice A rows.length c) (x.1 + 1) W')
        (fun c W' => c = .exit 2 ∧ M ≤ rows.length ∧ SE w0 M W')
        (fun W' => SI w0 rows M (.slice A rows.length c) (bks rows rows.length).length W')
        (fun x a' W' => a' = { tmps := #[.slice A1 rows.length c1, .int .i64 mo, undef, .pointer (some ⟨W.heap.size, 0, none⟩), .pointer (some ⟨W.heap.size + 1, 0, none⟩), .pointer (some ⟨z + 1, 0, none⟩), u6, undef, u8, .pointer (some ⟨N, 0, none⟩), .pointer (some ⟨N + 1 + 1, 0, none⟩), x.2, undef, undef, .bool true, .bool false, .slice A1 rows.length c1, .int .i64 (rows.length : Int), .bool (decide (10 < (rows.length : Int))), .slice (some ⟨z, 0, none⟩) 0 0, .slice (some ⟨z + 1 + 1, 0, none⟩) 0 0, .slice A1 rows.length c1, .int .i64 (rows.length : Int), .int .i64 (rows.length : Int), .bool false, u25, u26, u27, u28, u29, u30, u31, u32, u33, u34, u35, u36, u37, .int .i64 mo, .int .i64 m, .int .i64 (M : Int), .slice (some ⟨N + 1, 0, none⟩) 0 0, .slice A rows.length c, .func (.func 92) #[] #[.pointer (some ⟨N + 1 + 1 + 1, 0, none⟩)], x.2, undef, undef, undef, undef, undef, undef, undef, undef, undef, undef, undef, undef, undef, undef, undef, undef, undef, undef, undef, undef, undef, undef, undef, undef, undef, undef, undef, undef, undef, undef, undef, undef, undef, undef, undef, undef, undef, undef, undef, undef, undef, undef, undef, undef, undef, undef, undef, undef, undef], defers := [] } ∧ x.1 < (bks rows rows.length).length ∧ PC W' x.2 (stD (bks rows rows.length) x.1) ∧ SI w0 rows M (.slice A rows.length c) x.1 W')
        (hsI _)
        (fun x => hsI _)
        (fun c s A B row hs hg hr => ⟨hs.1, hs.2.1, SE.ownF w0 M (by have := HN.out; omega) () A B row hs.2.2 hg hr⟩)
        (hsI _)
        (fun x a' => OwnFrom.and (fun _ _ _ _ hs _ _ => hs) (OwnFrom.and (fun _ _ _ _ hs _ _ => hs) (OwnFrom.and (PC.ownF _ _ _) (hsI _))))
        HS0.out IT ?assign ?body ?done ?stop)
      case assign =>
        clear IT hsI
        rintro l x W' K ⟨hk1, hk2, hk3⟩ hK
        have HK := Lib.hid (fun a' h => hK a' W' (KeepsFrom.refl _ _) ⟨h, hk1, hk2, hk3⟩)
        clear hK hk1 hk2 hk3
        obtain ⟨k, v⟩ := x
        gi_wp2
        exact HK.out _ rfl
      case body =>
        clear IT hsI
        rintro l x a' W' hl hr ⟨rfl, hxk, hpc, hS⟩
        obtain ⟨k, v⟩ := x
        dsimp only at hxk hpc hS ⊢
        rw [bks_len] at hxk
        obtain ⟨Av, cv, rfl, -⟩ := id hpc
        obtain ⟨Ac, cc, vsc, Bc, hbc, hLc⟩ := hS.cp
        have hok := (bk_fit hU HLL.out (k := k + 1) (by omega)).ok (was := bk rows k)
        have hdl := diff_len (bk rows k) (bk rows (k + 1))
        have htt := (bk_fit hU HLL.out (k := k + 1) (by omega)).tot
        rw [← bks_st hxk] at hok hdl
        have hap := apply_any W' _ _ (cop rows k) _ (hLc.pee (fun l hl => by have := cop_short hU HLL.out (k := k) (by omega) l hl; omega)) hpc (cop_ue hU HLL.out k) (fun q hq => (hok q hq).2.1) (by have := cop_len rows k; omega) (cop_short hU HLL.out (by omega)) (by omega)
        rw [← cop_succ hxk] at hap
        have d10 := hbc.cell (i := 0) rfl
        rw [HN.out] at d10
        have HAP := Lib.hid hap; have HS := Lib.hid hS; have HBC := Lib.hid hbc
        clear hap hok hdl htt hpc hLc hbc hS
        gi_wp2_with fail
        refine ⟨trivial, ?_⟩
        refine (CallsIn.inRound l (callsIn_wide.2 HAP.out)).mono ?_; rintro e w2 ⟨o2, vs2, rfl, hL2, hb2⟩
        obtain ⟨A2, c2, rfl⟩ := own_sl hL2.own
        obtain ⟨b, hb⟩ : ∃ b, bk rows (k + 1) = b := ⟨_, rfl⟩
        obtain ⟨cp, hcp⟩ : ∃ cp, cop rows (k + 1) = cp := ⟨_, rfl⟩
        have hcat := cop_at hU HLL.out (k + 1)
        have hfb := bk_fit hU HLL.out (k := k + 1) (by omega)
        have hba := bks_at (rows := rows) hxk
        have hcl := cop_len rows (k + 1)
        rw [hb, hcp] at hcat
        rw [hb] at hfb hba
        rw [hcp] at hL2 hcl ⊢
        have hbc2 := HBC.out.belowS hb2
        have hS2 := HS.out.below hb2
        have hgs := grownBy_setAt w2 (N + 1 + 1) 0 (.slice A2 cp.length c2)
        have hbc3 := hbc2.set 0 (.slice A2 cp.length c2)
        rw [HN.out] at hbc2 hbc3
        have hrs := blk_row_of hbc2
        obtain ⟨w3, hw3⟩ : ∃ w3, w2.setCell ⟨N + 1 + 1, 0, none⟩ (.slice A2 cp.length c2) = w3 := ⟨_, rfl⟩
        rw [hw3] at hgs
        have hbc3' : Blk w3 (N + 1 + 1) tEss [.slice A2 cp.length c2] := by rw [← hw3]; exact hbc3
        have hL3 := hL2.typed hgs hrs (by decide) (by decide)
        have hbl3 : Below w0.heap.size w0 w3 := hS2.bel.grown hgs hS2.bel.size (fun r e => by injection e with e; have := HN.out; omega)
        have h93 : Blk w3 N 3 [.int .i64 (k : Int)] := by have h1 := blk_typed hS2.b9 hgs hrs (by decide); rw [HN.out] at h1; exact h1
        have hbx3 : Blk w3 (N + 1 + 1 + 1) tE3 [.slice A rows.length c] := by have h1 := blk_typed hS2.bx hgs hrs (by decide); rw [HN.out] at h1; exact h1
        have c10 := hbc2.cell (i := 0) rfl
        have f10 := hbc2.frozen 0
        have c5w := (HB5.out.belowS hbl3).cell (i := 0) rfl
        have c9w := h93.cell (i := 0) rfl
        obtain ⟨g, off, cg, A1b, c1b, e1, hvb, rb, hpb⟩ := (HP3.out.below hbl3).at hba
        rw [bks_len] at e1
        obtain ⟨rfl, rfl⟩ : A = some ⟨g, off, none⟩ ∧ c = cg := by injection e1 with e1 e2 e3; exact ⟨e1, e3⟩
        have hkl : (k : Int) < (rows.length : Int) := by omega
        have hk0 : (0 : Int) ≤ (k : Int) := Int.natCast_nonneg _
        have hko : KeepsOthers W' w3 := (belowOthers hb2).trans (ko_row hgs (fun r e => by obtain ⟨cs, fr, h1⟩ := hrs r e; exact ⟨cs, _, fr, h1⟩))
        have HKO := Lib.hid hko; have HPB := Lib.hid hpb; have HL3 := Lib.hid hL3; have HBL3 := Lib.hid hbl3; have H93 := Lib.hid h93; have HBX3 := Lib.hid hbx3; have HBC3 := Lib.hid hbc3'; have HCAT := Lib.hid hcat; have HFB := Lib.hid hfb; have HCP := Lib.hid hcp; have HKM := Lib.hid HS.out.kM
        have c5s : (w2.setCell ⟨N + 1 + 1, 0, none⟩ (.slice A2 cp.length c2)).cell? ⟨z + 1, 0, none⟩ = some (.slice (some ⟨g, off, none⟩) rows.length c) := by rw [hw3]; exact c5w
        have c9s : (w2.setCell ⟨N + 1 + 1, 0, none⟩ (.slice A2 cp.length c2)).cell? ⟨N, 0, none⟩ = some (.int .i64 (k : Int)) := by rw [hw3]; exact c9w
        have rbs : (w2.setCell ⟨N + 1 + 1, 0, none⟩ (.slice A2 cp.length c2)).cell? ⟨g, off + k, none⟩ = some (.slice A1b b.length c1b) := by rw [hw3]; exact rb
        have HW3 := Lib.hid hw3
        have hbl := hfb.len
        clear hb hcp hcat hfb hba hS2 hgs hbc3 hrs hw3 hbc3' hL2 hL3 hbl3 h93 hbx3 hpb hvb e1 hko hb2 hbc2 HBC HAP d10 HS0 HS
        gi_wp2_with fail
        simp only [HW3.out]
        clear c5s c9s rbs c10 f10 c5w c9w rb
        gi_loopw [53] (fun i ws => ∃ q : Nat, q ≤ b.length ∧ i = .int .i64 (q : Int) ∧ Below w3.heap.size w3 ws) (fun i _ => b.length - (intOf i).toNat)
        case atStart => exact ⟨0, Nat.zero_le _, rfl, Below.refl _ w3⟩
        case round =>
          obtain ⟨q, hq, rfl, hB4⟩ := hrel
          have c10w := (HBC3.out.belowS hB4).cell (i := 0) rfl
          have q0 : (0 : Int) ≤ (q : Int) := Int.natCast_nonneg _
          by_cases hql : q < b.length
          · obtain ⟨es, hx⟩ : ∃ es, b[q] = es := ⟨_, rfl⟩
            have hx2 : b[q]? = some es := by rw [List.getElem?_eq_getElem hql, hx]
            have hge : b.getD q [] = es := by rw [List.getD_eq_getElem?_getD, hx2]; rfl
            have hes := HFB.out.short es (List.mem_of_getElem? hx2)
            obtain ⟨g2, off2, c4, A4, c5, e2, hlb, r1, hpe⟩ := (HPB.out.below hB4).at hx2
            obtain ⟨rfl, rfl⟩ : A1b = some ⟨g2, off2, none⟩ ∧ c1b = c4 := by injection e2 with e1 e2 e3; exact ⟨e1, e3⟩
            have qb : (q : Int) < (b.length : Int) := by omega
            by_cases hqc : q < cp.length
            · have qc : (q : Int) < (cp.length : Int) := by omega
              have hcx : cp[q]? = some es := by
                have h1 := HCAT.out q
                rw [hge, List.getD_eq_getElem?_getD, List.getElem?_eq_getElem hqc] at h1
                rw [List.getElem?_eq_getElem hqc]
                exact congrArg some h1
              obtain ⟨g3, off3, c6, A6, c7, e3, hlb3, r2, hpe3⟩ := ((HL3.out.pee (fun l hl => by
                obtain ⟨j, rfl⟩ := memL_at hl
                rw [HCAT.out j]
                have := tot_at b j
                have := HFB.out.tot
                omega)).below hB4).at hcx
              obtain ⟨rfl, rfl⟩ : A2 = some ⟨g3, off3, none⟩ ∧ c2 = c6 := by injection e3 with e1 e2 e3; exact ⟨e1, e3⟩
              have HSM := Lib.hid (rsame_t wr _ _ es es hpe3 hpe (by omega) rfl)
              have HB4 := Lib.hid hB4
              clear hx hx2 hge e2 e3 hpe hpe3 hcx hB4
              gi_wp2_with fail
              refine ⟨trivial, ?_⟩
              refine (CallsIn.inRound l (callsIn_wide.2 HSM.out)).mono ?_; rintro e w5 ⟨rfl, hb5⟩
              have HB5' := Lib.hid (HB4.out.trans (hb5.mono HB4.out.size))
              have c10x := (HBC3.out.belowS HB5'.out).cell (i := 0) rfl
              clear hb5 HSM r1 r2 c10w
              gi_wp2_with fail
              go_roundw
              case rel => exact ⟨q + 1, by omega, by simp, HB5'.out⟩
              case measure => simp [intOf]; omega
            · have qc : ¬ (q : Int) < (cp.length : Int) := by omega
              have hnil : es = [] := by
                have h1 := HCAT.out q
                rw [hge, List.getD_eq_getElem?_getD, List.getElem?_eq_none (by omega)] at h1
                exact h1.symm
              subst hnil
              simp only [List.length_nil] at r1
              have HB4 := Lib.hid hB4
              clear hx hx2 hge e2 hpe hB4
              gi_wp2_with fail
              refine ⟨trivial, ?_⟩
              gi_wp2_with fail
              go_roundw
              case rel => exact ⟨q + 1, by omega, by simp, HB4.out⟩
              case measure => simp [intOf]; omega
          · obtain rfl : q = b.length := by omega
            have c9 := (H93.out.belowS hB4).cell (i := 0) rfl
            have f9 := (H93.out.belowS hB4).frozen 0
            have hbl4 : Below w0.heap.size w0 wr := HBL3.out.trans (hB4.mono HBL3.out.size)
            have hb3 := HB3.out.belowS hbl4
            have c3 := hb3.cell (i := 0) rfl
            have hne : W.heap.size ≠ N := by have := HB3.out.lt; have := HN.out; omega
            have c3s := (hb3.other (p := ⟨N, 0, none⟩) (by simpa using hne) (.int .i64 ((k : Int) + 1))).cell (i := 0) rfl
            have hs9 := (H93.out.belowS hB4).set 0 (.int .i64 ((k : Int) + 1))
            have c9s := hs9.cell (i := 0) rfl
            have HBL4 := Lib.hid hbl4; have HKO4 := Lib.hid (HKO.out.trans ((belowOthers hB4).trans (KeepsOthers.setCell wr ⟨N, 0, none⟩ (.int .i64 ((k : Int) + 1)))))
            have hset := grownBy_setAt wr N 0 (.int .i64 ((k : Int) + 1))
            have HBS4 := Lib.hid (hbl4.grown hset hbl4.size (fun r e => by injection e with e; have := HN.out; omega))
            have HS9 := Lib.hid hs9
            have hrs := blk_row_of (H93.out.belowS hB4)
            have HBC4 := Lib.hid (blk_typed (HBC3.out.belowS hB4) hset hrs (by decide)); have HBX4 := Lib.hid (blk_typed (HBX3.out.belowS hB4) hset hrs (by decide)); have HL4 := Lib.hid ((HL3.out.below hB4).typed hset hrs (by decide) (by decide))
            have hk64 : (k : Int) + 1 ≤ 9223372036854775807 := by omega
            clear hb3 hs9 hset hrs hbl4 hB4 c10w
            by_cases hkM : k + 1 = M
            · have hkMI : (k : Int) + 1 = (M : Int) := by omega
              have h1 := HKO4.out
              have h2 := HBS4.out
              have h3 := HS9.out
              rw [hkMI] at h1 h2 h3
              have HK1 := Lib.hid h1; have HK2 := Lib.hid h2; have HK3 := Lib.hid h3
              clear h1 h2 h3
              gi_wp2_with fail
              refine ⟨HK1.out.from _, rfl, by omega, HK2.out, ?_⟩
              rw [HN.out]
              exact HK3.out
            · have hkMI : ¬ (k : Int) + 1 = (M : Int) := by omega
              have hkMB : ((k : Int) + 1 == (M : Int)) = false := by simpa using hkMI
              have hcast : ((k + 1 : Nat) : Int) = (k : Int) + 1 := by omega
              gi_wp2_with fail
              have hkm := HKM.out
              refine ⟨HKO4.out.from _, HBS4.out, ?_, ⟨A2, c2, vs2, W'.heap.size, ?_, ?_⟩, ?_, by omega⟩
              · rw [HN.out, hcast]; exact HS9.out
              · rw [HN.out, HCP.out]; exact HBC4.out
              · rw [HCP.out]; exact HL4.out
              · rw [HN.out]; exact HBX4.out
      case done =>
        clear IT hsI
        rintro D W' hD hS hK
        rw [bks_len] at hS
        have hkM := hS.kM
        have hbel := hS.bel
        have c9 := hS.b9.cell (i := 0) rfl
        rw [HN.out] at c9
        have hb3 := HB3.out.belowS hbel
        have hb4 := HB4.out.belowS hbel
        have c3 := hb3.cell (i := 0) rfl
        have c5 := (HB5.out.belowS hbel).cell (i := 0) rfl
        have c4 := hb4.cell (i := 0) rfl
        have f4 := hb4.frozen 0
        have hbw : Below W.heap.size W W' := HB0.out.trans (hbel.mono HB0.out.size)
        have hD1 : W.heap.size + 1 < D := by have := HB4.out.lt; have := HN.out; omega
        have HK := Lib.hid hK; have HBW := Lib.hid hbw; have HB4' := Lib.hid hb4
        clear hbel hb3 hb4 hbw hK hS
        go_wp2_with fail
        rw [show (((rows.length : Nat) : Int) == min (M : Int) ((rows.length : Nat) : Int)) = true from by rw [beq_iff_eq]; omega]
        have hkd := (Below.heap_setCell W' ⟨W.heap.size + 1, 0, none⟩ (.bool true) D (by simp; omega)).trans HK.out
        have hgp := grownBy_putObj' (W'.setCell ⟨W.heap.size + 1, 0, none⟩ (.bool true)) D (.deferred none)
        have hbb := HBW.out.setCell (p := ⟨W.heap.size + 1, 0, none⟩) (by simp) (.bool true)
        have c6f := ((HB4'.out.set 0 (.bool true)).kept hgp (by simp; omega)).cell (i := 0) rfl
        have HBB' := Lib.hid (hbb.grown hgp hbb.size (fun r e => by cases e; omega)); have HHD := Lib.hid hkd
        clear hkd hgp hbb
        refine ⟨by simp, .inl ⟨_, _, rfl, run_takeDeferred HHD.out, ?_⟩⟩
        refine ⟨.bool true, (results_cell1 rfl _ _ _).trans ?_, rfl, HBB'.out⟩
        go_simp
      case stop =>
        clear IT hsI
        rintro D c' W' hD ⟨rfl, hMn, hS⟩ hK
        have hbel := hS.bel
        have c9 := hS.b9.cell (i := 0) rfl
        rw [HN.out] at c9
        have hb3 := HB3.out.belowS hbel
        have hb4 := HB4.out.belowS hbel
        have c3 := hb3.cell (i := 0) rfl
        have c5 := (HB5.out.belowS hbel).cell (i := 0) rfl
        have c4 := hb4.cell (i := 0) rfl
        have f4 := hb4.frozen 0
        have hbw : Below W.heap.size W W' := HB0.out.trans (hbel.mono HB0.out.size)
        have hD1 : W.heap.size + 1 < D := by have := HB4.out.lt; have := HN.out; omega
        have HK := Lib.hid hK; have HBW := Lib.hid hbw; have HB4' := Lib.hid hb4
        clear hbel hb3 hb4 hbw hK hS
        gi_wp2
        go_wp2_with fail
        rw [show ((M : Int) == min (M : Int) ((rows.length : Nat) : Int)) = true from by rw [beq_iff_eq]; omega]
        have hkd := (Below.heap_setCell W' ⟨W.heap.size + 1, 0, none⟩ (.bool true) D (by simp; omega)).trans HK.out
        have hgp := grownBy_putObj' (W'.setCell ⟨W.heap.size + 1, 0, none⟩ (.bool true)) D (.deferred none)
        have hbb := HBW.out.setCell (p := ⟨W.heap.size + 1, 0, none⟩) (by simp) (.bool true)
        have c6f := ((HB4'.out.set 0 (.bool true)).kept hgp (by simp; omega)).cell (i := 0) rfl
        have HBB' := Lib.hid (hbb.grown hgp hbb.size (fun r e => by cases e; omega)); have HHD := Lib.hid hkd
        clear hkd hgp hbb
        refine ⟨by simp, .inl ⟨_, _, rfl, run_takeDeferred HHD.out, ?_⟩⟩
        refine ⟨.bool true, (results_cell1 rfl _ _ _).trans ?_, rfl, HBB'.out⟩
        go_simp
theorem pcc_of {α : Type} {d : Kd α} {g : α → Ch} {W : World} {z : List (List α)} {A : Option Addr} {c : Nat} (hpe : ∀ (x : List α) (A1 : Option Addr) (c1 : Nat), d.C W A1 x.length x → PC W (.slice A1 x.length c1) (x.map g)) (hC : (sliceZ d).C W A z.length z) : PCC W (.slice A z.length c) (z.map (fun x => x.map g)) := by
  refine ⟨A, c, by rw [List.length_map], fun i l hl => ?_⟩
  rw [List.getElem?_map] at hl
  cases hq : z[i]? with
  | none => rw [hq] at hl; simp at hl
  | some x =>
    rw [hq] at hl
    obtain rfl : x.map g = l := by simpa using hl
    have hlt := (List.getElem?_eq_some_iff.1 hq).1
    obtain ⟨b, off, rfl, hlt2⟩ := C_spot hC (by omega) Nat.one_pos
    obtain ⟨a, e0, hr⟩ := hC.2.2 (by omega)
    obtain rfl := Option.some.inj e0
    obtain ⟨cs, hl1, ⟨A1, c1, rfl, h1, h2, h3⟩, hc⟩ := hr i x hq
    have hcell := hc 0 _ rfl
    refine ⟨b, off, A1, c1, rfl, hlt2, ?_, ?_⟩
    · rw [addr_add] at hcell
      rw [List.length_map]
      have e : i * (sliceZ d).sz + 0 = i := by show i * 1 + 0 = i; omega
      rw [e] at hcell
      exact hcell
    · rw [List.length_map]
      exact hpe x A1 c1 h3
theorem steps_row (W : World) (z : List (List (Go.Proofs.Ytnlhgnioedalpaa.PDeltaBooks.S93))) (A : Option Addr) (c : Nat) (_ : z.length ≤ c) (_ : A = none → c = 0) (hC : (sliceZ (Go.Proofs.Ytnlhgnioedalpaa.PDeltaBooks.k93)).C W A z.length z) (_ : z.length ≤ maxLen) (hG : ∀ x ∈ z, x.length ≤ maxLen ∧ ∀ y ∈ x, (Lit.int .i64 y.f0).wf = true ∧ (Lit.int .u64 y.f1.f0).wf = true ∧ (Lit.int .i64 y.f1.f1).wf = true)
    (mo : Int) (_ : (Lit.int .i64 mo).wf = true) :
    Calls Try.prog 13 #[.slice A z.length c, .int .i64 mo] W fun e w' => e = .returned (.bool true) ∧ Below W.heap.size W w' := by
  have h1 : PCC W (.slice A z.length c) (z.map (fun x => x.map frC)) := pcc_of (fun x A1 c1 d => pd_row93 d) hC
  have h2 := steps_core W _ _ h1 (fun r hr q hq => by
    obtain ⟨x, hx, rfl⟩ := List.mem_map.1 hr
    obtain ⟨y, hy, rfl⟩ := List.mem_map.1 hq
    exact U_wf ((hG x hx).2 y hy).2.1) mo
  exact h2
end Go.Proofs.Ytnlhgnioedalpaa.Pri
