/- HeapM4, HeapM5, HeapM6, HeapM7, laid together. -/
import Derived.Test.YtbhpokcnkdgcmaaGr03
import Derived.Deep.AppendLies
import Derived.StillTactics
import Derived.OwnWalk
import Derived.Laws.Pointers
import Derived.Deep.RegionLaw
import Derived.Deep.DeepCutAuto

/- heap M: a thing is brought where it belongs, from above. -/
set_option linter.unusedSimpArgs false
set_option linter.unusedVariables false
namespace Go.Proofs.Ytbhpokcnkdgcmaa.HeapM
open Go.RowKit Go.Proofs.Ytbhpokcnkdgcmaa.HeapL

/-- what the loop reads of the object -/
theorem HM.cells {W : World} {base p : Nat} {bf : Value} {es : List El} {T : Nat} (h : HM W base p bf es T) : ∃ a cap, W.cell? ⟨p, 0, none⟩ = some bf ∧ W.cell? ⟨p, 1, none⟩ = some (.slice a es.length cap) ∧ W.cell? ⟨p, 2, none⟩ = some (.int .i64 (T : Int)) ∧ (∀ j, W.frozen? ⟨p, j, none⟩ = false) := by
  obtain ⟨_, v, h2, h3⟩ := h
  rcases h3.2 with ⟨rfl, h0⟩ | ⟨g, cap, cur, rfl, _⟩
  · exact ⟨none, 0, h2.cell (i := 0) rfl, by rw [h0]; exact h2.cell (i := 1) rfl, h2.cell (i := 2) rfl, fun j => h2.frozen j⟩
  · exact ⟨_, cap, h2.cell (i := 0) rfl, h2.cell (i := 1) rfl, h2.cell (i := 2) rfl, fun j => h2.frozen j⟩

theorem best_succ_out {f : El → El → Bool} {l : List El} {i : Nat} (h : l.length ≤ i) : ∀ j, best f zE l i j = i
  | 0 => rfl
  | j + 1 => by
    unfold best
    rw [if_neg (by omega)]
    exact best_succ_out h j

set_option maxRecDepth 100000 in
set_option maxHeartbeats 4000000 in
/-- from above -/
theorem down_any (lt : (Int × Int × Int × Option Addr × Nat × Nat) → (Int × Int × Int × Option Addr × Nat × Nat) → Bool) (ho : Ord lt) (W : World) (base p F : Nat) (lb : Array Value) (es : List El) (T : Nat) (i : Int) (i0 : 0 ≤ i) (i1 : i ≤ es.length) (hsm : es.length ≤ 1099511627776)
    (hM : HM W base p (.func (.func F) #[] lb) es T) (hB : BF lt base p W F lb) (hU : DownInv (fst lt) zE es i.toNat) :
    Calls Try.prog 130 #[.pointer (some ⟨p, 0, none⟩), .int .i64 i] W fun e w' => e = .returned (.tuple #[]) ∧ (∃ es', HM w' base p (.func (.func F) #[] lb) es' T ∧ Heap (fst lt) zE es' ∧ es'.Perm es) ∧ Fr base p 160 W w' := by
  go_enter Try.func130, Try.ntmps130
  go_wp2_with fail
  go_loopw [1] (fun i wr => ∃ (j : Nat) (es1 : List El), i = .int .i64 j ∧ j ≤ es.length ∧ HM wr base p (.func (.func F) #[] lb) es1 T ∧ DownInv (fst lt) zE es1 j ∧ es1.Perm es ∧ Fr base p 160 W wr) (fun i _ => es.length - (intOf i).toNat)
  case atStart => exact ⟨i.toNat, es, by rw [Int.toNat_of_nonneg i0], by omega, hM, hU, List.Perm.refl _, Fr.refl _ _ _ _⟩
  case round =>
    obtain ⟨j, es1, rfl, hj, hM1, hU1, hp1, hF1⟩ := hrel
    have hl1 := hp1.length_eq
    have hbs1 : base ≤ wr.heap.size := by have := hM1.lt; omega
    have HB := hB.step hF1
    have HFo := fst_ord ho
    have j3 : (j : Int) ≤ 1099511627776 := by omega
    have j0 : (0 : Int) ≤ (j : Int) := by omega
    obtain ⟨wo, rfl⟩ : ∃ wo : World, wo = wr := ⟨_, rfl⟩
    go_wp2_with fail
    go_loopw [4, 5] (fun b k wq => ∃ (m : Nat), m ≤ 2 ∧ k = .int .i64 (2 * (j : Int) + 1 + m) ∧ b = .int .i64 (best (fst lt) zE es1 j m : Nat) ∧ Below wo.heap.size wo wq) (fun _ k _ => (2 * (j : Int) + 3 - intOf k).toNat)
    case atStart => exact ⟨0, by omega, by simp, rfl, Below.refl _ _⟩
    case round =>
      obtain ⟨m, hm, rfl, rfl, hb2⟩ := hrel
      have hbs2 : base ≤ wr.heap.size := Nat.le_trans hbs1 hb2.size
      have hM2 := hM1.below hb2
      have HB2 := HB.step (Fr.ofB hb2 hbs1)
      obtain ⟨sa, cap, c0, c1, c2, cf⟩ := hM2.cells
      by_cases hin : m < 2 ∧ 2 * j + 1 + m < es1.length
      · obtain ⟨hm2, hkl⟩ := hin
        have hjl : j < es1.length := by omega
        have hbl := best_lt (f := fst lt) (z := zE) hjl m
        have hbs : best (fst lt) zE es1 j (m + 1) = if 2 * j + 1 + m < es1.length ∧ fst lt (gt zE es1 (2 * j + 1 + m)) (gt zE es1 (best (fst lt) zE es1 j m)) = true then 2 * j + 1 + m else best (fst lt) zE es1 j m := rfl
        have t1 : 2 * (j : Int) + 1 + (m : Int) ≤ 2 * (j : Int) + 2 := by omega
        have t2 : 2 * (j : Int) + 1 + (m : Int) < (es1.length : Int) := by omega
        have hkn : (2 * (j : Int) + 1 + (m : Int)).toNat = 2 * j + 1 + m := by omega
        generalize best (fst lt) zE es1 j m = b at *
        have hc1 := fun w1 h1 h2 h3 => first_int lt w1 base p F lb es1 T (2 * (j : Int) + 1 + (m : Int)) (b : Int) (by omega) t2 (by omega) (by omega) h1 h2 h3
        rw [hkn, Int.toNat_natCast] at hc1
        have C1 := Lib.hid hc1; clear hc1
        cases hf : fst lt (gt zE es1 (2 * j + 1 + m)) (gt zE es1 b)
        · rw [hf, if_neg (by simp)] at hbs
          have H := Lib.hid hf; clear hf
          have HBs := Lib.hid hbs; clear hbs
          have HK := Lib.hid hkn; clear hkn
          clear HFo hU1
          go_wp2_with fail
          refine (C1.out _ hbs2 hM2 HB2).mono ?_; rintro e w3 ⟨rfl, hb3⟩
          rw [H.out]
          go_wp2_with fail
          go_roundw
          case rel => exact ⟨m + 1, by omega, congrArg (Value.int .i64) (by omega), by rw [HBs.out], hb2.trans (hb3.mono hb2.size)⟩
          case measure => simp [intOf]; omega
        · rw [hf, if_pos ⟨hkl, rfl⟩] at hbs
          have H := Lib.hid hf; clear hf
          have HBs := Lib.hid hbs; clear hbs
          have HK := Lib.hid hkn; clear hkn
          clear HFo hU1
          go_wp2_with fail
          refine (C1.out _ hbs2 hM2 HB2).mono ?_; rintro e w3 ⟨rfl, hb3⟩
          rw [H.out]
          go_wp2_with fail
          go_roundw
          case rel => exact ⟨m + 1, by omega, congrArg (Value.int .i64) (by omega), by rw [HBs.out]; exact congrArg (Value.int .i64) (by omega), hb2.trans (hb3.mono hb2.size)⟩
          case measure => simp [intOf]; omega
      · have hbe : best (fst lt) zE es1 j m = best (fst lt) zE es1 j 2 := by
          by_cases h2 : m = 2
          · rw [h2]
          · have := best_out (f := fst lt) (z := zE) (l := es1) (i := j) (j := m) (by omega) (2 - m)
            rw [show m + (2 - m) = 2 from by omega] at this
            exact this.symm
        rw [hbe]
        clear hbe
        have hcase : (2 * (j : Int) + 2 < 2 * (j : Int) + 1 + (m : Int)) ∨ (2 * (j : Int) + 1 + (m : Int) ≤ 2 * (j : Int) + 2 ∧ (es1.length : Int) ≤ 2 * (j : Int) + 1 + (m : Int)) := by omega
        by_cases hstop : best (fst lt) zE es1 j 2 = j
        · have hh := down_stop HFo hU1 hstop
          rw [hstop]
          clear HFo hU1 hstop hin
          rcases hcase with h1 | ⟨h1, h2⟩
          all_goals
            go_wp2_with fail
            refine bodyPost_ret (results_none rfl _ _ _) rfl ?_
            exact ⟨rfl, ⟨es1, hM2, hh, hp1⟩, hF1.ofBelow hb2 hbs1⟩
        · have hjl : j < es1.length := by
            rcases Nat.lt_or_ge j es1.length with h | h
            · exact h
            · exact absurd (best_succ_out h 2) hstop
          have hbl := best_lt (f := fst lt) (z := zE) hjl 2
          have hgt : j < best (fst lt) zE es1 j 2 := by
            rcases best_cases (f := fst lt) (z := zE) (l := es1) (i := j) 2 with h | ⟨q, _, h⟩
            · exact absurd h hstop
            · omega
          have hh := down_step HFo hjl hU1 hstop
          have hsp := swp_perm zE es1 j (best (fst lt) zE es1 j 2) hjl hbl
          generalize best (fst lt) zE es1 j 2 = b at *
          have hne : ((b : Int) == (j : Int)) = false := by simp; omega
          have hc2 := fun w1 h1 => swap_int w1 base p (.func (.func F) #[] lb) es1 T (j : Int) (b : Int) (by omega) (by omega) (by omega) (by omega) h1
          rw [Int.toNat_natCast, Int.toNat_natCast] at hc2
          have C2 := Lib.hid hc2; clear hc2
          clear HFo hU1 hstop hin
          rcases hcase with h1 | ⟨h1, h2⟩
          all_goals
            go_wp2_with fail
            refine (C2.out _ hM2).mono ?_; rintro e w3 ⟨rfl, hM3, hF3⟩
            go_wp2_with fail
            go_roundw
            case rel => exact ⟨b, swp zE es1 j b, rfl, by omega, hM3, hh, hsp.trans hp1, (hF1.ofBelow hb2 hbs1).trans hF3⟩
            case measure => simp [intOf]; omega

end Go.Proofs.Ytbhpokcnkdgcmaa.HeapM

/- heap M: one more is put. -/
set_option linter.unusedSimpArgs false
set_option linter.unusedVariables false
namespace Go.Proofs.Ytbhpokcnkdgcmaa.HeapM
open Go.RowKit Go.Proofs.Ytbhpokcnkdgcmaa.HeapL

theorem infoE : (Try.prog.info? 160).map (fun i => (i.zero, i.size, i.bytes)) = some (some (.agg #[.int .i64 0, .int .i64 0, .int .i64 0, .slice none 0 0, .int .i64 0]), 5, 56) := by kernel_rfl
theorem HM.apart {W : World} {base p : Nat} {bf v T' : Value} {es : List El} (hP : Blk W p 158 [bf, v, T']) (ho : W.ownsRow base 160 5 v es.length (cellsOf ec es)) : v.ownBlock ≠ some p := by
  rcases ho.2 with ⟨rfl, _⟩ | ⟨g, cap, cur, rfl, hb, hg, _⟩
  · simp [Value.ownBlock]
  · intro e
    have e' : g = p := by simpa [Value.ownBlock] using e
    subst e'
    unfold Blk at hP
    rw [hP] at hg
    simp at hg

set_option maxRecDepth 100000 in
set_option maxHeartbeats 4000000 in
/-- one more is put -/
theorem put_any (lt : (Int × Int × Int × Option Addr × Nat × Nat) → (Int × Int × Int × Option Addr × Nat × Nat) → Bool) (ho : Ord lt) (W : World) (base p F : Nat) (lb : Array Value) (es : List El) (T : Nat) (kx vx lix : Int) (sAx : Option Addr) (snx scx : Nat) (hT : T < 1099511627776) (hsm : es.length < 1099511627776)
    (hM : HM W base p (.func (.func F) #[] lb) es T) (hH : Heap (fst lt) zE es) (hB : BF lt base p W F lb) :
    Calls Try.prog 110 #[.pointer (some ⟨p, 0, none⟩), (.agg #[.int .i64 kx, .int .i64 vx, .int .i64 lix, .slice sAx snx scx])] W fun e w' => e = .returned (.tuple #[]) ∧ (∃ es', HM w' base p (.func (.func F) #[] lb) es' (T + 1) ∧ Heap (fst lt) zE es' ∧ es'.Perm (es ++ [((kx, vx, lix, sAx, snx, scx), T)])) ∧ Fr base p 160 W w' := by
  obtain ⟨i0, hi0, hz0, hz1, hz2⟩ := info_parts infoE
  have hlt := hM.lt
  obtain ⟨hbp, v, hP, hR⟩ := hM
  have hap := HM.apart hP hR
  have c1 := hP.cell (i := 1) rfl
  have c2 := hP.cell (i := 2) rfl
  have f1 := hP.frozen 1
  have f2 := hP.frozen 2
  have hpl := hP.lt
  have hmx : es.length + 1 ≤ maxLen := by unfold maxLen; omega
  go_enter Try.func110, Try.ntmps110
  go_wp2_with fail
  go_cut [] (fun wx => ∃ v1, Blk wx p 158 [.func (.func F) #[] lb, v1, .int .i64 (T : Int)] ∧ wx.ownsRow base 160 5 v1 (es ++ [((kx, vx, lix, sAx, snx, scx), T)]).length (cellsOf ec (es ++ [((kx, vx, lix, sAx, snx, scx), T)])) ∧ Fr base p 160 W wx)
  case first =>
    go_region_law ((refine step_append_lies _ (by rfl) _ _ _ (by rfl) base 160 i0 _ 5 56 Try.underlying156 hi0 hz0 hz1 hz2 rfl (by omega) v es.length (cellsOf ec es) (by rfl) (((hR.alloc _).alloc _).drew) ⟨W.heap.size + 1, 0, none⟩ 1 1 [.int .i64 kx, .int .i64 vx, .int .i64 lix, .slice sAx snx scx, .int .i64 (T : Int)] (by rfl) (by rfl) (news_blk (Blk.new2 W _ [.int .i64 kx, .int .i64 vx, .int .i64 lix, .slice sAx snx scx, .int .i64 (T : Int)] 160).drew) (by simp [Value.oneCell']) (by omega) hmx (by omega) (by simp; omega) (W.heap.size + 1 + 1) (by simp) ?_; intro gg cap w1 hown1 hgrow hat hlt1; have hP1 := (((hP.alloc _).alloc _).drew).kept hgrow (Ne.symm hap); have d1 := hP1.cell (i := 1) rfl; have g1 := hP1.frozen 1))
    all_goals
      go_wp2_with fail
      go_meet
      have hF1 : Fr base p 160 W w1 := ((((Fr.refl base p 160 W).alloc (by omega) _).alloc (by simp; omega) _).drew).grown hgrow (by simp; omega) (fun k hk => own_typ (((hR.alloc _).alloc _).drew) k hk)
      refine ⟨_, hP1.set 1 _, ?_, hF1.setP hbp 1 _⟩
      have hap1 := own_apart hP1 hown1 (by decide)
      have ho1 := own_setCell hown1 hap1 1 (.slice (some ⟨gg, 0, none⟩) (es.length + 1) cap)
      rw [show (es ++ [((kx, vx, lix, sAx, snx, scx), T)]).length = es.length + 1 from by simp, cellsOf_append, cellsOf_one]
      exact ho1
  case rest =>
    obtain ⟨v1, hP1, hR1, hF1⟩ := hcut
    have d1 := hP1.cell (i := 1) rfl
    have d2 := hP1.cell (i := 2) rfl
    have g2 := hP1.frozen 2
    have hM1 : HM (wc.setCell ⟨p, 2, none⟩ (.int .i64 ((T : Int) + 1))) base p (.func (.func F) #[] lb) (es ++ [((kx, vx, lix, sAx, snx, scx), T)]) (T + 1) := ⟨hbp, v1, hP1.set 2 _, own_setCell hR1 (own_apart hP1 hR1 (by decide)) 2 _⟩
    have hF2 := hF1.setP hbp 2 (.int .i64 ((T : Int) + 1))
    have hv : ∃ a cap, v1 = .slice a (es ++ [((kx, vx, lix, sAx, snx, scx), T)]).length cap := by
      rcases hR1.2 with ⟨_, h0⟩ | ⟨g, cap, cur, rfl, _⟩
      · simp at h0
      · exact ⟨_, cap, rfl⟩
    obtain ⟨a1, cap1, rfl⟩ := hv
    have hln : (es ++ [((kx, vx, lix, sAx, snx, scx), T)]).length = es.length + 1 := by simp
    have hU := up_start hH ((kx, vx, lix, sAx, snx, scx), T)
    rw [hln] at d1
    have hB2 := hB.step hF2
    clear hP hR c1 c2 f1 f2 hH hB hap hP1 hR1
    have HLN := Lib.hid hln; clear hln
    go_wp2_with fail
    have hup := up_any lt ho _ base p F lb _ (T + 1) (es.length : Int) (by omega) hM1 hB2 (by rw [Int.toNat_natCast]; exact hU)
    refine hup.mono ?_; rintro e w3 ⟨rfl, ⟨es', hM3, hH3, hp3⟩, hF3⟩
    go_wp2_with fail
    go_end0
    exact ⟨rfl, ⟨es', hM3, hH3, hp3⟩, hF2.trans hF3⟩

end Go.Proofs.Ytbhpokcnkdgcmaa.HeapM

/- heap M: the first one; it is taken out. -/
set_option linter.unusedSimpArgs false
set_option linter.unusedVariables false
namespace Go.Proofs.Ytbhpokcnkdgcmaa.HeapM
open Go.RowKit Go.Proofs.Ytbhpokcnkdgcmaa.HeapL

theorem HM.nil {W : World} {base p : Nat} {bf : Value} {T : Nat} (h : HM W base p bf [] T) : ∃ cap a, W.cell? ⟨p, 1, none⟩ = some (.slice a 0 cap) := by
  obtain ⟨a, cap, _, c1, _⟩ := h.cells
  exact ⟨cap, a, c1⟩

set_option maxRecDepth 100000 in
set_option maxHeartbeats 2000000 in
theorem top_nil (W : World) (base p : Nat) (bf : Value) (T : Nat) (hM : HM W base p bf [] T) :
    Calls Try.prog 129 #[.pointer (some ⟨p, 0, none⟩)] W fun e w' => e = .returned (.tuple #[ev ((0, 0, 0, none, 0, 0) : Int × Int × Int × Option Addr × Nat × Nat), .bool false]) ∧ Below W.heap.size W w' := by
  obtain ⟨cap, a, c1⟩ := hM.nil
  have hpl := hM.lt.2
  go_enter Try.func129, Try.ntmps129
  go_wp2_with fail
  refine bodyPost_ret (v := .tuple #[ev ((0, 0, 0, none, 0, 0) : Int × Int × Int × Option Addr × Nat × Nat), .bool false]) (by simp [results, Try.f129, go_sem, ev]) rfl ⟨rfl, ?_⟩
  exact bel_alloc2 W _ _

set_option maxRecDepth 100000 in
set_option maxHeartbeats 2000000 in
theorem top_cons (W : World) (base p : Nat) (bf : Value) (es : List El) (T : Nat) (hM : HM W base p bf es T) (hn : 0 < es.length) :
    Calls Try.prog 129 #[.pointer (some ⟨p, 0, none⟩)] W fun e w' => e = .returned (.tuple #[ev (gt zE es 0).1, .bool true]) ∧ Below W.heap.size W w' := by
  obtain ⟨g, cap, hbg, hgl, hgp, hlc, hcm, hP, hR, cs, hcs⟩ := hM.row hn
  have c1 := hP.cell (i := 1) rfl
  obtain ⟨⟨⟨k1, v1, li1, sA1, sn1, sc1⟩, t1⟩, h1⟩ : ∃ q, gt zE es 0 = q := ⟨_, rfl⟩
  have a1 : ∀ j, j < 5 → W.cell? ⟨g, 0 + j, none⟩ = (ec ((k1, v1, li1, sA1, sn1, sc1), t1))[j]? := fun j hj => by have := own_at hR 0 j hn hj; rw [Nat.zero_mul, h1] at this; exact this
  simp only [Nat.zero_add] at a1
  have q1 : W.cell? ⟨g, 0, none⟩ = some (.int .i64 k1) ∧ W.cell? ⟨g, 1, none⟩ = some (.int .i64 v1) ∧ W.cell? ⟨g, 2, none⟩ = some (.int .i64 li1) ∧ W.cell? ⟨g, 3, none⟩ = some (.slice sA1 sn1 sc1) ∧ W.cell? ⟨g, 4, none⟩ = some (.int .i64 (t1 : Int)) := ⟨a1 0 (by decide), a1 1 (by decide), a1 2 (by decide), a1 3 (by decide), a1 4 (by decide)⟩
  have hpl := hM.lt.2
  have hn0 : ((es.length : Int) == 0) = false := beq_eq_false_iff_ne.2 (by omega)
  have hn1 : (0 : Int) < (es.length : Int) := by omega
  rw [h1]
  clear a1 h1 hP hR hM
  go_enter Try.func129, Try.ntmps129
  go_wp2_with fail
  refine bodyPost_ret (v := .tuple #[ev (k1, v1, li1, sA1, sn1, sc1), .bool true]) (by simp [results, Try.f129, go_sem, ev]) rfl ⟨rfl, ?_⟩
  exact (Below.refl _ W).alloc (Nat.le_refl _) _

end Go.Proofs.Ytbhpokcnkdgcmaa.HeapM

/- heap M: the first one is taken out. -/
set_option linter.unusedSimpArgs false
set_option linter.unusedVariables false
namespace Go.Proofs.Ytbhpokcnkdgcmaa.HeapM
open Go.RowKit Go.Proofs.Ytbhpokcnkdgcmaa.HeapL

set_option maxRecDepth 100000 in
set_option maxHeartbeats 2000000 in
theorem pop_nil (W : World) (base p : Nat) (bf : Value) (T : Nat) (hM : HM W base p bf [] T) :
    Calls Try.prog 125 #[.pointer (some ⟨p, 0, none⟩)] W fun e w' => e = .returned (.tuple #[ev ((0, 0, 0, none, 0, 0) : Int × Int × Int × Option Addr × Nat × Nat), .bool false]) ∧ Below W.heap.size W w' := by
  have hM1 := hM.below ((Below.refl _ W).alloc (Nat.le_refl _) (.cells #[.int .i64 0, .int .i64 0, .int .i64 0, .slice none 0 0] 143))
  have hM2 := Lib.hid hM1; clear hM1
  go_enter Try.func125, Try.ntmps125
  go_wp2_with fail
  refine (top_nil _ _ _ _ _ hM2.out).mono ?_; rintro e w1 ⟨rfl, hb⟩
  have nb := (Blk.new W [.int .i64 0, .int .i64 0, .int .i64 0, .slice none 0 0] 143).belowS hb
  have e0 := nb.cell (i := 0) rfl
  have e1 := nb.cell (i := 1) rfl
  have e2 := nb.cell (i := 2) rfl
  have e3 := nb.cell (i := 3) rfl
  have ef := nb.frozen
  have hz := hb.size
  rw [World.size_alloc] at hz
  replace hz : W.heap.size < w1.heap.size := hz
  unfold ev
  go_wp2_with fail
  refine bodyPost_ret (v := .tuple #[ev ((0, 0, 0, none, 0, 0) : Int × Int × Int × Option Addr × Nat × Nat), .bool false]) (by simp [results, Try.f125, go_sem, ev, e0, e1, e2, e3, hz]) rfl ⟨rfl, ?_⟩
  have hB1 : Below W.heap.size W w1 := ((Below.refl _ W).alloc (Nat.le_refl _) _).trans (hb.mono (by simp))
  repeat (first | exact hB1 | refine Below.setCell ?_ (by simp) _ | refine Below.alloc ?_ (by simp; omega) _)

theorem own_take {w : World} {base n size g cap m : Nat} {e : TypeId} {xs : List Value} (h : w.ownsRow base e size (.slice (some ⟨g, 0, none⟩) n cap) n xs) (hm : m ≤ n) : w.ownsRow base e size (.slice (some ⟨g, 0, none⟩) m cap) m (xs.take (m * size)) := by
  obtain ⟨hl, h2⟩ := h
  have hmn : m * size ≤ n * size := Nat.mul_le_mul_right _ hm
  refine ⟨by simp; omega, ?_⟩
  rcases h2 with ⟨h0, _⟩ | ⟨g', cap', cur, h0, hb, hg, hc, hx, hs, ht⟩
  · cases h0
  · simp only [Value.slice.injEq, Option.some.injEq, Addr.mk.injEq, and_true, true_and] at h0
    obtain ⟨rfl, rfl⟩ := h0
    refine .inr ⟨g, cap, cur, rfl, hb, hg, by omega, hx, hs, ?_⟩
    rw [← ht, List.take_take, Nat.min_eq_left hmn]

theorem own_setCells {w : World} {base n size : Nat} {e : TypeId} {v : Value} {xs : List Value} (h : w.ownsRow base e size v n xs) {b : Nat} (hne : v.ownBlock ≠ some b) (i : Nat) (vs : List Value) : (w.setCells b i vs).ownsRow base e size v n xs := by
  induction vs generalizing w i with
  | nil => exact h
  | cons u vs ih => exact ih (own_setCell h hne i u) (i + 1)
/-- a block of the call's own, made behind W, is written: W's blocks lie as they lay -/
theorem Fr.otherL {base p : Nat} {T : TypeId} {W W1 : World} (h : Fr base p T W W1) {b : Nat} (hb : base ≤ b) (i : Nat) (vs : List Value) (hn : W.heap.size ≤ b) : Fr base p T W (W1.setCells b i vs) := by
  induction vs generalizing W1 i with
  | nil => exact h
  | cons u vs ih => exact ih ⟨h.below.setCell (p := ⟨b, i, none⟩) hb u, fun k hk hp hT => (Below.heap_setCell W1 ⟨b, i, none⟩ u k (by show k ≠ b; omega)).trans (h.keep k hk hp hT)⟩ (i + 1)

/-- behind the clearing of the last one and the cut of the row -/
theorem pop_mem (W : World) (base p : Nat) (bf : Value) (es : List El) (T m : Nat) (hM : HM W base p bf es T) (hl : es.length = m + 1) :
    ∃ g cap, W.cell? ⟨p, 1, none⟩ = some (.slice (some ⟨g, 0, none⟩) (m + 1) cap) ∧ m + 1 ≤ cap ∧
      (∀ ty, (Builtin.clear_ #[156] ty #[.slice (some ⟨g, m * 5, none⟩) 1 (cap - m)]).run Try.prog W = .ok (.tuple #[]) (W.setCells g (m * 5) (ec zE))) ∧
      (W.setCells g (m * 5) (ec zE)).cell? ⟨p, 1, none⟩ = some (.slice (some ⟨g, 0, none⟩) (m + 1) cap) ∧ (W.setCells g (m * 5) (ec zE)).frozen? ⟨p, 1, none⟩ = false ∧
      HM ((W.setCells g (m * 5) (ec zE)).setCell ⟨p, 1, none⟩ (.slice (some ⟨g, 0, none⟩) m cap)) base p bf (es.take m) T ∧
      Fr base p 160 W ((W.setCells g (m * 5) (ec zE)).setCell ⟨p, 1, none⟩ (.slice (some ⟨g, 0, none⟩) m cap)) := by
  obtain ⟨g, cap, hbg, hgl, hgp, hlc, hcm, hP, hR, cs, hcs⟩ := hM.row (by omega)
  rw [hl] at hP hR hlc
  have c1 := hP.cell (i := 1) rfl
  have a1 : ∀ j, j < 5 → W.cell? ⟨g, m * 5 + j, none⟩ = (ec (gt zE es m))[j]? := fun j hj => own_at hR m j (by omega) hj
  have hcl : ∀ ty, (Builtin.clear_ #[156] ty #[.slice (some ⟨g, m * 5, none⟩) 1 (cap - m)]).run Try.prog W = .ok (.tuple #[]) (W.setCells g (m * 5) (ec zE)) := fun ty =>
    run_clear_one W 156 160 ty (.agg #[.int .i64 0, .int .i64 0, .int .i64 0, .slice none 0 0, .int .i64 0]) (ec zE) Try.underlying156 (Try.zeroValue160) rfl (by intro v hv; simp [ec, zE] at hv; rcases hv with rfl | rfl | rfl | rfl | rfl <;> rfl) g (m * 5) (cap - m)
      (fun j hj => by rw [a1 j hj]; rw [List.getElem?_eq_getElem (by rw [ec_length]; exact hj)]; rfl) (fun j _ => hR.frozenAt _)
  have hP1 := own_blk (i := m * 5) hP hgp (ec zE)
  obtain ⟨f1, cs1⟩ := Fr.setRowL hbg (ec zE) (m * 5) (Fr.refl base p 160 W) ⟨cs, (0, 0), hcs⟩
  have r1 := own_take (m := m) (ownsRow_storedL (ec zE) (m * 5) hR) (by omega)
  have hcut : (setL (cellsOf ec es) (m * 5) (ec zE)).take (m * 5) = cellsOf ec (es.take m) := by
    rw [← cellsOf_setL ec_length es m zE (by omega), cellsOf_take ec_length, List.take_set_of_le (Nat.le_refl _)]
  rw [hcut] at r1
  refine ⟨g, cap, c1, hlc, hcl, hP1.cell (i := 1) rfl, hP1.frozen 1, ⟨hM.1, _, hP1.set 1 _, ?_⟩, f1.setP hM.1 1 _⟩
  rw [show (es.take m).length = m from by simp; omega]
  exact own_setCell r1 (by simp [Value.ownBlock]; exact hgp) 1 _

/-- behind the exchange of the first and the last one, the last one cut off: only the first place may be wrong -/
theorem pop_down {f : El → El → Bool} {es : List El} {m : Nat} (hH : Heap f zE es) (hl : es.length = m + 1) : DownInv f zE ((swp zE es 0 m).take m) 0 := by
  refine ⟨fun k h0 hk hne => ?_, fun k _ _ _ h => absurd h (Nat.lt_irrefl 0)⟩
  have hk' : k < m := by simp [swp_length] at hk; omega
  have e : ∀ j, 0 < j → j < m → gt zE ((swp zE es 0 m).take m) j = gt zE es j := fun j h1 h2 => by
    have h3 : gt zE ((swp zE es 0 m).take m) j = gt zE (swp zE es 0 m) j := by unfold gt; simp [h2]
    rw [h3, gt_swp _ _ _ _ _ (by omega) (by omega), if_neg (by omega), if_neg (by omega)]
  rw [e k h0 hk', e ((k - 1) / 2) (by omega) (by omega)]
  exact hH k h0 (by omega)
theorem pop_perm {es : List El} {m : Nat} (hl : es.length = m + 1) : (gt zE es 0 :: (swp zE es 0 m).take m).Perm es := by
  have h := swp_perm zE es 0 m (by omega) (by omega)
  have e : (swp zE es 0 m) = (swp zE es 0 m).take m ++ [gt zE es 0] := by
    have hl2 : (swp zE es 0 m).length = m + 1 := by rw [swp_length, hl]
    have h3 : gt zE (swp zE es 0 m) m = gt zE es 0 := by rw [gt_swp _ _ _ _ _ (by omega) (by omega), if_pos rfl]
    have h4 := List.take_succ_eq_append_getElem (l := swp zE es 0 m) (i := m) (by omega)
    rw [List.take_of_length_le (by omega)] at h4
    rw [← h3, gt_of_lt (by omega)]
    exact h4
  rw [e] at h
  exact ((List.perm_append_singleton _ _).symm).trans h

set_option maxRecDepth 100000 in
set_option maxHeartbeats 4000000 in
theorem pop_cons (lt : (Int × Int × Int × Option Addr × Nat × Nat) → (Int × Int × Int × Option Addr × Nat × Nat) → Bool) (ho : Ord lt) (W : World) (base p F : Nat) (lb : Array Value) (es : List El) (T : Nat) (hM : HM W base p (.func (.func F) #[] lb) es T) (hn : 0 < es.length) (hsm : es.length ≤ 1099511627776)
    (hH : Heap (fst lt) zE es) (hB : BF lt base p W F lb) :
    Calls Try.prog 125 #[.pointer (some ⟨p, 0, none⟩)] W fun e w' => e = .returned (.tuple #[ev (gt zE es 0).1, .bool true]) ∧ (∃ es', HM w' base p (.func (.func F) #[] lb) es' T ∧ Heap (fst lt) zE es' ∧ (gt zE es 0 :: es').Perm es) ∧ Fr base p 160 W w' := by
  obtain ⟨m, hl⟩ : ∃ m, es.length = m + 1 := ⟨es.length - 1, by omega⟩
  have hdn := pop_down hH hl
  have hpm := pop_perm hl
  have hlt := hM.lt
  have hbW : base ≤ W.heap.size := by omega
  have hsl : (swp zE es 0 m).length = m + 1 := by rw [swp_length, hl]
  have hm63 : (m : Int) ≤ 1099511627776 := by omega
  have hMa := hM.below ((Below.refl _ W).alloc (Nat.le_refl _) (.cells #[.int .i64 0, .int .i64 0, .int .i64 0, .slice none 0 0] 143))
  have hM2 := Lib.hid hMa; clear hMa
  go_enter Try.func125, Try.ntmps125
  go_wp2_with fail
  refine (top_cons _ _ _ _ _ _ hM2.out hn).mono ?_; rintro e w1 ⟨rfl, hb⟩
  have hM3 := hM2.out.below hb
  generalize hq0 : gt zE es 0 = q0 at *
  obtain ⟨⟨kq, vq, liq, sAq, snq, scq⟩, tq⟩ := q0
  have HQ := Lib.hid hq0; clear hq0
  have nb := (Blk.new W [.int .i64 0, .int .i64 0, .int .i64 0, .slice none 0 0] 143).belowS hb
  have e0 := nb.cell (i := 0) rfl
  have e1 := nb.cell (i := 1) rfl
  have e2 := nb.cell (i := 2) rfl
  have e3 := nb.cell (i := 3) rfl
  have ef := nb.frozen
  have hz := hb.size
  rw [World.size_alloc] at hz
  replace hz : W.heap.size < w1.heap.size := hz
  have hF1 : Fr base p 160 W w1 := ((Fr.refl base p 160 W).alloc hbW _).ofBelow hb (by simp; omega)
  unfold ev
  obtain ⟨a1, cap1, _, c1, _, _⟩ := hM3.cells
  rw [hl] at c1
  have hpl1 := hM3.lt.2
  have hm0 : (0 : Int) ≤ (m : Int) := Int.natCast_nonneg _
  have nbA := nb.alloc (.cells #[.int .i64 kq, .int .i64 vq, .int .i64 liq, .slice sAq snq scq] 143)
  have nxA := Blk.new w1 [.int .i64 kq, .int .i64 vq, .int .i64 liq, .slice sAq snq scq] 143
  have hMA := Lib.hid (hM3.below ((Below.refl _ w1).alloc (Nat.le_refl _) (.cells #[.int .i64 kq, .int .i64 vq, .int .i64 liq, .slice sAq snq scq] 143)))
  have hFA := hF1.alloc (by have := hF1.size; omega) (.cells #[.int .i64 kq, .int .i64 vq, .int .i64 liq, .slice sAq snq scq] 143)
  have hnp1 : W.heap.size ≠ p := by omega
  have hnp2 : w1.heap.size ≠ p := by have := hF1.size; omega
  go_wp2_with fail
  have hsw := swap_int _ base p (.func (.func F) #[] lb) es T 0 (m : Int) (by omega) (by omega) (by omega) (by omega) hMA.out
  rw [Int.toNat_natCast, show (0 : Int).toNat = 0 from rfl] at hsw
  refine hsw.mono ?_; rintro e w3 ⟨rfl, hM4, hF3⟩
  clear hsw
  obtain ⟨g, cap, d1, hcap, hcl, d2, d3, hM5, hF5⟩ := pop_mem w3 base p _ _ T m hM4 hsl
  have nb3 := hF5.blk (hF3.blk nbA hnp1 (by decide)) hnp1 (by decide)
  have nx3 := hF5.blk (hF3.blk nxA hnp2 (by decide)) hnp2 (by decide)
  have hF35 := hFA.trans (hF3.trans hF5)
  have hB5 := hB.step hF35
  clear hM hMA hM2 hM3 hM4 hB hn c1
  go_wp2_with fail
  have hdw := down_any lt ho _ base p F lb _ T 0 (by omega) (by omega) (by simp [hsl]; omega) hM5 hB5 hdn
  refine hdw.mono ?_; rintro e w5 ⟨rfl, ⟨es', hM6, hH6, hp6⟩, hF6⟩
  clear hdw hcl d1 d2 d3
  have nb5 := hF6.blk nb3 hnp1 (by decide)
  have nx5 := hF6.blk nx3 hnp2 (by decide)
  have b0 := nb5.cell (i := 0) rfl
  have b1 := nb5.cell (i := 1) rfl
  have b2 := nb5.cell (i := 2) rfl
  have b3 := nb5.cell (i := 3) rfl
  have x0 := nx5.cell (i := 0) rfl
  have x1 := nx5.cell (i := 1) rfl
  have x2 := nx5.cell (i := 2) rfl
  have x3 := nx5.cell (i := 3) rfl
  have bf5 := nb5.frozen
  have hne : W.heap.size ≠ w1.heap.size := Nat.ne_of_lt hz
  have hFin := hF35.trans hF6
  go_wp2_with fail
  have hM7 : HM (w5.setCells W.heap.size 0 [.int .i64 kq, .int .i64 vq, .int .i64 liq, .slice sAq snq scq]) base p (.func (.func F) #[] lb) es' T := ⟨hM6.1, by
    obtain ⟨_, v, h2, h3⟩ := hM6
    exact ⟨v, own_blk h2 hnp1 _, own_setCells h3 (own_apart nb5 h3 (by decide)) 0 _⟩⟩
  have hFin2 := Fr.otherL hFin (b := W.heap.size) hbW 0 [.int .i64 kq, .int .i64 vq, .int .i64 liq, .slice sAq snq scq] (Nat.le_refl _)
  refine bodyPost_ret (v := .tuple #[(.agg #[.int .i64 kq, .int .i64 vq, .int .i64 liq, .slice sAq snq scq]), .bool true]) (by simp [results, Try.f125, go_sem, b0, b1, b2, b3]) rfl ⟨by rw [HQ.out]; rfl, ⟨es', hM7, hH6, by rw [HQ.out]; exact (List.Perm.cons _ hp6).trans hpm⟩, hFin2⟩

end Go.Proofs.Ytbhpokcnkdgcmaa.HeapM
