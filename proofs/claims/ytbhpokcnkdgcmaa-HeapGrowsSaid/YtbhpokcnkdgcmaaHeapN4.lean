/- heap N: a thing is brought where it belongs, from above. -/
import Derived.Test.YtbhpokcnkdgcmaaHeapN3
set_option linter.unusedSimpArgs false
set_option linter.unusedVariables false
namespace Go.Proofs.Ytbhpokcnkdgcmaa.HeapN
open Go.RowKit Go.Proofs.Ytbhpokcnkdgcmaa.HeapL

/-- what the loop reads of the object -/
theorem HM.cells {W : World} {base p : Nat} {bf : Value} {es : List El} {T : Nat} (h : HM W base p bf es T) : ∃ a cap, W.cell? ⟨p, 0, none⟩ = some bf ∧ W.cell? ⟨p, 1, none⟩ = some (.slice a es.length cap) ∧ W.cell? ⟨p, 2, none⟩ = some (.int .i64 (T : Int)) ∧ (∀ j, W.frozen? ⟨p, j, none⟩ = false) := by
  obtain ⟨_, v, h2, h3⟩ := h
  rcases h3.2 with ⟨rfl, h0⟩ | ⟨g, cap, cur, rfl, _⟩
  · exact ⟨none, 0, h2.cell (i := 0) rfl, by rw [h0]; exact h2.cell (i := 1) rfl, h2.cell (i := 2) rfl, fun j => h2.frozen j⟩
  · exact ⟨_, cap, h2.cell (i := 0) rfl, h2.cell (i := 1) rfl, h2.cell (i := 2) rfl, fun j => h2.frozen j⟩

theorem best_succ_out {f : El → El → Bool} {l : List El} {i : Nat} (h : l.length ≤ i) : ∀ j, best f zE l i j = i
  | 0 => rfl
  | j + 1 => by
    unfold best
    rw [if_neg (by omega)]
    exact best_succ_out h j

set_option maxRecDepth 100000 in
set_option maxHeartbeats 4000000 in
/-- from above -/
theorem down_any (lt : Int → Int → Bool) (ho : Ord lt) (W : World) (base p F : Nat) (lb : Array Value) (es : List El) (T : Nat) (i : Int) (i0 : 0 ≤ i) (i1 : i ≤ es.length) (hsm : es.length ≤ 1099511627776)
    (hM : HM W base p (.func (.func F) #[] lb) es T) (hB : BF lt base p W F lb) (hU : DownInv (fst lt) zE es i.toNat) :
    Calls Try.prog 121 #[.pointer (some ⟨p, 0, none⟩), .int .i64 i] W fun e w' => e = .returned (.tuple #[]) ∧ (∃ es', HM w' base p (.func (.func F) #[] lb) es' T ∧ Heap (fst lt) zE es' ∧ es'.Perm es) ∧ Fr base p 133 W w' := by
  go_enter Try.func121, Try.ntmps121
  go_wp2_with fail
  go_loopw [1] (fun i wr => ∃ (j : Nat) (es1 : List El), i = .int .i64 j ∧ j ≤ es.length ∧ HM wr base p (.func (.func F) #[] lb) es1 T ∧ DownInv (fst lt) zE es1 j ∧ es1.Perm es ∧ Fr base p 133 W wr) (fun i _ => es.length - (intOf i).toNat)
  case atStart => exact ⟨i.toNat, es, by rw [Int.toNat_of_nonneg i0], by omega, hM, hU, List.Perm.refl _, Fr.refl _ _ _ _⟩
  case round =>
    obtain ⟨j, es1, rfl, hj, hM1, hU1, hp1, hF1⟩ := hrel
    have hl1 := hp1.length_eq
    have hbs1 : base ≤ wr.heap.size := by have := hM1.lt; omega
    have HB := hB.step hF1
    have HFo := fst_ord ho
    have j3 : (j : Int) ≤ 1099511627776 := by omega
    have j0 : (0 : Int) ≤ (j : Int) := by omega
    obtain ⟨wo, rfl⟩ : ∃ wo : World, wo = wr := ⟨_, rfl⟩
    go_wp2_with fail
    go_loopw [4, 5] (fun b k wq => ∃ (m : Nat), m ≤ 2 ∧ k = .int .i64 (2 * (j : Int) + 1 + m) ∧ b = .int .i64 (best (fst lt) zE es1 j m : Nat) ∧ Below wo.heap.size wo wq) (fun _ k _ => (2 * (j : Int) + 3 - intOf k).toNat)
    case atStart => exact ⟨0, by omega, by simp, rfl, Below.refl _ _⟩
    case round =>
      obtain ⟨m, hm, rfl, rfl, hb2⟩ := hrel
      have hbs2 : base ≤ wr.heap.size := Nat.le_trans hbs1 hb2.size
      have hM2 := hM1.below hb2
      have HB2 := HB.step (Fr.ofB hb2 hbs1)
      obtain ⟨sa, cap, c0, c1, c2, cf⟩ := hM2.cells
      by_cases hin : m < 2 ∧ 2 * j + 1 + m < es1.length
      · obtain ⟨hm2, hkl⟩ := hin
        have hjl : j < es1.length := by omega
        have hbl := best_lt (f := fst lt) (z := zE) hjl m
        have hbs : best (fst lt) zE es1 j (m + 1) = if 2 * j + 1 + m < es1.length ∧ fst lt (gt zE es1 (2 * j + 1 + m)) (gt zE es1 (best (fst lt) zE es1 j m)) = true then 2 * j + 1 + m else best (fst lt) zE es1 j m := rfl
        have t1 : 2 * (j : Int) + 1 + (m : Int) ≤ 2 * (j : Int) + 2 := by omega
        have t2 : 2 * (j : Int) + 1 + (m : Int) < (es1.length : Int) := by omega
        have hkn : (2 * (j : Int) + 1 + (m : Int)).toNat = 2 * j + 1 + m := by omega
        generalize best (fst lt) zE es1 j m = b at *
        have hc1 := fun w1 h1 h2 h3 => first_int lt w1 base p F lb es1 T (2 * (j : Int) + 1 + (m : Int)) (b : Int) (by omega) t2 (by omega) (by omega) h1 h2 h3
        rw [hkn, Int.toNat_natCast] at hc1
        have C1 := Lib.hid hc1; clear hc1
        cases hf : fst lt (gt zE es1 (2 * j + 1 + m)) (gt zE es1 b)
        · rw [hf, if_neg (by simp)] at hbs
          have H := Lib.hid hf; clear hf
          have HBs := Lib.hid hbs; clear hbs
          have HK := Lib.hid hkn; clear hkn
          clear HFo hU1
          go_wp2_with fail
          refine (C1.out _ hbs2 hM2 HB2).mono ?_; rintro e w3 ⟨rfl, hb3⟩
          rw [H.out]
          go_wp2_with fail
          go_roundw
          case rel => exact ⟨m + 1, by omega, congrArg (Value.int .i64) (by omega), by rw [HBs.out], hb2.trans (hb3.mono hb2.size)⟩
          case measure => simp [intOf]; omega
        · rw [hf, if_pos ⟨hkl, rfl⟩] at hbs
          have H := Lib.hid hf; clear hf
          have HBs := Lib.hid hbs; clear hbs
          have HK := Lib.hid hkn; clear hkn
          clear HFo hU1
          go_wp2_with fail
          refine (C1.out _ hbs2 hM2 HB2).mono ?_; rintro e w3 ⟨rfl, hb3⟩
          rw [H.out]
          go_wp2_with fail
          go_roundw
          case rel => exact ⟨m + 1, by omega, congrArg (Value.int .i64) (by omega), by rw [HBs.out]; exact congrArg (Value.int .i64) (by omega), hb2.trans (hb3.mono hb2.size)⟩
          case measure => simp [intOf]; omega
      · have hbe : best (fst lt) zE es1 j m = best (fst lt) zE es1 j 2 := by
          by_cases h2 : m = 2
          · rw [h2]
          · have := best_out (f := fst lt) (z := zE) (l := es1) (i := j) (j := m) (by omega) (2 - m)
            rw [show m + (2 - m) = 2 from by omega] at this
            exact this.symm
        rw [hbe]
        clear hbe
        have hcase : (2 * (j : Int) + 2 < 2 * (j : Int) + 1 + (m : Int)) ∨ (2 * (j : Int) + 1 + (m : Int) ≤ 2 * (j : Int) + 2 ∧ (es1.length : Int) ≤ 2 * (j : Int) + 1 + (m : Int)) := by omega
        by_cases hstop : best (fst lt) zE es1 j 2 = j
        · have hh := down_stop HFo hU1 hstop
          rw [hstop]
          clear HFo hU1 hstop hin
          rcases hcase with h1 | ⟨h1, h2⟩
          all_goals
            go_wp2_with fail
            refine bodyPost_ret (results_none rfl _ _ _) rfl ?_
            exact ⟨rfl, ⟨es1, hM2, hh, hp1⟩, hF1.ofBelow hb2 hbs1⟩
        · have hjl : j < es1.length := by
            rcases Nat.lt_or_ge j es1.length with h | h
            · exact h
            · exact absurd (best_succ_out h 2) hstop
          have hbl := best_lt (f := fst lt) (z := zE) hjl 2
          have hgt : j < best (fst lt) zE es1 j 2 := by
            rcases best_cases (f := fst lt) (z := zE) (l := es1) (i := j) 2 with h | ⟨q, _, h⟩
            · exact absurd h hstop
            · omega
          have hh := down_step HFo hjl hU1 hstop
          have hsp := swp_perm zE es1 j (best (fst lt) zE es1 j 2) hjl hbl
          generalize best (fst lt) zE es1 j 2 = b at *
          have hne : ((b : Int) == (j : Int)) = false := by simp; omega
          have hc2 := fun w1 h1 => swap_int w1 base p (.func (.func F) #[] lb) es1 T (j : Int) (b : Int) (by omega) (by omega) (by omega) (by omega) h1
          rw [Int.toNat_natCast, Int.toNat_natCast] at hc2
          have C2 := Lib.hid hc2; clear hc2
          clear HFo hU1 hstop hin
          rcases hcase with h1 | ⟨h1, h2⟩
          all_goals
            go_wp2_with fail
            refine (C2.out _ hM2).mono ?_; rintro e w3 ⟨rfl, hM3, hF3⟩
            go_wp2_with fail
            go_roundw
            case rel => exact ⟨b, swp zE es1 j b, rfl, by omega, hM3, hh, hsp.trans hp1, (hF1.ofBelow hb2 hbs1).trans hF3⟩
            case measure => simp [intOf]; omega

end Go.Proofs.Ytbhpokcnkdgcmaa.HeapN
