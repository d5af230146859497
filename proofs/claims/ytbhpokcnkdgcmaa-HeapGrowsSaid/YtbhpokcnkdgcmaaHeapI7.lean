/- heap I: the first one is taken out. -/
import Derived.Test.YtbhpokcnkdgcmaaHeapI6
set_option linter.unusedSimpArgs false
set_option linter.unusedVariables false
namespace Go.Proofs.Ytbhpokcnkdgcmaa.HeapI
open Go.RowKit Go.Proofs.Ytbhpokcnkdgcmaa.HeapL

set_option maxRecDepth 100000 in
set_option maxHeartbeats 2000000 in
theorem pop_nil (W : World) (base p : Nat) (bf : Value) (T : Nat) (hM : HM W base p bf [] T) :
    Calls Try.prog 84 #[.pointer (some ⟨p, 0, none⟩)] W fun e w' => e = .returned (.tuple #[ev (0 : Int), .bool false]) ∧ Below W.heap.size W w' := by
  have hM2 := Lib.hid hM
  go_enter Try.func84, Try.ntmps84
  go_wp2_with fail
  refine (top_nil _ _ _ _ _ hM2.out).mono ?_; rintro e w1 ⟨rfl, hb⟩
  unfold ev
  go_wp2_with fail
  go_ret2
  exact ⟨rfl, hb⟩

theorem own_take {w : World} {base n size g cap m : Nat} {e : TypeId} {xs : List Value} (h : w.ownsRow base e size (.slice (some ⟨g, 0, none⟩) n cap) n xs) (hm : m ≤ n) : w.ownsRow base e size (.slice (some ⟨g, 0, none⟩) m cap) m (xs.take (m * size)) := by
  obtain ⟨hl, h2⟩ := h
  have hmn : m * size ≤ n * size := Nat.mul_le_mul_right _ hm
  refine ⟨by simp; omega, ?_⟩
  rcases h2 with ⟨h0, _⟩ | ⟨g', cap', cur, h0, hb, hg, hc, hx, hs, ht⟩
  · cases h0
  · simp only [Value.slice.injEq, Option.some.injEq, Addr.mk.injEq, and_true, true_and] at h0
    obtain ⟨rfl, rfl⟩ := h0
    refine .inr ⟨g, cap, cur, rfl, hb, hg, by omega, hx, hs, ?_⟩
    rw [← ht, List.take_take, Nat.min_eq_left hmn]

theorem own_setCells {w : World} {base n size : Nat} {e : TypeId} {v : Value} {xs : List Value} (h : w.ownsRow base e size v n xs) {b : Nat} (hne : v.ownBlock ≠ some b) (i : Nat) (vs : List Value) : (w.setCells b i vs).ownsRow base e size v n xs := by
  induction vs generalizing w i with
  | nil => exact h
  | cons u vs ih => exact ih (own_setCell h hne i u) (i + 1)
/-- a block of the call's own, made behind W, is written: W's blocks lie as they lay -/
theorem Fr.otherL {base p : Nat} {T : TypeId} {W W1 : World} (h : Fr base p T W W1) {b : Nat} (hb : base ≤ b) (i : Nat) (vs : List Value) (hn : W.heap.size ≤ b) : Fr base p T W (W1.setCells b i vs) := by
  induction vs generalizing W1 i with
  | nil => exact h
  | cons u vs ih => exact ih ⟨h.below.setCell (p := ⟨b, i, none⟩) hb u, fun k hk hp hT => (Below.heap_setCell W1 ⟨b, i, none⟩ u k (by show k ≠ b; omega)).trans (h.keep k hk hp hT)⟩ (i + 1)

/-- behind the clearing of the last one and the cut of the row -/
theorem pop_mem (W : World) (base p : Nat) (bf : Value) (es : List El) (T m : Nat) (hM : HM W base p bf es T) (hl : es.length = m + 1) :
    ∃ g cap, W.cell? ⟨p, 1, none⟩ = some (.slice (some ⟨g, 0, none⟩) (m + 1) cap) ∧ m + 1 ≤ cap ∧
      (∀ ty, (Builtin.clear_ #[149] ty #[.slice (some ⟨g, m * 2, none⟩) 1 (cap - m)]).run Try.prog W = .ok (.tuple #[]) (W.setCells g (m * 2) (ec zE))) ∧
      (W.setCells g (m * 2) (ec zE)).cell? ⟨p, 1, none⟩ = some (.slice (some ⟨g, 0, none⟩) (m + 1) cap) ∧ (W.setCells g (m * 2) (ec zE)).frozen? ⟨p, 1, none⟩ = false ∧
      HM ((W.setCells g (m * 2) (ec zE)).setCell ⟨p, 1, none⟩ (.slice (some ⟨g, 0, none⟩) m cap)) base p bf (es.take m) T ∧
      Fr base p 153 W ((W.setCells g (m * 2) (ec zE)).setCell ⟨p, 1, none⟩ (.slice (some ⟨g, 0, none⟩) m cap)) := by
  obtain ⟨g, cap, hbg, hgl, hgp, hlc, hcm, hP, hR, cs, hcs⟩ := hM.row (by omega)
  rw [hl] at hP hR hlc
  have c1 := hP.cell (i := 1) rfl
  have a1 : ∀ j, j < 2 → W.cell? ⟨g, m * 2 + j, none⟩ = (ec (gt zE es m))[j]? := fun j hj => own_at hR m j (by omega) hj
  have hcl : ∀ ty, (Builtin.clear_ #[149] ty #[.slice (some ⟨g, m * 2, none⟩) 1 (cap - m)]).run Try.prog W = .ok (.tuple #[]) (W.setCells g (m * 2) (ec zE)) := fun ty =>
    run_clear_one W 149 153 ty (.agg #[.int .i64 0, .int .i64 0]) (ec zE) Try.underlying149 (Try.zeroValue153) rfl (by intro v hv; simp [ec, zE] at hv; rcases hv with rfl | rfl <;> rfl) g (m * 2) (cap - m)
      (fun j hj => by rw [a1 j hj]; rw [List.getElem?_eq_getElem (by rw [ec_length]; exact hj)]; rfl) (fun j _ => hR.frozenAt _)
  have hP1 := own_blk (i := m * 2) hP hgp (ec zE)
  obtain ⟨f1, cs1⟩ := Fr.setRowL hbg (ec zE) (m * 2) (Fr.refl base p 153 W) ⟨cs, (0, 0), hcs⟩
  have r1 := own_take (m := m) (ownsRow_storedL (ec zE) (m * 2) hR) (by omega)
  have hcut : (setL (cellsOf ec es) (m * 2) (ec zE)).take (m * 2) = cellsOf ec (es.take m) := by
    rw [← cellsOf_setL ec_length es m zE (by omega), cellsOf_take ec_length, List.take_set_of_le (Nat.le_refl _)]
  rw [hcut] at r1
  refine ⟨g, cap, c1, hlc, hcl, hP1.cell (i := 1) rfl, hP1.frozen 1, ⟨hM.1, _, hP1.set 1 _, ?_⟩, f1.setP hM.1 1 _⟩
  rw [show (es.take m).length = m from by simp; omega]
  exact own_setCell r1 (by simp [Value.ownBlock]; exact hgp) 1 _

/-- behind the exchange of the first and the last one, the last one cut off: only the first place may be wrong -/
theorem pop_down {f : El → El → Bool} {es : List El} {m : Nat} (hH : Heap f zE es) (hl : es.length = m + 1) : DownInv f zE ((swp zE es 0 m).take m) 0 := by
  refine ⟨fun k h0 hk hne => ?_, fun k _ _ _ h => absurd h (Nat.lt_irrefl 0)⟩
  have hk' : k < m := by simp [swp_length] at hk; omega
  have e : ∀ j, 0 < j → j < m → gt zE ((swp zE es 0 m).take m) j = gt zE es j := fun j h1 h2 => by
    have h3 : gt zE ((swp zE es 0 m).take m) j = gt zE (swp zE es 0 m) j := by unfold gt; simp [h2]
    rw [h3, gt_swp _ _ _ _ _ (by omega) (by omega), if_neg (by omega), if_neg (by omega)]
  rw [e k h0 hk', e ((k - 1) / 2) (by omega) (by omega)]
  exact hH k h0 (by omega)
theorem pop_perm {es : List El} {m : Nat} (hl : es.length = m + 1) : (gt zE es 0 :: (swp zE es 0 m).take m).Perm es := by
  have h := swp_perm zE es 0 m (by omega) (by omega)
  have e : (swp zE es 0 m) = (swp zE es 0 m).take m ++ [gt zE es 0] := by
    have hl2 : (swp zE es 0 m).length = m + 1 := by rw [swp_length, hl]
    have h3 : gt zE (swp zE es 0 m) m = gt zE es 0 := by rw [gt_swp _ _ _ _ _ (by omega) (by omega), if_pos rfl]
    have h4 := List.take_succ_eq_append_getElem (l := swp zE es 0 m) (i := m) (by omega)
    rw [List.take_of_length_le (by omega)] at h4
    rw [← h3, gt_of_lt (by omega)]
    exact h4
  rw [e] at h
  exact ((List.perm_append_singleton _ _).symm).trans h

set_option maxRecDepth 100000 in
set_option maxHeartbeats 4000000 in
theorem pop_cons (lt : Int → Int → Bool) (ho : Ord lt) (W : World) (base p F : Nat) (lb : Array Value) (es : List El) (T : Nat) (hM : HM W base p (.func (.func F) #[] lb) es T) (hn : 0 < es.length) (hsm : es.length ≤ 1099511627776)
    (hH : Heap (fst lt) zE es) (hB : BF lt base p W F lb) :
    Calls Try.prog 84 #[.pointer (some ⟨p, 0, none⟩)] W fun e w' => e = .returned (.tuple #[ev (gt zE es 0).1, .bool true]) ∧ (∃ es', HM w' base p (.func (.func F) #[] lb) es' T ∧ Heap (fst lt) zE es' ∧ (gt zE es 0 :: es').Perm es) ∧ Fr base p 153 W w' := by
  obtain ⟨m, hl⟩ : ∃ m, es.length = m + 1 := ⟨es.length - 1, by omega⟩
  have hdn := pop_down hH hl
  have hpm := pop_perm hl
  have hlt := hM.lt
  have hbW : base ≤ W.heap.size := by omega
  have hsl : (swp zE es 0 m).length = m + 1 := by rw [swp_length, hl]
  have hm63 : (m : Int) ≤ 1099511627776 := by omega
  have hM2 := Lib.hid hM
  go_enter Try.func84, Try.ntmps84
  go_wp2_with fail
  refine (top_cons _ _ _ _ _ _ hM2.out hn).mono ?_; rintro e w1 ⟨rfl, hb⟩
  have hM3 := hM2.out.below hb
  generalize hq0 : gt zE es 0 = q0 at *
  obtain ⟨kq, tq⟩ := q0
  have HQ := Lib.hid hq0; clear hq0
  have hF1 : Fr base p 153 W w1 := Fr.ofB hb hbW
  unfold ev
  obtain ⟨a1, cap1, _, c1, _, _⟩ := hM3.cells
  rw [hl] at c1
  have hpl1 := hM3.lt.2
  have hm0 : (0 : Int) ≤ (m : Int) := Int.natCast_nonneg _
  have hMA := Lib.hid hM3
  have hFA := hF1
  go_wp2_with fail
  have hsw := swap_int _ base p (.func (.func F) #[] lb) es T 0 (m : Int) (by omega) (by omega) (by omega) (by omega) hMA.out
  rw [Int.toNat_natCast, show (0 : Int).toNat = 0 from rfl] at hsw
  refine hsw.mono ?_; rintro e w3 ⟨rfl, hM4, hF3⟩
  clear hsw
  obtain ⟨g, cap, d1, hcap, hcl, d2, d3, hM5, hF5⟩ := pop_mem w3 base p _ _ T m hM4 hsl
  have hF35 := hFA.trans (hF3.trans hF5)
  have hB5 := hB.step hF35
  clear hM hMA hM2 hM3 hM4 hB hn c1
  go_wp2_with fail
  have hdw := down_any lt ho _ base p F lb _ T 0 (by omega) (by omega) (by simp [hsl]; omega) hM5 hB5 hdn
  refine hdw.mono ?_; rintro e w5 ⟨rfl, ⟨es', hM6, hH6, hp6⟩, hF6⟩
  clear hdw hcl d1 d2 d3
  have hFin := hF35.trans hF6
  go_wp2_with fail
  go_ret2
  exact ⟨by rw [HQ.out]; rfl, ⟨es', hM6, hH6, by rw [HQ.out]; exact (List.Perm.cons _ hp6).trans hpm⟩, hFin⟩

end Go.Proofs.Ytbhpokcnkdgcmaa.HeapI
