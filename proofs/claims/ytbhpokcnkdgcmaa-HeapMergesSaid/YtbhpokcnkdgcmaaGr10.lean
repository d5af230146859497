/- HeapI5, HeapI6, HeapI7, HeapI8, laid together. -/
import Derived.Test.YtbhpokcnkdgcmaaGr09
import Derived.Deep.AppendLies
import Derived.StillTactics
import Derived.OwnWalk
import Derived.Laws.Pointers
import Derived.Deep.RegionLaw
import Derived.Deep.DeepCutAuto
import Derived.Test.YtbhpokcnkdgcmaaGr01
import Derived.RangeFuncLeaves
import Derived.Shelf.Abstract
import Derived.Shelf.RegionOpen
import Derived.OwnWalkIn
import Derived.TacticsInMore
import Derived.LoopNIn
import Derived.LoopIn

/- heap I: one more is put. -/
set_option linter.unusedSimpArgs false
set_option linter.unusedVariables false
namespace Go.Proofs.Ytbhpokcnkdgcmaa.HeapI
open Go.RowKit Go.Proofs.Ytbhpokcnkdgcmaa.HeapL

theorem infoE : (Try.prog.info? 153).map (fun i => (i.zero, i.size, i.bytes)) = some (some (.agg #[.int .i64 0, .int .i64 0]), 2, 16) := by kernel_rfl
theorem HM.apart {W : World} {base p : Nat} {bf v T' : Value} {es : List El} (hP : Blk W p 151 [bf, v, T']) (ho : W.ownsRow base 153 2 v es.length (cellsOf ec es)) : v.ownBlock ≠ some p := by
  rcases ho.2 with ⟨rfl, _⟩ | ⟨g, cap, cur, rfl, hb, hg, _⟩
  · simp [Value.ownBlock]
  · intro e
    have e' : g = p := by simpa [Value.ownBlock] using e
    subst e'
    unfold Blk at hP
    rw [hP] at hg
    simp at hg

set_option maxRecDepth 100000 in
set_option maxHeartbeats 4000000 in
/-- one more is put -/
theorem put_any (lt : Int → Int → Bool) (ho : Ord lt) (W : World) (base p F : Nat) (lb : Array Value) (es : List El) (T : Nat) (kx : Int) (hT : T < 1099511627776) (hsm : es.length < 1099511627776)
    (hM : HM W base p (.func (.func F) #[] lb) es T) (hH : Heap (fst lt) zE es) (hB : BF lt base p W F lb) :
    Calls Try.prog 80 #[.pointer (some ⟨p, 0, none⟩), (.int .i64 kx)] W fun e w' => e = .returned (.tuple #[]) ∧ (∃ es', HM w' base p (.func (.func F) #[] lb) es' (T + 1) ∧ Heap (fst lt) zE es' ∧ es'.Perm (es ++ [(kx, T)])) ∧ Fr base p 153 W w' := by
  obtain ⟨i0, hi0, hz0, hz1, hz2⟩ := info_parts infoE
  have hlt := hM.lt
  obtain ⟨hbp, v, hP, hR⟩ := hM
  have hap := HM.apart hP hR
  have c1 := hP.cell (i := 1) rfl
  have c2 := hP.cell (i := 2) rfl
  have f1 := hP.frozen 1
  have f2 := hP.frozen 2
  have hpl := hP.lt
  have hmx : es.length + 1 ≤ maxLen := by unfold maxLen; omega
  go_enter Try.func80, Try.ntmps80
  go_wp2_with fail
  go_cut [] (fun wx => ∃ v1, Blk wx p 151 [.func (.func F) #[] lb, v1, .int .i64 (T : Int)] ∧ wx.ownsRow base 153 2 v1 (es ++ [(kx, T)]).length (cellsOf ec (es ++ [(kx, T)])) ∧ Fr base p 153 W wx)
  case first =>
    go_region_law ((refine step_append_lies _ (by rfl) _ _ _ (by rfl) base 153 i0 _ 2 16 Try.underlying149 hi0 hz0 hz1 hz2 rfl (by omega) v es.length (cellsOf ec es) (by rfl) ((hR.alloc _).drew) ⟨W.heap.size, 0, none⟩ 1 1 [.int .i64 kx, .int .i64 (T : Int)] (by rfl) (by rfl) (news_blk (Blk.new W [.int .i64 kx, .int .i64 (T : Int)] 153).drew) (by simp [Value.oneCell']) (by omega) hmx (by omega) (by simp; omega) (W.heap.size + 1) (by simp) ?_; intro gg cap w1 hown1 hgrow hat hlt1; have hP1 := ((hP.alloc _).drew).kept hgrow (Ne.symm hap); have d1 := hP1.cell (i := 1) rfl; have g1 := hP1.frozen 1))
    all_goals
      go_wp2_with fail
      go_meet
      have hF1 : Fr base p 153 W w1 := (((Fr.refl base p 153 W).alloc (by omega) _).drew).grown hgrow (by simp; omega) (fun k hk => own_typ ((hR.alloc _).drew) k hk)
      refine ⟨_, hP1.set 1 _, ?_, hF1.setP hbp 1 _⟩
      have hap1 := own_apart hP1 hown1 (by decide)
      have ho1 := own_setCell hown1 hap1 1 (.slice (some ⟨gg, 0, none⟩) (es.length + 1) cap)
      rw [show (es ++ [(kx, T)]).length = es.length + 1 from by simp, cellsOf_append, cellsOf_one]
      exact ho1
  case rest =>
    obtain ⟨v1, hP1, hR1, hF1⟩ := hcut
    have d1 := hP1.cell (i := 1) rfl
    have d2 := hP1.cell (i := 2) rfl
    have g2 := hP1.frozen 2
    have hM1 : HM (wc.setCell ⟨p, 2, none⟩ (.int .i64 ((T : Int) + 1))) base p (.func (.func F) #[] lb) (es ++ [(kx, T)]) (T + 1) := ⟨hbp, v1, hP1.set 2 _, own_setCell hR1 (own_apart hP1 hR1 (by decide)) 2 _⟩
    have hF2 := hF1.setP hbp 2 (.int .i64 ((T : Int) + 1))
    have hv : ∃ a cap, v1 = .slice a (es ++ [(kx, T)]).length cap := by
      rcases hR1.2 with ⟨_, h0⟩ | ⟨g, cap, cur, rfl, _⟩
      · simp at h0
      · exact ⟨_, cap, rfl⟩
    obtain ⟨a1, cap1, rfl⟩ := hv
    have hln : (es ++ [(kx, T)]).length = es.length + 1 := by simp
    have hU := up_start hH (kx, T)
    rw [hln] at d1
    have hB2 := hB.step hF2
    clear hP hR c1 c2 f1 f2 hH hB hap hP1 hR1
    have HLN := Lib.hid hln; clear hln
    go_wp2_with fail
    have hup := up_any lt ho _ base p F lb _ (T + 1) (es.length : Int) (by omega) hM1 hB2 (by rw [Int.toNat_natCast]; exact hU)
    refine hup.mono ?_; rintro e w3 ⟨rfl, ⟨es', hM3, hH3, hp3⟩, hF3⟩
    go_wp2_with fail
    go_end0
    exact ⟨rfl, ⟨es', hM3, hH3, hp3⟩, hF2.trans hF3⟩

end Go.Proofs.Ytbhpokcnkdgcmaa.HeapI

/- heap I: the first one; it is taken out. -/
set_option linter.unusedSimpArgs false
set_option linter.unusedVariables false
namespace Go.Proofs.Ytbhpokcnkdgcmaa.HeapI
open Go.RowKit Go.Proofs.Ytbhpokcnkdgcmaa.HeapL

theorem HM.nil {W : World} {base p : Nat} {bf : Value} {T : Nat} (h : HM W base p bf [] T) : ∃ cap a, W.cell? ⟨p, 1, none⟩ = some (.slice a 0 cap) := by
  obtain ⟨a, cap, _, c1, _⟩ := h.cells
  exact ⟨cap, a, c1⟩

set_option maxRecDepth 100000 in
set_option maxHeartbeats 2000000 in
theorem top_nil (W : World) (base p : Nat) (bf : Value) (T : Nat) (hM : HM W base p bf [] T) :
    Calls Try.prog 81 #[.pointer (some ⟨p, 0, none⟩)] W fun e w' => e = .returned (.tuple #[ev (0 : Int), .bool false]) ∧ Below W.heap.size W w' := by
  obtain ⟨cap, a, c1⟩ := hM.nil
  have hpl := hM.lt.2
  go_enter Try.func81, Try.ntmps81
  go_wp2_with fail
  go_ret2
  exact ⟨rfl, Below.refl _ _⟩

set_option maxRecDepth 100000 in
set_option maxHeartbeats 2000000 in
theorem top_cons (W : World) (base p : Nat) (bf : Value) (es : List El) (T : Nat) (hM : HM W base p bf es T) (hn : 0 < es.length) :
    Calls Try.prog 81 #[.pointer (some ⟨p, 0, none⟩)] W fun e w' => e = .returned (.tuple #[ev (gt zE es 0).1, .bool true]) ∧ Below W.heap.size W w' := by
  obtain ⟨g, cap, hbg, hgl, hgp, hlc, hcm, hP, hR, cs, hcs⟩ := hM.row hn
  have c1 := hP.cell (i := 1) rfl
  obtain ⟨⟨k1, t1⟩, h1⟩ : ∃ q, gt zE es 0 = q := ⟨_, rfl⟩
  have a1 : ∀ j, j < 2 → W.cell? ⟨g, 0 + j, none⟩ = (ec (k1, t1))[j]? := fun j hj => by have := own_at hR 0 j hn hj; rw [Nat.zero_mul, h1] at this; exact this
  simp only [Nat.zero_add] at a1
  have q1 : W.cell? ⟨g, 0, none⟩ = some (.int .i64 k1) ∧ W.cell? ⟨g, 1, none⟩ = some (.int .i64 (t1 : Int)) := ⟨a1 0 (by decide), a1 1 (by decide)⟩
  have hpl := hM.lt.2
  have hn0 : ((es.length : Int) == 0) = false := beq_eq_false_iff_ne.2 (by omega)
  have hn1 : (0 : Int) < (es.length : Int) := by omega
  rw [h1]
  clear a1 h1 hP hR hM
  go_enter Try.func81, Try.ntmps81
  go_wp2_with fail
  go_ret2
  exact ⟨rfl, Below.refl _ _⟩

end Go.Proofs.Ytbhpokcnkdgcmaa.HeapI

/- heap I: the first one is taken out. -/
set_option linter.unusedSimpArgs false
set_option linter.unusedVariables false
namespace Go.Proofs.Ytbhpokcnkdgcmaa.HeapI
open Go.RowKit Go.Proofs.Ytbhpokcnkdgcmaa.HeapL

set_option maxRecDepth 100000 in
set_option maxHeartbeats 2000000 in
theorem pop_nil (W : World) (base p : Nat) (bf : Value) (T : Nat) (hM : HM W base p bf [] T) :
    Calls Try.prog 84 #[.pointer (some ⟨p, 0, none⟩)] W fun e w' => e = .returned (.tuple #[ev (0 : Int), .bool false]) ∧ Below W.heap.size W w' := by
  have hM2 := Lib.hid hM
  go_enter Try.func84, Try.ntmps84
  go_wp2_with fail
  refine (top_nil _ _ _ _ _ hM2.out).mono ?_; rintro e w1 ⟨rfl, hb⟩
  unfold ev
  go_wp2_with fail
  go_ret2
  exact ⟨rfl, hb⟩

theorem own_take {w : World} {base n size g cap m : Nat} {e : TypeId} {xs : List Value} (h : w.ownsRow base e size (.slice (some ⟨g, 0, none⟩) n cap) n xs) (hm : m ≤ n) : w.ownsRow base e size (.slice (some ⟨g, 0, none⟩) m cap) m (xs.take (m * size)) := by
  obtain ⟨hl, h2⟩ := h
  have hmn : m * size ≤ n * size := Nat.mul_le_mul_right _ hm
  refine ⟨by simp; omega, ?_⟩
  rcases h2 with ⟨h0, _⟩ | ⟨g', cap', cur, h0, hb, hg, hc, hx, hs, ht⟩
  · cases h0
  · simp only [Value.slice.injEq, Option.some.injEq, Addr.mk.injEq, and_true, true_and] at h0
    obtain ⟨rfl, rfl⟩ := h0
    refine .inr ⟨g, cap, cur, rfl, hb, hg, by omega, hx, hs, ?_⟩
    rw [← ht, List.take_take, Nat.min_eq_left hmn]

theorem own_setCells {w : World} {base n size : Nat} {e : TypeId} {v : Value} {xs : List Value} (h : w.ownsRow base e size v n xs) {b : Nat} (hne : v.ownBlock ≠ some b) (i : Nat) (vs : List Value) : (w.setCells b i vs).ownsRow base e size v n xs := by
  induction vs generalizing w i with
  | nil => exact h
  | cons u vs ih => exact ih (own_setCell h hne i u) (i + 1)
/-- a block of the call's own, made behind W, is written: W's blocks lie as they lay -/
theorem Fr.otherL {base p : Nat} {T : TypeId} {W W1 : World} (h : Fr base p T W W1) {b : Nat} (hb : base ≤ b) (i : Nat) (vs : List Value) (hn : W.heap.size ≤ b) : Fr base p T W (W1.setCells b i vs) := by
  induction vs generalizing W1 i with
  | nil => exact h
  | cons u vs ih => exact ih ⟨h.below.setCell (p := ⟨b, i, none⟩) hb u, fun k hk hp hT => (Below.heap_setCell W1 ⟨b, i, none⟩ u k (by show k ≠ b; omega)).trans (h.keep k hk hp hT)⟩ (i + 1)

/-- behind the clearing of the last one and the cut of the row -/
theorem pop_mem (W : World) (base p : Nat) (bf : Value) (es : List El) (T m : Nat) (hM : HM W base p bf es T) (hl : es.length = m + 1) :
    ∃ g cap, W.cell? ⟨p, 1, none⟩ = some (.slice (some ⟨g, 0, none⟩) (m + 1) cap) ∧ m + 1 ≤ cap ∧
      (∀ ty, (Builtin.clear_ #[149] ty #[.slice (some ⟨g, m * 2, none⟩) 1 (cap - m)]).run Try.prog W = .ok (.tuple #[]) (W.setCells g (m * 2) (ec zE))) ∧
      (W.setCells g (m * 2) (ec zE)).cell? ⟨p, 1, none⟩ = some (.slice (some ⟨g, 0, none⟩) (m + 1) cap) ∧ (W.setCells g (m * 2) (ec zE)).frozen? ⟨p, 1, none⟩ = false ∧
      HM ((W.setCells g (m * 2) (ec zE)).setCell ⟨p, 1, none⟩ (.slice (some ⟨g, 0, none⟩) m cap)) base p bf (es.take m) T ∧
      Fr base p 153 W ((W.setCells g (m * 2) (ec zE)).setCell ⟨p, 1, none⟩ (.slice (some ⟨g, 0, none⟩) m cap)) := by
  obtain ⟨g, cap, hbg, hgl, hgp, hlc, hcm, hP, hR, cs, hcs⟩ := hM.row (by omega)
  rw [hl] at hP hR hlc
  have c1 := hP.cell (i := 1) rfl
  have a1 : ∀ j, j < 2 → W.cell? ⟨g, m * 2 + j, none⟩ = (ec (gt zE es m))[j]? := fun j hj => own_at hR m j (by omega) hj
  have hcl : ∀ ty, (Builtin.clear_ #[149] ty #[.slice (some ⟨g, m * 2, none⟩) 1 (cap - m)]).run Try.prog W = .ok (.tuple #[]) (W.setCells g (m * 2) (ec zE)) := fun ty =>
    run_clear_one W 149 153 ty (.agg #[.int .i64 0, .int .i64 0]) (ec zE) Try.underlying149 (Try.zeroValue153) rfl (by intro v hv; simp [ec, zE] at hv; rcases hv with rfl | rfl <;> rfl) g (m * 2) (cap - m)
      (fun j hj => by rw [a1 j hj]; rw [List.getElem?_eq_getElem (by rw [ec_length]; exact hj)]; rfl) (fun j _ => hR.frozenAt _)
  have hP1 := own_blk (i := m * 2) hP hgp (ec zE)
  obtain ⟨f1, cs1⟩ := Fr.setRowL hbg (ec zE) (m * 2) (Fr.refl base p 153 W) ⟨cs, (0, 0), hcs⟩
  have r1 := own_take (m := m) (ownsRow_storedL (ec zE) (m * 2) hR) (by omega)
  have hcut : (setL (cellsOf ec es) (m * 2) (ec zE)).take (m * 2) = cellsOf ec (es.take m) := by
    rw [← cellsOf_setL ec_length es m zE (by omega), cellsOf_take ec_length, List.take_set_of_le (Nat.le_refl _)]
  rw [hcut] at r1
  refine ⟨g, cap, c1, hlc, hcl, hP1.cell (i := 1) rfl, hP1.frozen 1, ⟨hM.1, _, hP1.set 1 _, ?_⟩, f1.setP hM.1 1 _⟩
  rw [show (es.take m).length = m from by simp; omega]
  exact own_setCell r1 (by simp [Value.ownBlock]; exact hgp) 1 _

/-- behind the exchange of the first and the last one, the last one cut off: only the first place may be wrong -/
theorem pop_down {f : El → El → Bool} {es : List El} {m : Nat} (hH : Heap f zE es) (hl : es.length = m + 1) : DownInv f zE ((swp zE es 0 m).take m) 0 := by
  refine ⟨fun k h0 hk hne => ?_, fun k _ _ _ h => absurd h (Nat.lt_irrefl 0)⟩
  have hk' : k < m := by simp [swp_length] at hk; omega
  have e : ∀ j, 0 < j → j < m → gt zE ((swp zE es 0 m).take m) j = gt zE es j := fun j h1 h2 => by
    have h3 : gt zE ((swp zE es 0 m).take m) j = gt zE (swp zE es 0 m) j := by unfold gt; simp [h2]
    rw [h3, gt_swp _ _ _ _ _ (by omega) (by omega), if_neg (by omega), if_neg (by omega)]
  rw [e k h0 hk', e ((k - 1) / 2) (by omega) (by omega)]
  exact hH k h0 (by omega)
theorem pop_perm {es : List El} {m : Nat} (hl : es.length = m + 1) : (gt zE es 0 :: (swp zE es 0 m).take m).Perm es := by
  have h := swp_perm zE es 0 m (by omega) (by omega)
  have e : (swp zE es 0 m) = (swp zE es 0 m).take m ++ [gt zE es 0] := by
    have hl2 : (swp zE es 0 m).length = m + 1 := by rw [swp_length, hl]
    have h3 : gt zE (swp zE es 0 m) m = gt zE es 0 := by rw [gt_swp _ _ _ _ _ (by omega) (by omega), if_pos rfl]
    have h4 := List.take_succ_eq_append_getElem (l := swp zE es 0 m) (i := m) (by omega)
    rw [List.take_of_length_le (by omega)] at h4
    rw [← h3, gt_of_lt (by omega)]
    exact h4
  rw [e] at h
  exact ((List.perm_append_singleton _ _).symm).trans h

set_option maxRecDepth 100000 in
set_option maxHeartbeats 4000000 in
theorem pop_cons (lt : Int → Int → Bool) (ho : Ord lt) (W : World) (base p F : Nat) (lb : Array Value) (es : List El) (T : Nat) (hM : HM W base p (.func (.func F) #[] lb) es T) (hn : 0 < es.length) (hsm : es.length ≤ 1099511627776)
    (hH : Heap (fst lt) zE es) (hB : BF lt base p W F lb) :
    Calls Try.prog 84 #[.pointer (some ⟨p, 0, none⟩)] W fun e w' => e = .returned (.tuple #[ev (gt zE es 0).1, .bool true]) ∧ (∃ es', HM w' base p (.func (.func F) #[] lb) es' T ∧ Heap (fst lt) zE es' ∧ (gt zE es 0 :: es').Perm es) ∧ Fr base p 153 W w' := by
  obtain ⟨m, hl⟩ : ∃ m, es.length = m + 1 := ⟨es.length - 1, by omega⟩
  have hdn := pop_down hH hl
  have hpm := pop_perm hl
  have hlt := hM.lt
  have hbW : base ≤ W.heap.size := by omega
  have hsl : (swp zE es 0 m).length = m + 1 := by rw [swp_length, hl]
  have hm63 : (m : Int) ≤ 1099511627776 := by omega
  have hM2 := Lib.hid hM
  go_enter Try.func84, Try.ntmps84
  go_wp2_with fail
  refine (top_cons _ _ _ _ _ _ hM2.out hn).mono ?_; rintro e w1 ⟨rfl, hb⟩
  have hM3 := hM2.out.below hb
  generalize hq0 : gt zE es 0 = q0 at *
  obtain ⟨kq, tq⟩ := q0
  have HQ := Lib.hid hq0; clear hq0
  have hF1 : Fr base p 153 W w1 := Fr.ofB hb hbW
  unfold ev
  obtain ⟨a1, cap1, _, c1, _, _⟩ := hM3.cells
  rw [hl] at c1
  have hpl1 := hM3.lt.2
  have hm0 : (0 : Int) ≤ (m : Int) := Int.natCast_nonneg _
  have hMA := Lib.hid hM3
  have hFA := hF1
  go_wp2_with fail
  have hsw := swap_int _ base p (.func (.func F) #[] lb) es T 0 (m : Int) (by omega) (by omega) (by omega) (by omega) hMA.out
  rw [Int.toNat_natCast, show (0 : Int).toNat = 0 from rfl] at hsw
  refine hsw.mono ?_; rintro e w3 ⟨rfl, hM4, hF3⟩
  clear hsw
  obtain ⟨g, cap, d1, hcap, hcl, d2, d3, hM5, hF5⟩ := pop_mem w3 base p _ _ T m hM4 hsl
  have hF35 := hFA.trans (hF3.trans hF5)
  have hB5 := hB.step hF35
  clear hM hMA hM2 hM3 hM4 hB hn c1
  go_wp2_with fail
  have hdw := down_any lt ho _ base p F lb _ T 0 (by omega) (by omega) (by simp [hsl]; omega) hM5 hB5 hdn
  refine hdw.mono ?_; rintro e w5 ⟨rfl, ⟨es', hM6, hH6, hp6⟩, hF6⟩
  clear hdw hcl d1 d2 d3
  have hFin := hF35.trans hF6
  go_wp2_with fail
  go_ret2
  exact ⟨by rw [HQ.out]; rfl, ⟨es', hM6, hH6, by rw [HQ.out]; exact (List.Perm.cons _ hp6).trans hpm⟩, hFin⟩

end Go.Proofs.Ytbhpokcnkdgcmaa.HeapI

/- heap I: what a heap holds, in order; it is drained. -/
set_option linter.unusedSimpArgs false
set_option linter.unusedVariables false
namespace Go.Proofs.Ytbhpokcnkdgcmaa.HeapI
open Go.RowKit Go.Proofs.Ytbhpokcnkdgcmaa.HeapL

/-- a list in order with one more: behind those that do not stand behind it -/
def insV {α : Type} (lt : α → α → Bool) (x : α) : List α → List α
  | [] => [x]
  | y :: ys => if lt x y = true then x :: y :: ys else y :: insV lt x ys
theorem insV_length {α : Type} (lt : α → α → Bool) (x : α) (l : List α) : (insV lt x l).length = l.length + 1 := by
  induction l with
  | nil => rfl
  | cons y ys ih => unfold insV; split <;> simp [ih]
/-- entries likewise -/
def insE (lt : Int → Int → Bool) (e : El) : List El → List El
  | [] => [e]
  | y :: ys => if lt e.1 y.1 = true then e :: y :: ys else y :: insE lt e ys
theorem insE_map (lt : Int → Int → Bool) (e : El) (l : List El) : (insE lt e l).map (·.1) = insV lt e.1 (l.map (·.1)) := by
  induction l with
  | nil => rfl
  | cons y ys ih =>
    simp only [insE, insV, List.map_cons]
    split <;> simp [ih]
theorem insE_perm (lt : Int → Int → Bool) (e : El) (l : List El) : (insE lt e l).Perm (l ++ [e]) := by
  induction l with
  | nil => exact List.Perm.refl _
  | cons y ys ih =>
    unfold insE
    split
    · exact (List.perm_append_singleton e (y :: ys)).symm
    · exact List.Perm.cons _ ih
theorem insE_mem (lt : Int → Int → Bool) (e : El) (l : List El) {y : El} (h : y ∈ insE lt e l) : y = e ∨ y ∈ l := by
  have := (insE_perm lt e l).mem_iff.1 h
  simp at this
  exact this.symm
theorem insE_sorted {lt : Int → Int → Bool} (ho : Ord lt) (e : El) (l : List El) (hs : l.Pairwise (fun a b => fst lt a b = true)) (ht : ∀ y ∈ l, y.2 < e.2) : (insE lt e l).Pairwise (fun a b => fst lt a b = true) := by
  induction l with
  | nil => simp [insE]
  | cons y ys ih =>
    rw [List.pairwise_cons] at hs
    unfold insE
    split
    · rename_i h
      refine List.pairwise_cons.2 ⟨fun z hz => ?_, List.pairwise_cons.2 hs⟩
      rcases List.mem_cons.1 hz with rfl | hz
      · unfold fst; rw [h]; rfl
      · have hyz := hs.1 z hz
        have h2 : lt e.1 z.1 = true := by
          cases hq : lt e.1 z.1
          · have h3 : lt z.1 y.1 = false := by
              unfold fst at hyz
              cases h4 : lt y.1 z.1
              · rw [h4] at hyz; simp at hyz; exact hyz.1
              · exact ho.asym _ _ h4
            have := ho.tr y.1 z.1 e.1 h3 hq
            rw [h] at this; cases this
          · rfl
        unfold fst; rw [h2]; rfl
    · rename_i h
      refine List.pairwise_cons.2 ⟨fun z hz => ?_, ih hs.2 (fun y hy => ht y (List.mem_cons_of_mem _ hy))⟩
      rcases insE_mem lt e ys hz with rfl | hz
      · have h1 : lt z.1 y.1 = false := by simpa using h
        unfold fst
        rw [h1]
        have := ht y List.mem_cons_self
        simp
        omega
      · exact hs.1 z hz

/-- a heap that holds xs, in order -/
def HS (W : World) (base p : Nat) (lt : Int → Int → Bool) (F : Nat) (lb : Array Value) (xs : List Int) (T : Nat) : Prop :=
  ∃ es s, HM W base p (.func (.func F) #[] lb) es T ∧ Heap (fst lt) zE es ∧ es.Perm s ∧ s.Pairwise (fun a b => fst lt a b = true) ∧ s.map (·.1) = xs ∧ ∀ y ∈ s, y.2 < T
theorem HS.lt' {W : World} {base p : Nat} {lt : Int → Int → Bool} {F : Nat} {lb : Array Value} {xs : List Int} {T : Nat} (h : HS W base p lt F lb xs T) : base ≤ p ∧ p < W.heap.size := by
  obtain ⟨es, s, hM, _⟩ := h; exact hM.lt
theorem HS.below {W W' : World} {base p : Nat} {lt : Int → Int → Bool} {F : Nat} {lb : Array Value} {xs : List Int} {T : Nat} (h : HS W base p lt F lb xs T) (hb : Below W.heap.size W W') : HS W' base p lt F lb xs T := by
  obtain ⟨es, s, hM, r⟩ := h; exact ⟨es, s, hM.below hb, r⟩
theorem HM.kept {W W' : World} {row : Option Nat} {base p : Nat} {bf : Value} {es : List El} {T : Nat} (h : HM W base p bf es T) (hg : W.grownBy W' row) (hr : ∀ r, row = some r → ∃ o : Obj, W.heap[r]? = some o ∧ o.isCells = false) : HM W' base p bf es T := by
  obtain ⟨h1, v, h2, h3⟩ := h
  refine ⟨h1, v, h2.kept hg (fun e => ?_), h3.kept hg ?_⟩
  · obtain ⟨o, ho, hc⟩ := hr p e.symm
    unfold Blk at h2
    rw [h2] at ho
    cases ho
    simp [Obj.isCells] at hc
  · cases hv : v.ownBlock with
    | none => exact .inl rfl
    | some k =>
      refine .inr (fun e => ?_)
      obtain ⟨_, cs, fr, hc⟩ := own_typ h3 k hv
      obtain ⟨o, ho, hcc⟩ := hr k (by rw [← e])
      rw [hc] at ho
      cases ho
      simp [Obj.isCells] at hcc
theorem HS.own (base p : Nat) (lt : Int → Int → Bool) (F : Nat) (lb : Array Value) {β : Type} (xs : β → List Int) (T : β → Nat) : Own (fun (s : β) W => HS W base p lt F lb (xs s) (T s)) := fun s A B row hs hg hr => by
  obtain ⟨es, s', hM, r⟩ := hs; exact ⟨es, s', hM.kept hg hr, r⟩

theorem HS.own' {W : World} {base p : Nat} {lt : Int → Int → Bool} {F : Nat} {lb : Array Value} {xs : List Int} {T : Nat} (h : HS W base p lt F lb xs T) {l : Nat} {o o' : Obj} (hl : W.heap[l]? = some o) (ho : o.isCells = false) : HS (W.putObj l o') base p lt F lb xs T :=
  HS.own base p lt F lb (fun _ : Unit => xs) (fun _ => T) () W _ (some l) h (grownBy_putObj' W l o') (fun r e => by cases e; exact ⟨o, hl, ho⟩)
theorem HS.length {W : World} {base p : Nat} {lt : Int → Int → Bool} {F : Nat} {lb : Array Value} {xs : List Int} {T : Nat} (h : HS W base p lt F lb xs T) : ∃ es : List El, es.length = xs.length ∧ HM W base p (.func (.func F) #[] lb) es T := by
  obtain ⟨es, s, hM, _, hp, _, hx, _⟩ := h
  exact ⟨es, by rw [hp.length_eq, ← hx, List.length_map], hM⟩

theorem HS.turn {W : World} {base p : Nat} {lt : Int → Int → Bool} {F : Nat} {lb : Array Value} {xs ys : List Int} {T T' : Nat} (h : HS W base p lt F lb xs T) (h' : HS W base p lt F lb ys T') : T = T' := by
  obtain ⟨es, s, ⟨_, v, hM, _⟩, _⟩ := h
  obtain ⟨es', s', ⟨_, v', hM', _⟩, _⟩ := h'
  have := (hM.inj hM').2
  simp at this
  exact Int.ofNat.inj this.2

/-- Put, of what it holds -/
theorem put_hs (lt : Int → Int → Bool) (ho : Ord lt) (W : World) (base p F : Nat) (lb : Array Value) (xs : List Int) (T : Nat) (kx : Int) (hT : T < 1099511627776) (hsm : xs.length < 1099511627776)
    (hS : HS W base p lt F lb xs T) (hB : BF lt base p W F lb) :
    Calls Try.prog 80 #[.pointer (some ⟨p, 0, none⟩), (.int .i64 kx)] W fun e w' => e = .returned (.tuple #[]) ∧ HS w' base p lt F lb (insV lt kx xs) (T + 1) ∧ Fr base p 153 W w' := by
  obtain ⟨es, s, hM, hH, hp, hs, hx, ht⟩ := hS
  have hl : es.length = xs.length := by rw [hp.length_eq, ← hx, List.length_map]
  refine (put_any lt ho W base p F lb es T kx hT (by omega) hM hH hB).mono ?_
  rintro e w' ⟨rfl, ⟨es', hM', hH', hp'⟩, hF⟩
  refine ⟨rfl, ⟨es', insE lt (kx, T) s, hM', hH', ?_, insE_sorted ho _ s hs ht, by rw [insE_map, hx], fun y hy => ?_⟩, hF⟩
  · exact hp'.trans ((List.Perm.append_right _ hp).trans (insE_perm lt _ s).symm)
  · rcases insE_mem lt _ s hy with rfl | h
    · exact Nat.lt_succ_self T
    · exact Nat.lt_succ_of_lt (ht y h)

/-- Top, of what it holds -/
def headV (xs : List Int) : Int := xs.headD (0 : Int)
theorem hs_head {lt : Int → Int → Bool} (ho : Ord lt) {es s : List El} (hH : Heap (fst lt) zE es) (hp : es.Perm s) (hs : s.Pairwise (fun a b => fst lt a b = true)) (hn : 0 < es.length) : ∃ s', s = gt zE es 0 :: s' := by
  cases s with
  | nil => rw [hp.length_eq] at hn; simp at hn
  | cons a s' =>
    refine ⟨s', ?_⟩
    have hm : gt zE es 0 ∈ a :: s' := hp.mem_iff.1 (by rw [gt_of_lt hn]; exact List.getElem_mem hn)
    rcases List.mem_cons.1 hm with e | hm
    · rw [e]
    · have h1 := (List.pairwise_cons.1 hs).1 _ hm
      have ha : a ∈ es := hp.mem_iff.2 List.mem_cons_self
      obtain ⟨k, hk, e⟩ := List.getElem_of_mem ha
      have h2 := heap_min (fst_ord ho) hH k hk
      unfold le at h2
      rw [gt_of_lt hk, e, h1] at h2
      cases h2
theorem top_hs (lt : Int → Int → Bool) (ho : Ord lt) (W : World) (base p F : Nat) (lb : Array Value) (xs : List Int) (T : Nat) (hS : HS W base p lt F lb xs T) :
    Calls Try.prog 81 #[.pointer (some ⟨p, 0, none⟩)] W fun e w' => e = .returned (.tuple #[ev (headV xs), .bool (decide (0 < xs.length))]) ∧ Below W.heap.size W w' := by
  obtain ⟨es, s, hM, hH, hp, hs, hx, ht⟩ := hS
  have hl : es.length = xs.length := by rw [hp.length_eq, ← hx, List.length_map]
  by_cases hn : 0 < es.length
  · obtain ⟨s', e⟩ := hs_head ho hH hp hs hn
    have hv : headV xs = (gt zE es 0).1 := by rw [← hx, e]; rfl
    rw [hv, show decide (0 < xs.length) = true from by simp; omega]
    exact top_cons W base p _ es T hM hn
  · have h0 : es = [] := List.eq_nil_of_length_eq_zero (by omega)
    subst h0
    have h1 : xs = [] := List.eq_nil_of_length_eq_zero (by simpa using hl.symm)
    rw [h1]
    exact top_nil W base p _ T hM
/-- Pop, of what it holds -/
theorem pop_hs_nil (lt : Int → Int → Bool) (W : World) (base p F : Nat) (lb : Array Value) (T : Nat) (hS : HS W base p lt F lb [] T) :
    Calls Try.prog 84 #[.pointer (some ⟨p, 0, none⟩)] W fun e w' => e = .returned (.tuple #[ev (0 : Int), .bool false]) ∧ Below W.heap.size W w' := by
  obtain ⟨es, s, hM, hH, hp, hs, hx, ht⟩ := hS
  have hl : es.length = 0 := by rw [hp.length_eq, ← List.length_map (f := (·.1)), hx]; rfl
  have h0 : es = [] := List.eq_nil_of_length_eq_zero hl
  subst h0
  exact pop_nil W base p _ T hM
theorem pop_hs_cons (lt : Int → Int → Bool) (ho : Ord lt) (W : World) (base p F : Nat) (lb : Array Value) (x : Int) (xs : List Int) (T : Nat) (hsm : xs.length < 1099511627776) (hS : HS W base p lt F lb (x :: xs) T) (hB : BF lt base p W F lb) :
    Calls Try.prog 84 #[.pointer (some ⟨p, 0, none⟩)] W fun e w' => e = .returned (.tuple #[ev x, .bool true]) ∧ HS w' base p lt F lb xs T ∧ Fr base p 153 W w' := by
  obtain ⟨es, s, hM, hH, hp, hs, hx, ht⟩ := hS
  have hl : es.length = xs.length + 1 := by rw [hp.length_eq, ← List.length_map (f := (·.1)), hx]; rfl
  obtain ⟨s', e⟩ := hs_head ho hH hp hs (by omega)
  rw [e] at hx
  simp only [List.map_cons, List.cons.injEq] at hx
  obtain ⟨hx1, hx2⟩ := hx
  rw [← hx1]
  refine (pop_cons lt ho W base p F lb es T hM (by omega) (by omega) hH hB).mono ?_
  rintro e' w' ⟨rfl, ⟨es', hM', hH', hp'⟩, hF⟩
  rw [e] at hp hs ht
  exact ⟨rfl, ⟨es', s', hM', hH', (List.Perm.cons_inv (hp'.trans hp)), (List.pairwise_cons.1 hs).2, hx2, fun y hy => ht y (List.mem_cons_of_mem _ hy)⟩, hF⟩

set_option maxHeartbeats 400000 in
/-- Len -/
theorem len_hs (lt : Int → Int → Bool) (W : World) (base p F : Nat) (lb : Array Value) (xs : List Int) (T : Nat) (hS : HS W base p lt F lb xs T) :
    Calls Try.prog 92 #[.pointer (some ⟨p, 0, none⟩)] W fun e w' => e = .returned (.int .i64 (xs.length : Int)) ∧ W = w' := by
  obtain ⟨es, hl, hM⟩ := hS.length
  obtain ⟨a, cap, _, c1, _⟩ := hM.cells
  rw [hl] at c1
  clear hl hM hS
  go_enter Try.func92, Try.ntmps92
  go_wp2_with fail
  go_ret
  exact ⟨rfl, rfl⟩

set_option maxHeartbeats 400000 in
/-- New -/
theorem new_hs (lt : Int → Int → Bool) (W : World) (F : Nat) (lb : Array Value) :
    Calls Try.prog 78 #[.func (.func F) #[] lb] W fun e w' => e = .returned (.pointer (some ⟨W.heap.size, 0, none⟩)) ∧ HS w' W.heap.size W.heap.size lt F lb [] 0 ∧ w' = W.alloc (.cells #[.func (.func F) #[] lb, .slice none 0 0, .int .i64 0] 151) := by
  have hS : HS (W.alloc (.cells #[.func (.func F) #[] lb, .slice none 0 0, .int .i64 0] 151)) W.heap.size W.heap.size lt F lb [] 0 :=
    ⟨[], [], ⟨Nat.le_refl _, .slice none 0 0, Blk.new W [.func (.func F) #[] lb, .slice none 0 0, .int .i64 0] 151, World.ownsRow_nil _ _ _ _⟩, heap_nil, List.Perm.refl _, List.Pairwise.nil, rfl, by simp⟩
  go_enter Try.func78, Try.ntmps78
  go_wp2_with fail
  go_ret
  exact ⟨rfl, hS, rfl⟩

end Go.Proofs.Ytbhpokcnkdgcmaa.HeapI
