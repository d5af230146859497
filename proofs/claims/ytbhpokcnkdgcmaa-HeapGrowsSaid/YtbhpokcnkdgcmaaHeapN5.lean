/- heap N: one more is put. -/
import Derived.Test.YtbhpokcnkdgcmaaHeapN4
import Derived.Deep.AppendLies
import Derived.StillTactics
import Derived.OwnWalk
import Derived.Laws.Pointers
import Derived.Deep.RegionLaw
import Derived.Deep.DeepCutAuto
set_option linter.unusedSimpArgs false
set_option linter.unusedVariables false
namespace Go.Proofs.Ytbhpokcnkdgcmaa.HeapN
open Go.RowKit Go.Proofs.Ytbhpokcnkdgcmaa.HeapL

theorem infoE : (Try.prog.info? 133).map (fun i => (i.zero, i.size, i.bytes)) = some (some (.agg #[.int .i64 0, .int .i64 0]), 2, 16) := by kernel_rfl
theorem heap_nil' (lt : Int → Int → Bool) : Heap (fst lt) zE ([] : List El) := heap_nil

theorem HM.apart {W : World} {base p : Nat} {bf v T' : Value} {es : List El} (hP : Blk W p 131 [bf, v, T']) (ho : W.ownsRow base 133 2 v es.length (cellsOf ec es)) : v.ownBlock ≠ some p := by
  rcases ho.2 with ⟨rfl, _⟩ | ⟨g, cap, cur, rfl, hb, hg, _⟩
  · simp [Value.ownBlock]
  · intro e
    have e' : g = p := by simpa [Value.ownBlock] using e
    subst e'
    unfold Blk at hP
    rw [hP] at hg
    simp at hg

set_option maxRecDepth 100000 in
set_option maxHeartbeats 4000000 in
/-- one more is put -/
theorem put_any (lt : Int → Int → Bool) (ho : Ord lt) (W : World) (base p F : Nat) (lb : Array Value) (es : List El) (T : Nat) (kx : Int) (hT : T < 1099511627776) (hsm : es.length < 1099511627776)
    (hM : HM W base p (.func (.func F) #[] lb) es T) (hH : Heap (fst lt) zE es) (hB : BF lt base p W F lb) :
    Calls Try.prog 47 #[.pointer (some ⟨p, 0, none⟩), (.int .i64 kx)] W fun e w' => e = .returned (.tuple #[]) ∧ (∃ es', HM w' base p (.func (.func F) #[] lb) es' (T + 1) ∧ Heap (fst lt) zE es' ∧ es'.Perm (es ++ [(kx, T)])) ∧ Fr base p 133 W w' := by
  obtain ⟨i0, hi0, hz0, hz1, hz2⟩ := info_parts infoE
  have hlt := hM.lt
  obtain ⟨hbp, v, hP, hR⟩ := hM
  have hap := HM.apart hP hR
  have c1 := hP.cell (i := 1) rfl
  have c2 := hP.cell (i := 2) rfl
  have f1 := hP.frozen 1
  have f2 := hP.frozen 2
  have hpl := hP.lt
  have hmx : es.length + 1 ≤ maxLen := by unfold maxLen; omega
  go_enter Try.func47, Try.ntmps47
  go_wp2_with fail
  go_cut [] (fun wx => ∃ v1, Blk wx p 131 [.func (.func F) #[] lb, v1, .int .i64 (T : Int)] ∧ wx.ownsRow base 133 2 v1 (es ++ [(kx, T)]).length (cellsOf ec (es ++ [(kx, T)])) ∧ Fr base p 133 W wx)
  case first =>
    go_region_law ((refine step_append_lies _ (by rfl) _ _ _ (by rfl) base 133 i0 _ 2 16 Try.underlying129 hi0 hz0 hz1 hz2 rfl (by omega) v es.length (cellsOf ec es) (by rfl) ((hR.alloc _).drew) ⟨W.heap.size, 0, none⟩ 1 1 [.int .i64 kx, .int .i64 (T : Int)] (by rfl) (by rfl) (news_blk (Blk.new W [.int .i64 kx, .int .i64 (T : Int)] 133).drew) (by simp [Value.oneCell']) (by omega) hmx (by omega) (by simp; omega) (W.heap.size + 1) (by simp) ?_; intro gg cap w1 hown1 hgrow hat hlt1; have hP1 := ((hP.alloc _).drew).kept hgrow (Ne.symm hap); have d1 := hP1.cell (i := 1) rfl; have g1 := hP1.frozen 1))
    all_goals
      go_wp2_with fail
      go_meet
      have hF1 : Fr base p 133 W w1 := (((Fr.refl base p 133 W).alloc (by omega) _).drew).grown hgrow (by simp; omega) (fun k hk => own_typ ((hR.alloc _).drew) k hk)
      refine ⟨_, hP1.set 1 _, ?_, hF1.setP hbp 1 _⟩
      have hap1 := own_apart hP1 hown1 (by decide)
      have ho1 := own_setCell hown1 hap1 1 (.slice (some ⟨gg, 0, none⟩) (es.length + 1) cap)
      rw [show (es ++ [(kx, T)]).length = es.length + 1 from by simp, cellsOf_append, cellsOf_one]
      exact ho1
  case rest =>
    obtain ⟨v1, hP1, hR1, hF1⟩ := hcut
    have d1 := hP1.cell (i := 1) rfl
    have d2 := hP1.cell (i := 2) rfl
    have g2 := hP1.frozen 2
    have hM1 : HM (wc.setCell ⟨p, 2, none⟩ (.int .i64 ((T : Int) + 1))) base p (.func (.func F) #[] lb) (es ++ [(kx, T)]) (T + 1) := ⟨hbp, v1, hP1.set 2 _, own_setCell hR1 (own_apart hP1 hR1 (by decide)) 2 _⟩
    have hF2 := hF1.setP hbp 2 (.int .i64 ((T : Int) + 1))
    have hv : ∃ a cap, v1 = .slice a (es ++ [(kx, T)]).length cap := by
      rcases hR1.2 with ⟨_, h0⟩ | ⟨g, cap, cur, rfl, _⟩
      · simp at h0
      · exact ⟨_, cap, rfl⟩
    obtain ⟨a1, cap1, rfl⟩ := hv
    have hln : (es ++ [(kx, T)]).length = es.length + 1 := by simp
    have hU := up_start hH (kx, T)
    rw [hln] at d1
    have hB2 := hB.step hF2
    clear hP hR c1 c2 f1 f2 hH hB hap hP1 hR1
    have HLN := Lib.hid hln; clear hln
    go_wp2_with fail
    have hup := up_any lt ho _ base p F lb _ (T + 1) (es.length : Int) (by omega) hM1 hB2 (by rw [Int.toNat_natCast]; exact hU)
    refine hup.mono ?_; rintro e w3 ⟨rfl, ⟨es', hM3, hH3, hp3⟩, hF3⟩
    go_wp2_with fail
    go_end0
    exact ⟨rfl, ⟨es', hM3, hH3, hp3⟩, hF2.trans hF3⟩

end Go.Proofs.Ytbhpokcnkdgcmaa.HeapN
