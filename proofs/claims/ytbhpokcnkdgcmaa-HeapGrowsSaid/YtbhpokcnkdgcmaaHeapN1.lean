/- heap N: the memory of a heap; which of two stands first. -/
import Derived.Test.YtbhpokcnkdgcmaaMem
import Derived.Test.YtbhpokcnkdgcmaaHeapL
import Derived.Test.YtbhpokcnkdgcmaaRows
import Derived.Deep.RegionHeld3
import Derived.WalkSpells
import Derived.WalkLawsBesides
set_option linter.unusedSimpArgs false
set_option linter.unusedVariables false
namespace Go.Proofs.Ytbhpokcnkdgcmaa.HeapN
open Go.RowKit Go.Proofs.Ytbhpokcnkdgcmaa.HeapL

abbrev El := Int × Nat
def zE : El := ((0 : Int), 0)
def ev (x : Int) : Value := .int .i64 x
def ec (e : El) : List Value := [.int .i64 e.1, .int .i64 e.2]
theorem ec_length (e : El) : (ec e).length = 2 := rfl

/-- which of two entries stands first -/
def fst (lt : Int → Int → Bool) (a b : El) : Bool := lt a.1 b.1 || (!lt b.1 a.1 && decide (a.2 < b.2))

/-- the memory of a heap: the object at p, the row of its entries -/
def HM (W : World) (base p : Nat) (bf : Value) (es : List El) (T : Nat) : Prop :=
  base ≤ p ∧ ∃ v, Blk W p 131 [bf, v, .int .i64 (T : Int)] ∧ W.ownsRow base 133 2 v es.length (cellsOf ec es)

/-- the function that compares, at any later world -/
def BF (lt : Int → Int → Bool) (base p : Nat) (W : World) (F : Nat) (lb : Array Value) : Prop :=
  (∀ args w, (callFunc F args).run Try.prog w = .ok (.enter F args) w) ∧ ∀ x y W', FrC base p 133 W W' → Calls Try.prog F (#[ev x, ev y] ++ lb) W' fun e w' => e = .returned (.bool (lt x y)) ∧ Below W'.heap.size W' w'
theorem BF.stepC {lt : Int → Int → Bool} {base p : Nat} {W W1 : World} {F : Nat} {lb : Array Value} (h : BF lt base p W F lb) (hf : FrC base p 133 W W1) : BF lt base p W1 F lb :=
  ⟨h.1, fun x y W' h' => h.2 x y W' (hf.trans h')⟩
theorem BF.step {lt : Int → Int → Bool} {base p : Nat} {W W1 : World} {F : Nat} {lb : Array Value} (h : BF lt base p W F lb) (hf : Fr base p 133 W W1) : BF lt base p W1 F lb :=
  h.stepC hf.c

theorem HM.row {W : World} {base p : Nat} {bf : Value} {es : List El} {T : Nat} (h : HM W base p bf es T) (hn : 0 < es.length) :
    ∃ g cap, base ≤ g ∧ g < W.heap.size ∧ g ≠ p ∧ es.length ≤ cap ∧ cap ≤ maxLen ∧ Blk W p 131 [bf, .slice (some ⟨g, 0, none⟩) es.length cap, .int .i64 (T : Int)] ∧ W.ownsRow base 133 2 (.slice (some ⟨g, 0, none⟩) es.length cap) es.length (cellsOf ec es) ∧ ∃ cs, W.heap[g]? = some (.cells cs 133 (0, 0)) := by
  obtain ⟨_, v, hb, ho⟩ := h
  have ho2 := ho
  obtain ⟨_, h2⟩ := ho2
  rcases h2 with ⟨_, h0⟩ | ⟨g, cap, cur, rfl, hg, hgg, hc, hm, _, _⟩
  · omega
  · refine ⟨g, cap, hg, (Array.getElem?_eq_some_iff.1 hgg).1, fun e => ?_, hc, hm, hb, ho, cur, hgg⟩
    subst e
    unfold Blk at hb
    rw [hb] at hgg
    simp at hgg
theorem own_at {W : World} {base g n cap : Nat} {es : List El} (h : W.ownsRow base 133 2 (.slice (some ⟨g, 0, none⟩) n cap) n (cellsOf ec es)) (i j : Nat) (hi : i < n) (hj : j < 2) : W.cell? ⟨g, i * 2 + j, none⟩ = (ec (gt zE es i))[j]? := by
  have hl : n = es.length := by
    have := h.1
    rw [cellsOf_length ec_length] at this
    omega
  rw [h.cellAt (i * 2 + j) (by omega), cellsOf_at ec_length es zE (by omega) hj]
  rfl

theorem bel_alloc2 (W : World) (o1 o2 : Obj) : Below W.heap.size W ((W.alloc o1).alloc o2) := ((Below.refl _ W).alloc (Nat.le_refl _) _).alloc (by simp) _

set_option maxRecDepth 100000 in
set_option maxHeartbeats 4000000 in
/-- which of two stands first -/
theorem first_any (lt : Int → Int → Bool) (W : World) (base p F : Nat) (lb : Array Value) (es : List El) (T : Nat) (i k : Nat) (hi : i < es.length) (hk : k < es.length)
    (hbs : base ≤ W.heap.size) (hM : HM W base p (.func (.func F) #[] lb) es T) (hB : BF lt base p W F lb) :
    Calls Try.prog 122 #[.pointer (some ⟨p, 0, none⟩), .int .i64 (i : Int), .int .i64 (k : Int)] W fun e w' => e = .returned (.bool (fst lt (gt zE es i) (gt zE es k))) ∧ Below W.heap.size W w' := by
  obtain ⟨g, cap, hbg, hgl, hgp, hlc, hcm, hP, hR, _⟩ := hM.row (by omega)
  have c0 := hP.cell (i := 0) rfl
  have c1 := hP.cell (i := 1) rfl
  obtain ⟨⟨k1, t1⟩, h1⟩ : ∃ q, gt zE es i = q := ⟨_, rfl⟩
  obtain ⟨⟨k2, t2⟩, h2⟩ : ∃ q, gt zE es k = q := ⟨_, rfl⟩
  have a1 : ∀ j, j < 2 → W.cell? ⟨g, i * 2 + j, none⟩ = (ec (k1, t1))[j]? := fun j hj => by rw [own_at hR i j hi hj, h1]
  have a2 : ∀ j, j < 2 → W.cell? ⟨g, k * 2 + j, none⟩ = (ec (k2, t2))[j]? := fun j hj => by rw [own_at hR k j hk hj, h2]
  rw [h1, h2]
  obtain ⟨r12, l12⟩ : ∃ r, lt k1 k2 = r := ⟨_, rfl⟩
  obtain ⟨r21, l21⟩ : ∃ r, lt k2 k1 = r := ⟨_, rfl⟩
  have hfin : fst lt (k1, t1) (k2, t2) = (r12 || (!r21 && decide (t1 < t2))) := by unfold fst; rw [l12, l21]
  have H12 := Lib.hid l12; clear l12
  have H21 := Lib.hid l21; clear l21
  have HFIN := Lib.hid hfin; clear hfin
  have q1 : W.cell? ⟨g, i * 2, none⟩ = some (.int .i64 k1) ∧ W.cell? ⟨g, i * 2 + 1, none⟩ = some (.int .i64 (t1 : Int)) := ⟨a1 0 (by decide), a1 1 (by decide)⟩
  have q2 : W.cell? ⟨g, k * 2, none⟩ = some (.int .i64 k2) ∧ W.cell? ⟨g, k * 2 + 1, none⟩ = some (.int .i64 (t2 : Int)) := ⟨a2 0 (by decide), a2 1 (by decide)⟩
  have ib0 : (0 : Int) ≤ (i : Int) := Int.natCast_nonneg _
  have kb0 : (0 : Int) ≤ (k : Int) := Int.natCast_nonneg _
  have ib1 : (i : Int) < (es.length : Int) := by omega
  have kb1 : (k : Int) < (es.length : Int) := by omega
  clear a1 a2
  go_enter Try.func122, Try.ntmps122
  go_wp2_with fail
  go_region_held3 (fun w' => w'.cell? ⟨p, 0, none⟩ = some (.func (.func F) #[] lb) ∧ w'.cell? ⟨p, 1, none⟩ = some (.slice (some ⟨g, 0, none⟩) es.length cap) ∧ (w'.cell? ⟨g, i * 2, none⟩ = some (.int .i64 k1) ∧ w'.cell? ⟨g, i * 2 + 1, none⟩ = some (.int .i64 (t1 : Int))) ∧ (w'.cell? ⟨g, k * 2, none⟩ = some (.int .i64 k2) ∧ w'.cell? ⟨g, k * 2 + 1, none⟩ = some (.int .i64 (t2 : Int)))) (go_keep) (fail)
  · go_wp2_with fail
    obtain ⟨W2, hW2⟩ : ∃ W2, (((W.alloc (.cells #[.int .i64 k1, .int .i64 (t1 : Int)] 133)).alloc (.cells #[.int .i64 k2, .int .i64 (t2 : Int)] 133)).drew) = W2 := ⟨_, rfl⟩
    have hb2 : Below W.heap.size W W2 := by rw [← hW2]; exact (bel_alloc2 W _ _).drew
    have d0 : W2.cell? ⟨p, 0, none⟩ = some (.func (.func F) #[] lb) := by rw [hb2.cell (p := ⟨p, 0, none⟩) hP.lt]; exact c0
    have n1 : Blk W2 W.heap.size 133 [.int .i64 k1, .int .i64 (t1 : Int)] := by rw [← hW2]; exact ((Blk.new W [.int .i64 k1, .int .i64 (t1 : Int)] 133).alloc _).drew
    have n2 : Blk W2 (W.heap.size + 1) 133 [.int .i64 k2, .int .i64 (t2 : Int)] := by rw [← hW2]; have := (Blk.new (W.alloc (.cells #[.int .i64 k1, .int .i64 (t1 : Int)] 133)) [.int .i64 k2, .int .i64 (t2 : Int)] 133).drew; rw [World.size_alloc] at this; exact this
    rw [hW2]
    clear hW2
    have hs2 := hb2.size
    have hz2 : W.heap.size + 1 < W2.heap.size := n2.lt
    have e1 : W2.cell? ⟨W.heap.size, 0, none⟩ = some (.int .i64 k1) ∧ W2.cell? ⟨W.heap.size, 1, none⟩ = some (.int .i64 (t1 : Int)) := ⟨n1.cell (i := 0) rfl, n1.cell (i := 1) rfl⟩
    have e2 : W2.cell? ⟨(W.heap.size + 1), 0, none⟩ = some (.int .i64 k2) ∧ W2.cell? ⟨(W.heap.size + 1), 1, none⟩ = some (.int .i64 (t2 : Int)) := ⟨n2.cell (i := 0) rfl, n2.cell (i := 1) rfl⟩
    have hB2 : BF lt base p W2 F lb := hB.step (Fr.ofB hb2 hbs)
    have hpl := Nat.lt_of_lt_of_le hP.lt hs2
    have hz1 : W.heap.size < W2.heap.size := n1.lt
    have eg := hB2.1
    have hB3 := Lib.hid hB2.2
    clear hB2 hB
    clear c0 c1 q1 q2 hP hR
    go_region_held3 (fun w' => w'.cell? ⟨p, 0, none⟩ = some (.func (.func F) #[] lb) ∧ (w'.cell? ⟨W.heap.size, 0, none⟩ = some (.int .i64 k1) ∧ w'.cell? ⟨W.heap.size, 1, none⟩ = some (.int .i64 (t1 : Int))) ∧ (w'.cell? ⟨(W.heap.size + 1), 0, none⟩ = some (.int .i64 k2) ∧ w'.cell? ⟨(W.heap.size + 1), 1, none⟩ = some (.int .i64 (t2 : Int)))) (go_keep) ((refine (hB3.out k1 k2 _ (Fr.c (Fr.ofB ((Below.refl _ _).drew) (by omega)))).mono ?_; rintro e w3 ⟨rfl, hb3'⟩; rw [H12.out]; have hb3 := Below.trans (Below.drew (Below.refl W2.heap.size W2)) hb3'; clear hb3'; obtain ⟨hc3, hf3⟩ := bcell hb3))
    have hs3 := hb3.size
    have hpl3 := Nat.lt_of_lt_of_le hpl hs3
    have hz31 := Nat.lt_of_lt_of_le hz1 hs3
    have hz32 := Nat.lt_of_lt_of_le hz2 hs3
    cases r12
    · go_wp2_with fail
      go_region_held3 (fun w' => w'.cell? ⟨p, 0, none⟩ = some (.func (.func F) #[] lb) ∧ (w'.cell? ⟨W.heap.size, 0, none⟩ = some (.int .i64 k1) ∧ w'.cell? ⟨W.heap.size, 1, none⟩ = some (.int .i64 (t1 : Int))) ∧ (w'.cell? ⟨(W.heap.size + 1), 0, none⟩ = some (.int .i64 k2) ∧ w'.cell? ⟨(W.heap.size + 1), 1, none⟩ = some (.int .i64 (t2 : Int)))) (go_keep) ((refine (hB3.out k2 k1 _ (Fr.c (Fr.ofB (hb3.drew) (by omega)))).mono ?_; rintro e w4 ⟨rfl, hb4'⟩; rw [H21.out]; have hb4 := Below.trans (Below.drew (Below.refl w3.heap.size w3)) hb4'; clear hb4'; obtain ⟨hc4, hf4⟩ := bcell hb4))
      have hs4 := hb4.size
      have hz41 := Nat.lt_of_lt_of_le hz31 hs4
      have hz42 := Nat.lt_of_lt_of_le hz32 hs4
      cases r21
      · go_wp2_with fail
        go_ret
        exact ⟨by rw [HFIN.out]; simp, hb2.trans ((hb3.mono hs2).trans (hb4.mono (Nat.le_trans hs2 hs3)))⟩
      · go_wp2_with fail
        go_ret
        exact ⟨by rw [HFIN.out]; simp, hb2.trans ((hb3.mono hs2).trans (hb4.mono (Nat.le_trans hs2 hs3)))⟩
    · go_wp2_with fail
      go_ret
      exact ⟨by rw [HFIN.out]; simp, hb2.trans (hb3.mono hs2)⟩
  · go_wp2_with fail
    obtain ⟨W2, hW2⟩ : ∃ W2, (((W.alloc (.cells #[.int .i64 k2, .int .i64 (t2 : Int)] 133)).alloc (.cells #[.int .i64 k1, .int .i64 (t1 : Int)] 133)).drew) = W2 := ⟨_, rfl⟩
    have hb2 : Below W.heap.size W W2 := by rw [← hW2]; exact (bel_alloc2 W _ _).drew
    have d0 : W2.cell? ⟨p, 0, none⟩ = some (.func (.func F) #[] lb) := by rw [hb2.cell (p := ⟨p, 0, none⟩) hP.lt]; exact c0
    have n1 : Blk W2 W.heap.size 133 [.int .i64 k2, .int .i64 (t2 : Int)] := by rw [← hW2]; exact ((Blk.new W [.int .i64 k2, .int .i64 (t2 : Int)] 133).alloc _).drew
    have n2 : Blk W2 (W.heap.size + 1) 133 [.int .i64 k1, .int .i64 (t1 : Int)] := by rw [← hW2]; have := (Blk.new (W.alloc (.cells #[.int .i64 k2, .int .i64 (t2 : Int)] 133)) [.int .i64 k1, .int .i64 (t1 : Int)] 133).drew; rw [World.size_alloc] at this; exact this
    rw [hW2]
    clear hW2
    have hs2 := hb2.size
    have hz2 : W.heap.size + 1 < W2.heap.size := n2.lt
    have e1 : W2.cell? ⟨(W.heap.size + 1), 0, none⟩ = some (.int .i64 k1) ∧ W2.cell? ⟨(W.heap.size + 1), 1, none⟩ = some (.int .i64 (t1 : Int)) := ⟨n2.cell (i := 0) rfl, n2.cell (i := 1) rfl⟩
    have e2 : W2.cell? ⟨W.heap.size, 0, none⟩ = some (.int .i64 k2) ∧ W2.cell? ⟨W.heap.size, 1, none⟩ = some (.int .i64 (t2 : Int)) := ⟨n1.cell (i := 0) rfl, n1.cell (i := 1) rfl⟩
    have hB2 : BF lt base p W2 F lb := hB.step (Fr.ofB hb2 hbs)
    have hpl := Nat.lt_of_lt_of_le hP.lt hs2
    have hz1 : W.heap.size < W2.heap.size := n1.lt
    have eg := hB2.1
    have hB3 := Lib.hid hB2.2
    clear hB2 hB
    clear c0 c1 q1 q2 hP hR
    go_region_held3 (fun w' => w'.cell? ⟨p, 0, none⟩ = some (.func (.func F) #[] lb) ∧ (w'.cell? ⟨(W.heap.size + 1), 0, none⟩ = some (.int .i64 k1) ∧ w'.cell? ⟨(W.heap.size + 1), 1, none⟩ = some (.int .i64 (t1 : Int))) ∧ (w'.cell? ⟨W.heap.size, 0, none⟩ = some (.int .i64 k2) ∧ w'.cell? ⟨W.heap.size, 1, none⟩ = some (.int .i64 (t2 : Int)))) (go_keep) ((refine (hB3.out k1 k2 _ (Fr.c (Fr.ofB ((Below.refl _ _).drew) (by omega)))).mono ?_; rintro e w3 ⟨rfl, hb3'⟩; rw [H12.out]; have hb3 := Below.trans (Below.drew (Below.refl W2.heap.size W2)) hb3'; clear hb3'; obtain ⟨hc3, hf3⟩ := bcell hb3))
    have hs3 := hb3.size
    have hpl3 := Nat.lt_of_lt_of_le hpl hs3
    have hz31 := Nat.lt_of_lt_of_le hz1 hs3
    have hz32 := Nat.lt_of_lt_of_le hz2 hs3
    cases r12
    · go_wp2_with fail
      go_region_held3 (fun w' => w'.cell? ⟨p, 0, none⟩ = some (.func (.func F) #[] lb) ∧ (w'.cell? ⟨(W.heap.size + 1), 0, none⟩ = some (.int .i64 k1) ∧ w'.cell? ⟨(W.heap.size + 1), 1, none⟩ = some (.int .i64 (t1 : Int))) ∧ (w'.cell? ⟨W.heap.size, 0, none⟩ = some (.int .i64 k2) ∧ w'.cell? ⟨W.heap.size, 1, none⟩ = some (.int .i64 (t2 : Int)))) (go_keep) ((refine (hB3.out k2 k1 _ (Fr.c (Fr.ofB (hb3.drew) (by omega)))).mono ?_; rintro e w4 ⟨rfl, hb4'⟩; rw [H21.out]; have hb4 := Below.trans (Below.drew (Below.refl w3.heap.size w3)) hb4'; clear hb4'; obtain ⟨hc4, hf4⟩ := bcell hb4))
      have hs4 := hb4.size
      have hz41 := Nat.lt_of_lt_of_le hz31 hs4
      have hz42 := Nat.lt_of_lt_of_le hz32 hs4
      cases r21
      · go_wp2_with fail
        go_ret
        exact ⟨by rw [HFIN.out]; simp, hb2.trans ((hb3.mono hs2).trans (hb4.mono (Nat.le_trans hs2 hs3)))⟩
      · go_wp2_with fail
        go_ret
        exact ⟨by rw [HFIN.out]; simp, hb2.trans ((hb3.mono hs2).trans (hb4.mono (Nat.le_trans hs2 hs3)))⟩
    · go_wp2_with fail
      go_ret
      exact ⟨by rw [HFIN.out]; simp, hb2.trans (hb3.mono hs2)⟩

end Go.Proofs.Ytbhpokcnkdgcmaa.HeapN
