/- HeapI1, HeapI2, HeapI3, HeapI4, laid together. -/
import Derived.Test.YtbhpokcnkdgcmaaGr01
import Derived.Test.YtbhpokcnkdgcmaaGr02
import Derived.Test.YtbhpokcnkdgcmaaRows
import Derived.Deep.RegionHeld3
import Derived.WalkSpells
import Derived.WalkLawsBesides
import Derived.BigRegion
import Derived.Deep.LoopGhost
import Derived.BigQuiet
import Derived.Deep.QuietTactic

/- heap I: the memory of a heap; which of two stands first. -/
set_option linter.unusedSimpArgs false
set_option linter.unusedVariables false
namespace Go.Proofs.Ytbhpokcnkdgcmaa.HeapI
open Go.RowKit Go.Proofs.Ytbhpokcnkdgcmaa.HeapL

abbrev El := Int × Nat
def zE : El := ((0 : Int), 0)
def ev (x : Int) : Value := .int .i64 x
def ec (e : El) : List Value := [.int .i64 e.1, .int .i64 e.2]
theorem ec_length (e : El) : (ec e).length = 2 := rfl

/-- which of two entries stands first -/
def fst (lt : Int → Int → Bool) (a b : El) : Bool := lt a.1 b.1 || (!lt b.1 a.1 && decide (a.2 < b.2))

/-- the memory of a heap: the object at p, the row of its entries -/
def HM (W : World) (base p : Nat) (bf : Value) (es : List El) (T : Nat) : Prop :=
  base ≤ p ∧ ∃ v, Blk W p 151 [bf, v, .int .i64 (T : Int)] ∧ W.ownsRow base 153 2 v es.length (cellsOf ec es)

/-- the function that compares, at any later world -/
def BF (lt : Int → Int → Bool) (base p : Nat) (W : World) (F : Nat) (lb : Array Value) : Prop :=
  (∀ args w, (callFunc F args).run Try.prog w = .ok (.enter F args) w) ∧ ∀ x y W', FrC base p 153 W W' → Calls Try.prog F (#[ev x, ev y] ++ lb) W' fun e w' => e = .returned (.bool (lt x y)) ∧ Below W'.heap.size W' w'
theorem BF.stepC {lt : Int → Int → Bool} {base p : Nat} {W W1 : World} {F : Nat} {lb : Array Value} (h : BF lt base p W F lb) (hf : FrC base p 153 W W1) : BF lt base p W1 F lb :=
  ⟨h.1, fun x y W' h' => h.2 x y W' (hf.trans h')⟩
theorem BF.step {lt : Int → Int → Bool} {base p : Nat} {W W1 : World} {F : Nat} {lb : Array Value} (h : BF lt base p W F lb) (hf : Fr base p 153 W W1) : BF lt base p W1 F lb :=
  h.stepC hf.c

theorem HM.row {W : World} {base p : Nat} {bf : Value} {es : List El} {T : Nat} (h : HM W base p bf es T) (hn : 0 < es.length) :
    ∃ g cap, base ≤ g ∧ g < W.heap.size ∧ g ≠ p ∧ es.length ≤ cap ∧ cap ≤ maxLen ∧ Blk W p 151 [bf, .slice (some ⟨g, 0, none⟩) es.length cap, .int .i64 (T : Int)] ∧ W.ownsRow base 153 2 (.slice (some ⟨g, 0, none⟩) es.length cap) es.length (cellsOf ec es) ∧ ∃ cs, W.heap[g]? = some (.cells cs 153 (0, 0)) := by
  obtain ⟨_, v, hb, ho⟩ := h
  have ho2 := ho
  obtain ⟨_, h2⟩ := ho2
  rcases h2 with ⟨_, h0⟩ | ⟨g, cap, cur, rfl, hg, hgg, hc, hm, _, _⟩
  · omega
  · refine ⟨g, cap, hg, (Array.getElem?_eq_some_iff.1 hgg).1, fun e => ?_, hc, hm, hb, ho, cur, hgg⟩
    subst e
    unfold Blk at hb
    rw [hb] at hgg
    simp at hgg
theorem own_at {W : World} {base g n cap : Nat} {es : List El} (h : W.ownsRow base 153 2 (.slice (some ⟨g, 0, none⟩) n cap) n (cellsOf ec es)) (i j : Nat) (hi : i < n) (hj : j < 2) : W.cell? ⟨g, i * 2 + j, none⟩ = (ec (gt zE es i))[j]? := by
  have hl : n = es.length := by
    have := h.1
    rw [cellsOf_length ec_length] at this
    omega
  rw [h.cellAt (i * 2 + j) (by omega), cellsOf_at ec_length es zE (by omega) hj]
  rfl

theorem bel_alloc2 (W : World) (o1 o2 : Obj) : Below W.heap.size W ((W.alloc o1).alloc o2) := ((Below.refl _ W).alloc (Nat.le_refl _) _).alloc (by simp) _

set_option maxRecDepth 100000 in
set_option maxHeartbeats 4000000 in
/-- which of two stands first -/
theorem first_any (lt : Int → Int → Bool) (W : World) (base p F : Nat) (lb : Array Value) (es : List El) (T : Nat) (i k : Nat) (hi : i < es.length) (hk : k < es.length)
    (hbs : base ≤ W.heap.size) (hM : HM W base p (.func (.func F) #[] lb) es T) (hB : BF lt base p W F lb) :
    Calls Try.prog 126 #[.pointer (some ⟨p, 0, none⟩), .int .i64 (i : Int), .int .i64 (k : Int)] W fun e w' => e = .returned (.bool (fst lt (gt zE es i) (gt zE es k))) ∧ Below W.heap.size W w' := by
  obtain ⟨g, cap, hbg, hgl, hgp, hlc, hcm, hP, hR, _⟩ := hM.row (by omega)
  have c0 := hP.cell (i := 0) rfl
  have c1 := hP.cell (i := 1) rfl
  obtain ⟨⟨k1, t1⟩, h1⟩ : ∃ q, gt zE es i = q := ⟨_, rfl⟩
  obtain ⟨⟨k2, t2⟩, h2⟩ : ∃ q, gt zE es k = q := ⟨_, rfl⟩
  have a1 : ∀ j, j < 2 → W.cell? ⟨g, i * 2 + j, none⟩ = (ec (k1, t1))[j]? := fun j hj => by rw [own_at hR i j hi hj, h1]
  have a2 : ∀ j, j < 2 → W.cell? ⟨g, k * 2 + j, none⟩ = (ec (k2, t2))[j]? := fun j hj => by rw [own_at hR k j hk hj, h2]
  rw [h1, h2]
  obtain ⟨r12, l12⟩ : ∃ r, lt k1 k2 = r := ⟨_, rfl⟩
  obtain ⟨r21, l21⟩ : ∃ r, lt k2 k1 = r := ⟨_, rfl⟩
  have hfin : fst lt (k1, t1) (k2, t2) = (r12 || (!r21 && decide (t1 < t2))) := by unfold fst; rw [l12, l21]
  have H12 := Lib.hid l12; clear l12
  have H21 := Lib.hid l21; clear l21
  have HFIN := Lib.hid hfin; clear hfin
  have q1 : W.cell? ⟨g, i * 2, none⟩ = some (.int .i64 k1) ∧ W.cell? ⟨g, i * 2 + 1, none⟩ = some (.int .i64 (t1 : Int)) := ⟨a1 0 (by decide), a1 1 (by decide)⟩
  have q2 : W.cell? ⟨g, k * 2, none⟩ = some (.int .i64 k2) ∧ W.cell? ⟨g, k * 2 + 1, none⟩ = some (.int .i64 (t2 : Int)) := ⟨a2 0 (by decide), a2 1 (by decide)⟩
  have ib0 : (0 : Int) ≤ (i : Int) := Int.natCast_nonneg _
  have kb0 : (0 : Int) ≤ (k : Int) := Int.natCast_nonneg _
  have ib1 : (i : Int) < (es.length : Int) := by omega
  have kb1 : (k : Int) < (es.length : Int) := by omega
  clear a1 a2
  go_enter Try.func126, Try.ntmps126
  go_wp2_with fail
  go_region_held3 (fun w' => w'.cell? ⟨p, 0, none⟩ = some (.func (.func F) #[] lb) ∧ w'.cell? ⟨p, 1, none⟩ = some (.slice (some ⟨g, 0, none⟩) es.length cap) ∧ (w'.cell? ⟨g, i * 2, none⟩ = some (.int .i64 k1) ∧ w'.cell? ⟨g, i * 2 + 1, none⟩ = some (.int .i64 (t1 : Int))) ∧ (w'.cell? ⟨g, k * 2, none⟩ = some (.int .i64 k2) ∧ w'.cell? ⟨g, k * 2 + 1, none⟩ = some (.int .i64 (t2 : Int)))) (go_keep) (fail)
  · go_wp2_with fail
    obtain ⟨W2, hW2⟩ : ∃ W2, (((W.alloc (.cells #[.int .i64 k1, .int .i64 (t1 : Int)] 153)).alloc (.cells #[.int .i64 k2, .int .i64 (t2 : Int)] 153)).drew) = W2 := ⟨_, rfl⟩
    have hb2 : Below W.heap.size W W2 := by rw [← hW2]; exact (bel_alloc2 W _ _).drew
    have d0 : W2.cell? ⟨p, 0, none⟩ = some (.func (.func F) #[] lb) := by rw [hb2.cell (p := ⟨p, 0, none⟩) hP.lt]; exact c0
    have n1 : Blk W2 W.heap.size 153 [.int .i64 k1, .int .i64 (t1 : Int)] := by rw [← hW2]; exact ((Blk.new W [.int .i64 k1, .int .i64 (t1 : Int)] 153).alloc _).drew
    have n2 : Blk W2 (W.heap.size + 1) 153 [.int .i64 k2, .int .i64 (t2 : Int)] := by rw [← hW2]; have := (Blk.new (W.alloc (.cells #[.int .i64 k1, .int .i64 (t1 : Int)] 153)) [.int .i64 k2, .int .i64 (t2 : Int)] 153).drew; rw [World.size_alloc] at this; exact this
    rw [hW2]
    clear hW2
    have hs2 := hb2.size
    have hz2 : W.heap.size + 1 < W2.heap.size := n2.lt
    have e1 : W2.cell? ⟨W.heap.size, 0, none⟩ = some (.int .i64 k1) ∧ W2.cell? ⟨W.heap.size, 1, none⟩ = some (.int .i64 (t1 : Int)) := ⟨n1.cell (i := 0) rfl, n1.cell (i := 1) rfl⟩
    have e2 : W2.cell? ⟨(W.heap.size + 1), 0, none⟩ = some (.int .i64 k2) ∧ W2.cell? ⟨(W.heap.size + 1), 1, none⟩ = some (.int .i64 (t2 : Int)) := ⟨n2.cell (i := 0) rfl, n2.cell (i := 1) rfl⟩
    have hB2 : BF lt base p W2 F lb := hB.step (Fr.ofB hb2 hbs)
    have hpl := Nat.lt_of_lt_of_le hP.lt hs2
    have hz1 : W.heap.size < W2.heap.size := n1.lt
    have eg := hB2.1
    have hB3 := Lib.hid hB2.2
    clear hB2 hB
    clear c0 c1 q1 q2 hP hR
    go_region_held3 (fun w' => w'.cell? ⟨p, 0, none⟩ = some (.func (.func F) #[] lb) ∧ (w'.cell? ⟨W.heap.size, 0, none⟩ = some (.int .i64 k1) ∧ w'.cell? ⟨W.heap.size, 1, none⟩ = some (.int .i64 (t1 : Int))) ∧ (w'.cell? ⟨(W.heap.size + 1), 0, none⟩ = some (.int .i64 k2) ∧ w'.cell? ⟨(W.heap.size + 1), 1, none⟩ = some (.int .i64 (t2 : Int)))) (go_keep) ((refine (hB3.out k1 k2 _ (Fr.c (Fr.ofB ((Below.refl _ _).drew) (by omega)))).mono ?_; rintro e w3 ⟨rfl, hb3'⟩; rw [H12.out]; have hb3 := Below.trans (Below.drew (Below.refl W2.heap.size W2)) hb3'; clear hb3'; obtain ⟨hc3, hf3⟩ := bcell hb3))
    have hs3 := hb3.size
    have hpl3 := Nat.lt_of_lt_of_le hpl hs3
    have hz31 := Nat.lt_of_lt_of_le hz1 hs3
    have hz32 := Nat.lt_of_lt_of_le hz2 hs3
    cases r12
    · go_wp2_with fail
      go_region_held3 (fun w' => w'.cell? ⟨p, 0, none⟩ = some (.func (.func F) #[] lb) ∧ (w'.cell? ⟨W.heap.size, 0, none⟩ = some (.int .i64 k1) ∧ w'.cell? ⟨W.heap.size, 1, none⟩ = some (.int .i64 (t1 : Int))) ∧ (w'.cell? ⟨(W.heap.size + 1), 0, none⟩ = some (.int .i64 k2) ∧ w'.cell? ⟨(W.heap.size + 1), 1, none⟩ = some (.int .i64 (t2 : Int)))) (go_keep) ((refine (hB3.out k2 k1 _ (Fr.c (Fr.ofB (hb3.drew) (by omega)))).mono ?_; rintro e w4 ⟨rfl, hb4'⟩; rw [H21.out]; have hb4 := Below.trans (Below.drew (Below.refl w3.heap.size w3)) hb4'; clear hb4'; obtain ⟨hc4, hf4⟩ := bcell hb4))
      have hs4 := hb4.size
      have hz41 := Nat.lt_of_lt_of_le hz31 hs4
      have hz42 := Nat.lt_of_lt_of_le hz32 hs4
      cases r21
      · go_wp2_with fail
        go_ret
        exact ⟨by rw [HFIN.out]; simp, hb2.trans ((hb3.mono hs2).trans (hb4.mono (Nat.le_trans hs2 hs3)))⟩
      · go_wp2_with fail
        go_ret
        exact ⟨by rw [HFIN.out]; simp, hb2.trans ((hb3.mono hs2).trans (hb4.mono (Nat.le_trans hs2 hs3)))⟩
    · go_wp2_with fail
      go_ret
      exact ⟨by rw [HFIN.out]; simp, hb2.trans (hb3.mono hs2)⟩
  · go_wp2_with fail
    obtain ⟨W2, hW2⟩ : ∃ W2, (((W.alloc (.cells #[.int .i64 k2, .int .i64 (t2 : Int)] 153)).alloc (.cells #[.int .i64 k1, .int .i64 (t1 : Int)] 153)).drew) = W2 := ⟨_, rfl⟩
    have hb2 : Below W.heap.size W W2 := by rw [← hW2]; exact (bel_alloc2 W _ _).drew
    have d0 : W2.cell? ⟨p, 0, none⟩ = some (.func (.func F) #[] lb) := by rw [hb2.cell (p := ⟨p, 0, none⟩) hP.lt]; exact c0
    have n1 : Blk W2 W.heap.size 153 [.int .i64 k2, .int .i64 (t2 : Int)] := by rw [← hW2]; exact ((Blk.new W [.int .i64 k2, .int .i64 (t2 : Int)] 153).alloc _).drew
    have n2 : Blk W2 (W.heap.size + 1) 153 [.int .i64 k1, .int .i64 (t1 : Int)] := by rw [← hW2]; have := (Blk.new (W.alloc (.cells #[.int .i64 k2, .int .i64 (t2 : Int)] 153)) [.int .i64 k1, .int .i64 (t1 : Int)] 153).drew; rw [World.size_alloc] at this; exact this
    rw [hW2]
    clear hW2
    have hs2 := hb2.size
    have hz2 : W.heap.size + 1 < W2.heap.size := n2.lt
    have e1 : W2.cell? ⟨(W.heap.size + 1), 0, none⟩ = some (.int .i64 k1) ∧ W2.cell? ⟨(W.heap.size + 1), 1, none⟩ = some (.int .i64 (t1 : Int)) := ⟨n2.cell (i := 0) rfl, n2.cell (i := 1) rfl⟩
    have e2 : W2.cell? ⟨W.heap.size, 0, none⟩ = some (.int .i64 k2) ∧ W2.cell? ⟨W.heap.size, 1, none⟩ = some (.int .i64 (t2 : Int)) := ⟨n1.cell (i := 0) rfl, n1.cell (i := 1) rfl⟩
    have hB2 : BF lt base p W2 F lb := hB.step (Fr.ofB hb2 hbs)
    have hpl := Nat.lt_of_lt_of_le hP.lt hs2
    have hz1 : W.heap.size < W2.heap.size := n1.lt
    have eg := hB2.1
    have hB3 := Lib.hid hB2.2
    clear hB2 hB
    clear c0 c1 q1 q2 hP hR
    go_region_held3 (fun w' => w'.cell? ⟨p, 0, none⟩ = some (.func (.func F) #[] lb) ∧ (w'.cell? ⟨(W.heap.size + 1), 0, none⟩ = some (.int .i64 k1) ∧ w'.cell? ⟨(W.heap.size + 1), 1, none⟩ = some (.int .i64 (t1 : Int))) ∧ (w'.cell? ⟨W.heap.size, 0, none⟩ = some (.int .i64 k2) ∧ w'.cell? ⟨W.heap.size, 1, none⟩ = some (.int .i64 (t2 : Int)))) (go_keep) ((refine (hB3.out k1 k2 _ (Fr.c (Fr.ofB ((Below.refl _ _).drew) (by omega)))).mono ?_; rintro e w3 ⟨rfl, hb3'⟩; rw [H12.out]; have hb3 := Below.trans (Below.drew (Below.refl W2.heap.size W2)) hb3'; clear hb3'; obtain ⟨hc3, hf3⟩ := bcell hb3))
    have hs3 := hb3.size
    have hpl3 := Nat.lt_of_lt_of_le hpl hs3
    have hz31 := Nat.lt_of_lt_of_le hz1 hs3
    have hz32 := Nat.lt_of_lt_of_le hz2 hs3
    cases r12
    · go_wp2_with fail
      go_region_held3 (fun w' => w'.cell? ⟨p, 0, none⟩ = some (.func (.func F) #[] lb) ∧ (w'.cell? ⟨(W.heap.size + 1), 0, none⟩ = some (.int .i64 k1) ∧ w'.cell? ⟨(W.heap.size + 1), 1, none⟩ = some (.int .i64 (t1 : Int))) ∧ (w'.cell? ⟨W.heap.size, 0, none⟩ = some (.int .i64 k2) ∧ w'.cell? ⟨W.heap.size, 1, none⟩ = some (.int .i64 (t2 : Int)))) (go_keep) ((refine (hB3.out k2 k1 _ (Fr.c (Fr.ofB (hb3.drew) (by omega)))).mono ?_; rintro e w4 ⟨rfl, hb4'⟩; rw [H21.out]; have hb4 := Below.trans (Below.drew (Below.refl w3.heap.size w3)) hb4'; clear hb4'; obtain ⟨hc4, hf4⟩ := bcell hb4))
      have hs4 := hb4.size
      have hz41 := Nat.lt_of_lt_of_le hz31 hs4
      have hz42 := Nat.lt_of_lt_of_le hz32 hs4
      cases r21
      · go_wp2_with fail
        go_ret
        exact ⟨by rw [HFIN.out]; simp, hb2.trans ((hb3.mono hs2).trans (hb4.mono (Nat.le_trans hs2 hs3)))⟩
      · go_wp2_with fail
        go_ret
        exact ⟨by rw [HFIN.out]; simp, hb2.trans ((hb3.mono hs2).trans (hb4.mono (Nat.le_trans hs2 hs3)))⟩
    · go_wp2_with fail
      go_ret
      exact ⟨by rw [HFIN.out]; simp, hb2.trans (hb3.mono hs2)⟩

end Go.Proofs.Ytbhpokcnkdgcmaa.HeapI

/- heap I: two change their places. -/
set_option linter.unusedSimpArgs false
set_option linter.unusedVariables false
namespace Go.Proofs.Ytbhpokcnkdgcmaa.HeapI
open Go.RowKit Go.Proofs.Ytbhpokcnkdgcmaa.HeapL

theorem own_blk {W : World} {p g i : Nat} {t : TypeId} {l : List Value} (h : Blk W p t l) (hne : g ≠ p) (vs : List Value) : Blk (W.setCells g i vs) p t l := by
  induction vs generalizing W i with
  | nil => exact h
  | cons v vs ih => exact ih (h.other (p := ⟨g, i, none⟩) (Ne.symm hne) v)

theorem swap_end (W : World) (base p : Nat) (bf : Value) (es : List El) (T i k : Nat) (hi : i < es.length) (hk : k < es.length) (hbp : base ≤ p) {g cap : Nat} {a b : El}
    (hP : Blk W p 151 [bf, .slice (some ⟨g, 0, none⟩) es.length cap, .int .i64 (T : Int)]) (hR : W.ownsRow base 153 2 (.slice (some ⟨g, 0, none⟩) es.length cap) es.length (cellsOf ec es))
    (hbg : base ≤ g) (hgp : g ≠ p) (hcs : ∃ cs fr, W.heap[g]? = some (.cells cs 153 fr)) (h1 : gt zE es i = a) (h2 : gt zE es k = b) :
    HM (((W.setCells g (i * 2) (ec b)).setCells g (k * 2) (ec a)).drew) base p bf (swp zE es i k) T ∧ Fr base p 153 W (((W.setCells g (i * 2) (ec b)).setCells g (k * 2) (ec a)).drew) := by
  have r1 := ownsRow_storedL (ec b) (i * 2) hR
  rw [← cellsOf_setL ec_length es i b hi] at r1
  have r2 := ownsRow_storedL (ec a) (k * 2) r1
  rw [← cellsOf_setL ec_length (es.set i b) k a (by simpa using hk)] at r2
  have e : (es.set i b).set k a = swp zE es i k := by unfold swp; rw [h1, h2]
  rw [e] at r2
  obtain ⟨f1, c1⟩ := Fr.setRowL hbg (ec b) (i * 2) (Fr.refl base p 153 W) hcs
  obtain ⟨f2, _⟩ := Fr.setRowL hbg (ec a) (k * 2) f1 c1
  refine ⟨⟨hbp, _, ((own_blk (own_blk hP hgp _) hgp _).drew), ?_⟩, f2.drew⟩
  rw [swp_length]
  exact r2.drew

set_option maxRecDepth 100000 in
set_option maxHeartbeats 4000000 in
/-- two change their places -/
theorem swap_ne (W : World) (base p : Nat) (bf : Value) (es : List El) (T : Nat) (i k : Nat) (hi : i < es.length) (hk : k < es.length) (hne : i ≠ k) (hM : HM W base p bf es T) :
    Calls Try.prog 115 #[.pointer (some ⟨p, 0, none⟩), .int .i64 (i : Int), .int .i64 (k : Int)] W fun e w' => e = .returned (.tuple #[]) ∧ HM w' base p bf (swp zE es i k) T ∧ Fr base p 153 W w' := by
  obtain ⟨g, cap, hbg, hgl, hgp, hlc, hcm, hP, hR, cs, hcs⟩ := hM.row (by omega)
  have c1 := hP.cell (i := 1) rfl
  obtain ⟨⟨k1, t1⟩, h1⟩ : ∃ q, gt zE es i = q := ⟨_, rfl⟩
  obtain ⟨⟨k2, t2⟩, h2⟩ : ∃ q, gt zE es k = q := ⟨_, rfl⟩
  have a1 : ∀ j, j < 2 → W.cell? ⟨g, i * 2 + j, none⟩ = (ec (k1, t1))[j]? := fun j hj => by rw [own_at hR i j hi hj, h1]
  have a2 : ∀ j, j < 2 → W.cell? ⟨g, k * 2 + j, none⟩ = (ec (k2, t2))[j]? := fun j hj => by rw [own_at hR k j hk hj, h2]
  have q1 : W.cell? ⟨g, i * 2, none⟩ = some (.int .i64 k1) ∧ W.cell? ⟨g, i * 2 + 1, none⟩ = some (.int .i64 (t1 : Int)) := ⟨a1 0 (by decide), a1 1 (by decide)⟩
  have q2 : W.cell? ⟨g, k * 2, none⟩ = some (.int .i64 k2) ∧ W.cell? ⟨g, k * 2 + 1, none⟩ = some (.int .i64 (t2 : Int)) := ⟨a2 0 (by decide), a2 1 (by decide)⟩
  have f1 : ∀ j, W.frozen? ⟨g, j, none⟩ = false := fun j => hR.frozenAt j
  have ib0 : (0 : Int) ≤ (i : Int) := Int.natCast_nonneg _
  have kb0 : (0 : Int) ≤ (k : Int) := Int.natCast_nonneg _
  have ib1 : (i : Int) < (es.length : Int) := by omega
  have kb1 : (k : Int) < (es.length : Int) := by omega
  clear a1 a2
  go_enter Try.func115, Try.ntmps115
  go_wp2_with fail
  go_region
  go_end0
  refine ⟨rfl, ?_⟩
  have hE := swap_end W base p bf es T i k hi hk hM.1 hP hR hbg hgp ⟨cs, (0, 0), hcs⟩ h1 h2
  simp only [ec, World.setCells, Nat.add_assoc, Nat.reduceAdd] at hE
  exact hE

set_option maxRecDepth 100000 in
set_option maxHeartbeats 4000000 in
/-- one keeps its place -/
theorem swap_eq (W : World) (base p : Nat) (bf : Value) (es : List El) (T : Nat) (i : Nat) (hi : i < es.length) (hM : HM W base p bf es T) :
    Calls Try.prog 115 #[.pointer (some ⟨p, 0, none⟩), .int .i64 (i : Int), .int .i64 (i : Int)] W fun e w' => e = .returned (.tuple #[]) ∧ HM w' base p bf (swp zE es i i) T ∧ Fr base p 153 W w' := by
  obtain ⟨g, cap, hbg, hgl, hgp, hlc, hcm, hP, hR, cs, hcs⟩ := hM.row (by omega)
  have c1 := hP.cell (i := 1) rfl
  obtain ⟨⟨k1, t1⟩, h1⟩ : ∃ q, gt zE es i = q := ⟨_, rfl⟩
  have a1 : ∀ j, j < 2 → W.cell? ⟨g, i * 2 + j, none⟩ = (ec (k1, t1))[j]? := fun j hj => by rw [own_at hR i j hi hj, h1]
  have q1 : W.cell? ⟨g, i * 2, none⟩ = some (.int .i64 k1) ∧ W.cell? ⟨g, i * 2 + 1, none⟩ = some (.int .i64 (t1 : Int)) := ⟨a1 0 (by decide), a1 1 (by decide)⟩
  have f1 : ∀ j, W.frozen? ⟨g, j, none⟩ = false := fun j => hR.frozenAt j
  have ib0 : (0 : Int) ≤ (i : Int) := Int.natCast_nonneg _
  have ib1 : (i : Int) < (es.length : Int) := by omega
  clear a1
  go_enter Try.func115, Try.ntmps115
  go_wp2_with fail
  go_region
  go_end0
  refine ⟨rfl, ?_⟩
  have hE := swap_end W base p bf es T i i hi hi hM.1 hP hR hbg hgp ⟨cs, (0, 0), hcs⟩ h1 h1
  simp only [ec, World.setCells, Nat.add_assoc, Nat.reduceAdd] at hE
  exact hE

theorem swap_any (W : World) (base p : Nat) (bf : Value) (es : List El) (T : Nat) (i k : Nat) (hi : i < es.length) (hk : k < es.length) (hM : HM W base p bf es T) :
    Calls Try.prog 115 #[.pointer (some ⟨p, 0, none⟩), .int .i64 (i : Int), .int .i64 (k : Int)] W fun e w' => e = .returned (.tuple #[]) ∧ HM w' base p bf (swp zE es i k) T ∧ Fr base p 153 W w' := by
  by_cases h : i = k
  · subst h; exact swap_eq W base p bf es T i hi hM
  · exact swap_ne W base p bf es T i k hi hk h hM

end Go.Proofs.Ytbhpokcnkdgcmaa.HeapI

/- heap I: a thing is brought where it belongs, from below and from above. -/
set_option linter.unusedSimpArgs false
set_option linter.unusedVariables false
namespace Go.Proofs.Ytbhpokcnkdgcmaa.HeapI
open Go.RowKit Go.Proofs.Ytbhpokcnkdgcmaa.HeapL

theorem fst_ord {lt : Int → Int → Bool} (h : Ord lt) : Ord (fst lt) where
  asym := fun a b hab => by
    unfold fst at hab ⊢
    have h1 := h.asym a.1 b.1
    have h2 := h.asym b.1 a.1
    cases hx : lt a.1 b.1 <;> cases hy : lt b.1 a.1 <;> simp_all
    omega
  tr := fun a b c h1 h2 => by
    unfold fst at h1 h2 ⊢
    simp only [Bool.or_eq_false_iff, Bool.and_eq_false_iff, Bool.not_eq_false', decide_eq_false_iff_not] at h1 h2 ⊢
    obtain ⟨p1, p2⟩ := h1
    obtain ⟨q1, q2⟩ := h2
    refine ⟨h.tr _ _ _ p1 q1, ?_⟩
    cases hac : lt a.1 c.1
    · right
      have hab : lt a.1 b.1 = false := h.tr _ _ _ q1 hac
      have hbc : lt b.1 c.1 = false := h.tr _ _ _ hac p1
      rw [hab] at p2
      rw [hbc] at q2
      simp at p2 q2
      omega
    · left; rfl

/-- which of two stands first: the places as numbers -/
theorem first_int (lt : Int → Int → Bool) (W : World) (base p F : Nat) (lb : Array Value) (es : List El) (T : Nat) (i k : Int) (i0 : 0 ≤ i) (hi : i < es.length) (k0 : 0 ≤ k) (hk : k < es.length)
    (hbs : base ≤ W.heap.size) (hM : HM W base p (.func (.func F) #[] lb) es T) (hB : BF lt base p W F lb) :
    Calls Try.prog 126 #[.pointer (some ⟨p, 0, none⟩), .int .i64 i, .int .i64 k] W fun e w' => e = .returned (.bool (fst lt (gt zE es i.toNat) (gt zE es k.toNat))) ∧ Below W.heap.size W w' := by
  obtain ⟨i, rfl⟩ := Int.eq_ofNat_of_zero_le i0
  obtain ⟨k, rfl⟩ := Int.eq_ofNat_of_zero_le k0
  exact first_any lt W base p F lb es T i k (by omega) (by omega) hbs hM hB
theorem swap_int (W : World) (base p : Nat) (bf : Value) (es : List El) (T : Nat) (i k : Int) (i0 : 0 ≤ i) (hi : i < es.length) (k0 : 0 ≤ k) (hk : k < es.length) (hM : HM W base p bf es T) :
    Calls Try.prog 115 #[.pointer (some ⟨p, 0, none⟩), .int .i64 i, .int .i64 k] W fun e w' => e = .returned (.tuple #[]) ∧ HM w' base p bf (swp zE es i.toNat k.toNat) T ∧ Fr base p 153 W w' := by
  obtain ⟨i, rfl⟩ := Int.eq_ofNat_of_zero_le i0
  obtain ⟨k, rfl⟩ := Int.eq_ofNat_of_zero_le k0
  exact swap_any W base p bf es T i k (by omega) (by omega) hM
theorem HM.below {W W' : World} {base p : Nat} {bf : Value} {es : List El} {T : Nat} (h : HM W base p bf es T) (hb : Below W.heap.size W W') : HM W' base p bf es T := by
  obtain ⟨h1, v, h2, h3⟩ := h
  exact ⟨h1, v, h2.belowS hb, h3.kept (⟨hb.os, hb.tape, hb.output, hb.size, fun k hk _ => hb.block k hk⟩ : W.grownBy W' none) (by cases v.ownBlock <;> simp)⟩
theorem HM.lt {W : World} {base p : Nat} {bf : Value} {es : List El} {T : Nat} (h : HM W base p bf es T) : base ≤ p ∧ p < W.heap.size := by
  obtain ⟨h1, v, h2, h3⟩ := h
  exact ⟨h1, h2.lt⟩
theorem HM.max {W : World} {base p : Nat} {bf : Value} {es : List El} {T : Nat} (h : HM W base p bf es T) : es.length ≤ maxLen := by
  by_cases hn : 0 < es.length
  · obtain ⟨g, cap, _, _, _, h1, h2, _⟩ := h.row hn
    omega
  · omega

set_option maxRecDepth 100000 in
set_option maxHeartbeats 4000000 in
/-- from below -/
theorem up_any (lt : Int → Int → Bool) (ho : Ord lt) (W : World) (base p F : Nat) (lb : Array Value) (es : List El) (T : Nat) (i : Int) (i0 : 0 ≤ i)
    (hM : HM W base p (.func (.func F) #[] lb) es T) (hB : BF lt base p W F lb) (hU : UpInv (fst lt) zE es i.toNat) :
    Calls Try.prog 112 #[.pointer (some ⟨p, 0, none⟩), .int .i64 i] W fun e w' => e = .returned (.tuple #[]) ∧ (∃ es', HM w' base p (.func (.func F) #[] lb) es' T ∧ Heap (fst lt) zE es' ∧ es'.Perm es) ∧ Fr base p 153 W w' := by
  have hmax := hM.max
  unfold maxLen at hmax
  go_enter Try.func112, Try.ntmps112
  go_wp2_with fail
  go_loopw [1] (fun i wr => ∃ (j : Nat) (es1 : List El), i = .int .i64 j ∧ HM wr base p (.func (.func F) #[] lb) es1 T ∧ UpInv (fst lt) zE es1 j ∧ es1.Perm es ∧ Fr base p 153 W wr) (fun i _ => (intOf i).toNat)
  case atStart => exact ⟨i.toNat, es, by rw [Int.toNat_of_nonneg i0], hM, hU, List.Perm.refl _, Fr.refl _ _ _ _⟩
  case round =>
    obtain ⟨j, es1, rfl, hM1, hU1, hp1, hF1⟩ := hrel
    have hl1 := hp1.length_eq
    have hj := hU1.1
    have hbs1 : base ≤ wr.heap.size := by have := hM1.lt; omega
    have HB := hB.step hF1
    have HFo := fst_ord ho
    by_cases hj0 : j = 0
    · subst hj0
      have hh := up_zero hU1
      clear HB HFo hU1
      go_wp2_with fail
      go_end0
      exact ⟨rfl, ⟨es1, hM1, hh, hp1⟩, hF1⟩
    · have j1 : (0 : Int) < (j : Int) := by omega
      have j2 : (j : Int) < (es1.length : Int) := by omega
      have j3 : (j : Int) ≤ 9223372036854775807 := by omega
      have hpn : (((j : Int) - 1) / 2).toNat = (j - 1) / 2 := by omega
      have hc1 := fun w1 h1 h2 h3 => first_int lt w1 base p F lb es1 T (j : Int) (((j : Int) - 1) / 2) (by omega) j2 (by omega) (by omega) h1 h2 h3
      have hc2 := fun w1 h1 => swap_int w1 base p (.func (.func F) #[] lb) es1 T (j : Int) (((j : Int) - 1) / 2) (by omega) j2 (by omega) (by omega) h1
      rw [hpn, Int.toNat_natCast] at hc1 hc2
      have C1 := Lib.hid hc1; clear hc1
      have C2 := Lib.hid hc2; clear hc2
      have HP := Lib.hid hpn; clear hpn
      cases hf : fst lt (gt zE es1 j) (gt zE es1 ((j - 1) / 2))
      · have hh := up_stop hU1 hf
        have H := Lib.hid hf; clear hf
        clear HFo hU1
        go_wp2_with fail
        refine (C1.out _ hbs1 hM1 HB).mono ?_; rintro e w2 ⟨rfl, hb2⟩
        rw [H.out]
        go_wp2_with fail
        refine bodyPost_ret (results_none rfl _ _ _) rfl ?_
        exact ⟨rfl, ⟨es1, hM1.below hb2, hh, hp1⟩, hF1.ofBelow hb2 hbs1⟩
      · have hh := up_step HFo hU1 (by omega) hf
        have H := Lib.hid hf; clear hf
        have hsp := swp_perm zE es1 j ((j - 1) / 2) hj (by omega)
        clear HFo hU1
        go_wp2_with fail
        refine (C1.out _ hbs1 hM1 HB).mono ?_; rintro e w2 ⟨rfl, hb2⟩
        rw [H.out]
        go_wp2_with fail
        refine (C2.out _ (hM1.below hb2)).mono ?_; rintro e w3 ⟨rfl, hM3, hF3⟩
        go_wp2_with fail
        go_roundw
        case rel => exact ⟨(j - 1) / 2, swp zE es1 j ((j - 1) / 2), by congr 1; omega, hM3, hh, hsp.trans hp1, (hF1.ofBelow hb2 hbs1).trans hF3⟩
        case measure => simp [intOf]; omega

end Go.Proofs.Ytbhpokcnkdgcmaa.HeapI

/- heap I: a thing is brought where it belongs, from above. -/
set_option linter.unusedSimpArgs false
set_option linter.unusedVariables false
namespace Go.Proofs.Ytbhpokcnkdgcmaa.HeapI
open Go.RowKit Go.Proofs.Ytbhpokcnkdgcmaa.HeapL

/-- what the loop reads of the object -/
theorem HM.cells {W : World} {base p : Nat} {bf : Value} {es : List El} {T : Nat} (h : HM W base p bf es T) : ∃ a cap, W.cell? ⟨p, 0, none⟩ = some bf ∧ W.cell? ⟨p, 1, none⟩ = some (.slice a es.length cap) ∧ W.cell? ⟨p, 2, none⟩ = some (.int .i64 (T : Int)) ∧ (∀ j, W.frozen? ⟨p, j, none⟩ = false) := by
  obtain ⟨_, v, h2, h3⟩ := h
  rcases h3.2 with ⟨rfl, h0⟩ | ⟨g, cap, cur, rfl, _⟩
  · exact ⟨none, 0, h2.cell (i := 0) rfl, by rw [h0]; exact h2.cell (i := 1) rfl, h2.cell (i := 2) rfl, fun j => h2.frozen j⟩
  · exact ⟨_, cap, h2.cell (i := 0) rfl, h2.cell (i := 1) rfl, h2.cell (i := 2) rfl, fun j => h2.frozen j⟩

theorem best_succ_out {f : El → El → Bool} {l : List El} {i : Nat} (h : l.length ≤ i) : ∀ j, best f zE l i j = i
  | 0 => rfl
  | j + 1 => by
    unfold best
    rw [if_neg (by omega)]
    exact best_succ_out h j

set_option maxRecDepth 100000 in
set_option maxHeartbeats 4000000 in
/-- from above -/
theorem down_any (lt : Int → Int → Bool) (ho : Ord lt) (W : World) (base p F : Nat) (lb : Array Value) (es : List El) (T : Nat) (i : Int) (i0 : 0 ≤ i) (i1 : i ≤ es.length) (hsm : es.length ≤ 1099511627776)
    (hM : HM W base p (.func (.func F) #[] lb) es T) (hB : BF lt base p W F lb) (hU : DownInv (fst lt) zE es i.toNat) :
    Calls Try.prog 116 #[.pointer (some ⟨p, 0, none⟩), .int .i64 i] W fun e w' => e = .returned (.tuple #[]) ∧ (∃ es', HM w' base p (.func (.func F) #[] lb) es' T ∧ Heap (fst lt) zE es' ∧ es'.Perm es) ∧ Fr base p 153 W w' := by
  go_enter Try.func116, Try.ntmps116
  go_wp2_with fail
  go_loopw [1] (fun i wr => ∃ (j : Nat) (es1 : List El), i = .int .i64 j ∧ j ≤ es.length ∧ HM wr base p (.func (.func F) #[] lb) es1 T ∧ DownInv (fst lt) zE es1 j ∧ es1.Perm es ∧ Fr base p 153 W wr) (fun i _ => es.length - (intOf i).toNat)
  case atStart => exact ⟨i.toNat, es, by rw [Int.toNat_of_nonneg i0], by omega, hM, hU, List.Perm.refl _, Fr.refl _ _ _ _⟩
  case round =>
    obtain ⟨j, es1, rfl, hj, hM1, hU1, hp1, hF1⟩ := hrel
    have hl1 := hp1.length_eq
    have hbs1 : base ≤ wr.heap.size := by have := hM1.lt; omega
    have HB := hB.step hF1
    have HFo := fst_ord ho
    have j3 : (j : Int) ≤ 1099511627776 := by omega
    have j0 : (0 : Int) ≤ (j : Int) := by omega
    obtain ⟨wo, rfl⟩ : ∃ wo : World, wo = wr := ⟨_, rfl⟩
    go_wp2_with fail
    go_loopw [4, 5] (fun b k wq => ∃ (m : Nat), m ≤ 2 ∧ k = .int .i64 (2 * (j : Int) + 1 + m) ∧ b = .int .i64 (best (fst lt) zE es1 j m : Nat) ∧ Below wo.heap.size wo wq) (fun _ k _ => (2 * (j : Int) + 3 - intOf k).toNat)
    case atStart => exact ⟨0, by omega, by simp, rfl, Below.refl _ _⟩
    case round =>
      obtain ⟨m, hm, rfl, rfl, hb2⟩ := hrel
      have hbs2 : base ≤ wr.heap.size := Nat.le_trans hbs1 hb2.size
      have hM2 := hM1.below hb2
      have HB2 := HB.step (Fr.ofB hb2 hbs1)
      obtain ⟨sa, cap, c0, c1, c2, cf⟩ := hM2.cells
      by_cases hin : m < 2 ∧ 2 * j + 1 + m < es1.length
      · obtain ⟨hm2, hkl⟩ := hin
        have hjl : j < es1.length := by omega
        have hbl := best_lt (f := fst lt) (z := zE) hjl m
        have hbs : best (fst lt) zE es1 j (m + 1) = if 2 * j + 1 + m < es1.length ∧ fst lt (gt zE es1 (2 * j + 1 + m)) (gt zE es1 (best (fst lt) zE es1 j m)) = true then 2 * j + 1 + m else best (fst lt) zE es1 j m := rfl
        have t1 : 2 * (j : Int) + 1 + (m : Int) ≤ 2 * (j : Int) + 2 := by omega
        have t2 : 2 * (j : Int) + 1 + (m : Int) < (es1.length : Int) := by omega
        have hkn : (2 * (j : Int) + 1 + (m : Int)).toNat = 2 * j + 1 + m := by omega
        generalize best (fst lt) zE es1 j m = b at *
        have hc1 := fun w1 h1 h2 h3 => first_int lt w1 base p F lb es1 T (2 * (j : Int) + 1 + (m : Int)) (b : Int) (by omega) t2 (by omega) (by omega) h1 h2 h3
        rw [hkn, Int.toNat_natCast] at hc1
        have C1 := Lib.hid hc1; clear hc1
        cases hf : fst lt (gt zE es1 (2 * j + 1 + m)) (gt zE es1 b)
        · rw [hf, if_neg (by simp)] at hbs
          have H := Lib.hid hf; clear hf
          have HBs := Lib.hid hbs; clear hbs
          have HK := Lib.hid hkn; clear hkn
          clear HFo hU1
          go_wp2_with fail
          refine (C1.out _ hbs2 hM2 HB2).mono ?_; rintro e w3 ⟨rfl, hb3⟩
          rw [H.out]
          go_wp2_with fail
          go_roundw
          case rel => exact ⟨m + 1, by omega, congrArg (Value.int .i64) (by omega), by rw [HBs.out], hb2.trans (hb3.mono hb2.size)⟩
          case measure => simp [intOf]; omega
        · rw [hf, if_pos ⟨hkl, rfl⟩] at hbs
          have H := Lib.hid hf; clear hf
          have HBs := Lib.hid hbs; clear hbs
          have HK := Lib.hid hkn; clear hkn
          clear HFo hU1
          go_wp2_with fail
          refine (C1.out _ hbs2 hM2 HB2).mono ?_; rintro e w3 ⟨rfl, hb3⟩
          rw [H.out]
          go_wp2_with fail
          go_roundw
          case rel => exact ⟨m + 1, by omega, congrArg (Value.int .i64) (by omega), by rw [HBs.out]; exact congrArg (Value.int .i64) (by omega), hb2.trans (hb3.mono hb2.size)⟩
          case measure => simp [intOf]; omega
      · have hbe : best (fst lt) zE es1 j m = best (fst lt) zE es1 j 2 := by
          by_cases h2 : m = 2
          · rw [h2]
          · have := best_out (f := fst lt) (z := zE) (l := es1) (i := j) (j := m) (by omega) (2 - m)
            rw [show m + (2 - m) = 2 from by omega] at this
            exact this.symm
        rw [hbe]
        clear hbe
        have hcase : (2 * (j : Int) + 2 < 2 * (j : Int) + 1 + (m : Int)) ∨ (2 * (j : Int) + 1 + (m : Int) ≤ 2 * (j : Int) + 2 ∧ (es1.length : Int) ≤ 2 * (j : Int) + 1 + (m : Int)) := by omega
        by_cases hstop : best (fst lt) zE es1 j 2 = j
        · have hh := down_stop HFo hU1 hstop
          rw [hstop]
          clear HFo hU1 hstop hin
          rcases hcase with h1 | ⟨h1, h2⟩
          all_goals
            go_wp2_with fail
            refine bodyPost_ret (results_none rfl _ _ _) rfl ?_
            exact ⟨rfl, ⟨es1, hM2, hh, hp1⟩, hF1.ofBelow hb2 hbs1⟩
        · have hjl : j < es1.length := by
            rcases Nat.lt_or_ge j es1.length with h | h
            · exact h
            · exact absurd (best_succ_out h 2) hstop
          have hbl := best_lt (f := fst lt) (z := zE) hjl 2
          have hgt : j < best (fst lt) zE es1 j 2 := by
            rcases best_cases (f := fst lt) (z := zE) (l := es1) (i := j) 2 with h | ⟨q, _, h⟩
            · exact absurd h hstop
            · omega
          have hh := down_step HFo hjl hU1 hstop
          have hsp := swp_perm zE es1 j (best (fst lt) zE es1 j 2) hjl hbl
          generalize best (fst lt) zE es1 j 2 = b at *
          have hne : ((b : Int) == (j : Int)) = false := by simp; omega
          have hc2 := fun w1 h1 => swap_int w1 base p (.func (.func F) #[] lb) es1 T (j : Int) (b : Int) (by omega) (by omega) (by omega) (by omega) h1
          rw [Int.toNat_natCast, Int.toNat_natCast] at hc2
          have C2 := Lib.hid hc2; clear hc2
          clear HFo hU1 hstop hin
          rcases hcase with h1 | ⟨h1, h2⟩
          all_goals
            go_wp2_with fail
            refine (C2.out _ hM2).mono ?_; rintro e w3 ⟨rfl, hM3, hF3⟩
            go_wp2_with fail
            go_roundw
            case rel => exact ⟨b, swp zE es1 j b, rfl, by omega, hM3, hh, hsp.trans hp1, (hF1.ofBelow hb2 hbs1).trans hF3⟩
            case measure => simp [intOf]; omega

end Go.Proofs.Ytbhpokcnkdgcmaa.HeapI
