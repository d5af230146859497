/- hold: a step of both purses. -/
import Derived.Test.YtmdacfgofilbdaaHoldY
import Derived.Test.YtmdacfgofilbdaaLedQ
import Derived.Deep.RegionHeld3
set_option linter.unusedSimpArgs false
set_option linter.unusedVariables false
namespace Go.Proofs.Ytmdacfgofilbdaa.Led
open Go.RowKit Go.Proofs.Ytmdacfgofilbdaa.TabL Go.Proofs.YtmdacfgofilbdaaW.PrintWords Go.Proofs.Ytmdacfgofilbdaa.PHoldPlays
open Go.Proofs.Ytmdacfgofilbdaa.TabB (ltI lin getV TMg)
attribute [local go_sem] Oper.semAt_some

/-- behind a write of a block that holds a pointer -/
theorem PM.turn {W W' : World} {v : Value} {l : List Mv} {b : Nat} {t : TypeId} {q : Option Addr} (h : PM W v l) (hb : Blk W b t [.pointer q]) (hg : W.grownBy W' (some b)) : PM W' v l := by
  cases l with
  | nil =>
    obtain ⟨A, c, rfl, h1, h2⟩ := h
    exact ⟨A, c, rfl, h1, h2.1, h2.2.1, fun hpos => absurd hpos (by simp)⟩
  | cons m l =>
    obtain ⟨b', off, c', e, hc, -, -⟩ := h.at (j := 0) rfl
    refine h.other (fun hk => ?_) hg
    rw [e] at hk
    obtain rfl : b' = b := by simpa [Value.ownBlock] using hk
    have hc' : [Value.pointer q][off + 0 * 3]? = some (.int .i64 m.1) := by
      have := cell_of_row W b' (off + 0 * 3) [Value.pointer q].toArray t (0, 0) hb
      rw [this] at hc
      simpa using hc
    have hlt := (List.getElem?_eq_some_iff.1 hc').1
    have h0 : off + 0 * 3 = 0 := by simp at hlt; omega
    rw [h0] at hc'
    simp at hc'
theorem Rel.bnd {xs : Bs} {ms : List Mv} (h : Rel xs ms) : Bnd xs := fun a => by rw [h.get a]; exact h.good.bnd a
theorem Rel.fn {xs : Bs} {ms : List Mv} (h : Rel xs ms) : getV xs = bal ms := funext h.get
theorem Rel.set {xs : Bs} {ms : List Mv} (h : Rel xs ms) (who n : Int) : setE xs who n = rsetE ms who n ∧ Rel (setB xs who n) (rsetL ms who n) := by
  have e : setM xs who n = setMb (bal ms) who n := by rw [← h.fn]; rfl
  unfold setE rsetE setB rsetL
  rw [e, h.fn]
  by_cases hc : partyA who = false ∨ rightM n = false
  · simp only [if_pos hc]; exact ⟨trivial, h⟩
  · simp only [if_neg hc]; exact ⟨trivial, h.step _⟩
theorem Rel.ref {xs : Bs} {ms : List Mv} (h : Rel xs ms) (who : Int) : refM xs who = refMb ms who := by unfold refM refMb; rw [h.fn]
theorem setB_len (xs : Bs) (who n : Int) : (setB xs who n).length ≤ xs.length + 2 := by
  unfold setB
  split
  · omega
  · exact moveL_len _ _
theorem rsetL_len (ms : List Mv) (who n : Int) : (rsetL ms who n).length ≤ ms.length + 1 := by
  unfold rsetL
  split
  · omega
  · exact tryL_len _ _
theorem movesL_len : ∀ (l : List Mv) (xs : Bs), (movesL xs l).2.length ≤ xs.length + 2 * l.length
  | [], xs => Nat.le_refl _
  | m :: r, xs => by
    unfold movesL
    split
    · have h1 := movesL_len r (moveL xs m)
      have h2 := moveL_len xs m
      simp only [List.length_cons]
      omega
    · simp
theorem allL_len (xs : Bs) (l : List Mv) : (allL xs l).length ≤ xs.length + 2 * l.length := by
  have := movesL_len l xs
  unfold allL
  split <;> omega
/-- nothing more is held than an amount may be -/
def HeldO (xs : Bs) : Prop := ∀ who, partyA who = true → getV xs (2 * who + 1) ≤ 1099511627776
theorem getV_moveL {xs : Bs} {m : Mv} (h : moveE (getV xs) m = 0) (a : Int) : getV (moveL xs m) a = if a = m.2.1 then getV xs m.2.1 + m.2.2 else if a = m.1 then getV xs m.1 - m.2.2 else getV xs a := by
  obtain ⟨_, _, hne, _⟩ := moveE_zero h
  unfold moveL
  rw [if_pos h, getV_setL, getV_setL]
theorem moveL_no {xs : Bs} {m : Mv} (h : moveE (getV xs) m ≠ 0) : moveL xs m = xs := by unfold moveL; rw [if_neg h]
theorem HeldO.nil : HeldO [] := fun who _ => by unfold getV getL; simp
theorem HeldO.move {xs : Bs} (h : HeldO xs) {m : Mv} (ht : ∀ who, partyA who = true → m.2.1 ≠ 2 * who + 1) : HeldO (moveL xs m) := by
  by_cases h0 : moveE (getV xs) m = 0
  · obtain ⟨_, _, hne, hr, _⟩ := moveE_zero h0
    unfold rightM at hr
    simp only [Bool.and_eq_true, decide_eq_true_eq] at hr
    intro who hp
    have h1 := h who hp
    rw [getV_moveL h0, if_neg (Ne.symm (ht who hp))]
    by_cases e : 2 * who + 1 = m.1
    · rw [if_pos e, ← e]; omega
    · rw [if_neg e]; exact h1
  · rw [moveL_no h0]; exact h
theorem free_ne {p : Int} : ∀ who, partyA who = true → freeA p ≠ 2 * who + 1 := fun who hp => by
  have := party_bnd hp
  unfold freeA
  split
  · have := party_bnd ‹_›; omega
  · omega
theorem HeldO.set {xs : Bs} (h : HeldO xs) (p n : Int) : HeldO (setB xs p n) := by
  unfold setB
  by_cases hc : partyA p = false ∨ rightM n = false
  · rw [if_pos hc]; exact h
  · rw [if_neg hc]
    simp only [not_or, Bool.not_eq_false] at hc
    obtain ⟨hp, hr⟩ := hc
    unfold rightM at hr
    simp only [Bool.and_eq_true, decide_eq_true_eq] at hr
    have ef : freeA p = 2 * p := by unfold freeA; rw [hp]; rfl
    have eh : holdA p = 2 * p + 1 := by unfold holdA; rw [hp]; rfl
    unfold setM
    rw [ef, eh]
    split
    · by_cases h0 : moveE (getV xs) (2 * p, 2 * p + 1, n - getV xs (2 * p + 1)) = 0
      · intro who hw
        rw [getV_moveL h0]
        dsimp only
        by_cases e : 2 * who + 1 = 2 * p + 1
        · rw [if_pos e]; omega
        · rw [if_neg e, if_neg (by omega)]; exact h who hw
      · rw [moveL_no h0]; exact h
    · exact h.move (fun who hw => by dsimp only; omega)
theorem HeldO.moves : ∀ (l : List Mv) {xs : Bs}, HeldO xs → (∀ m ∈ l, m.2.1 = 1) → HeldO (movesL xs l).2
  | [], xs, h, _ => h
  | m :: r, xs, h, ht => by
    unfold movesL
    split
    · exact HeldO.moves r (h.move (fun who hp => by have := party_bnd hp; have := ht m (List.mem_cons_self ..); omega)) (fun m' hm => ht m' (List.mem_cons_of_mem _ hm))
    · exact h
theorem HeldO.all {xs : Bs} (h : HeldO xs) (bills : List (Int × Int)) : HeldO (allL xs (bms bills)) := by
  unfold allL
  split
  · exact HeldO.moves _ h (fun m hm => by
      unfold bms at hm
      obtain ⟨b, _, rfl⟩ := List.mem_map.1 hm
      rfl)
  · exact h
/-- what all steps keep of balances -/
def HeldOk (xs : Bs) : Prop := HeldO xs ∧ Clean xs
theorem HeldOk.nil : HeldOk [] := ⟨HeldO.nil, Clean.nil⟩
theorem HeldOk.move {xs : Bs} (h : HeldOk xs) {m : Mv} (ht : ∀ who, partyA who = true → m.2.1 ≠ 2 * who + 1) : HeldOk (moveL xs m) := ⟨h.1.move ht, h.2.move m⟩
theorem HeldOk.set {xs : Bs} (h : HeldOk xs) (p n : Int) : HeldOk (setB xs p n) := ⟨h.1.set p n, by
  unfold setB
  split
  · exact h.2
  · exact h.2.move _⟩
theorem Clean.moves : ∀ (l : List Mv) {xs : Bs}, Clean xs → Clean (movesL xs l).2
  | [], xs, h => h
  | m :: r, xs, h => by
    unfold movesL
    split
    · exact Clean.moves r (h.move m)
    · exact h
theorem Clean.all {xs : Bs} (h : Clean xs) (l : List Mv) : Clean (allL xs l) := by
  unfold allL
  split
  · exact Clean.moves l h
  · exact h
theorem HeldOk.all {xs : Bs} (h : HeldOk xs) (bills : List (Int × Int)) : HeldOk (allL xs (bms bills)) := ⟨h.1.all bills, h.2.all _⟩
/-- what a step leaves of both -/
structure DoPost (W : World) (p : Nat) (tt : TypeId) (xs : Bs) (ms : List Mv) (xs' : Bs) (ms' : List Mv) (v' : Value) (w' : World) : Prop where
  tm : TMg tt w' p xs'
  pm : PM w' v' ms'
  rel : Rel xs' ms'
  hok : HeldOk xs → HeldOk xs'
  lx : xs'.length ≤ xs.length + 16
  lm : ms'.length ≤ ms.length + 8
  grown : W.grownBy w' (some p)
/-- the ground that a step stands on behind its entry -/
structure DoBase (W : World) (n : Nat) (v : Value) (kind party am : Int) (b : Value) (w : World) : Prop where
  b4 : Blk w n 35 [v]
  b5 : Blk w (n + 1) 38 [.int .i64 kind, .int .i64 party, .int .i64 am, b]
  b6 : Blk w (n + 1 + 1) 35 [.slice none 0 0]
  b10 : Blk w (n + 1 + 1 + 1) 35 [v]
theorem DoBase.kept {W w w' : World} {n : Nat} {v b : Value} {kind party am : Int} {r : Option Nat} (h : DoBase W n v kind party am b w) (hg : w.grownBy w' r) (hr : ∀ p, r = some p → p < n) : DoBase W n v kind party am b w' :=
  ⟨h.b4.kept hg (fun e => by have := hr _ e.symm; omega), h.b5.kept hg (fun e => by have := hr _ e.symm; omega), h.b6.kept hg (fun e => by have := hr _ e.symm; omega), h.b10.kept hg (fun e => by have := hr _ e.symm; omega)⟩
theorem do_base (W : World) (ms : List Mv) (Av A : Option Addr) (cv c m : Nat) (kind party am : Int) : DoBase W W.heap.size (.slice Av ms.length cv) kind party am (.slice A m c) ((((W.alloc (.cells #[.slice Av ms.length cv] 35)).alloc (.cells #[.int .i64 kind, .int .i64 party, .int .i64 am, .slice A m c] 38)).alloc (.cells #[.slice none 0 0] 35)).alloc (.cells #[.slice Av ms.length cv] 35)) ∧ Below W.heap.size W ((((W.alloc (.cells #[.slice Av ms.length cv] 35)).alloc (.cells #[.int .i64 kind, .int .i64 party, .int .i64 am, .slice A m c] 38)).alloc (.cells #[.slice none 0 0] 35)).alloc (.cells #[.slice Av ms.length cv] 35)) := by
  obtain ⟨w1, h1⟩ : ∃ w1, W.alloc (.cells #[.slice Av ms.length cv] 35) = w1 := ⟨_, rfl⟩
  have z1 : w1.heap.size = W.heap.size + 1 := by rw [← h1]; simp
  have b1 : Blk w1 W.heap.size 35 [.slice Av ms.length cv] := by rw [← h1]; exact Blk.new W _ _
  have g1 : Below W.heap.size W w1 := by rw [← h1]; exact (Below.refl _ W).alloc (Nat.le_refl _) _
  rw [h1]
  obtain ⟨w2, h2⟩ : ∃ w2, w1.alloc (.cells #[.int .i64 kind, .int .i64 party, .int .i64 am, .slice A m c] 38) = w2 := ⟨_, rfl⟩
  have z2 : w2.heap.size = W.heap.size + 1 + 1 := by rw [← h2]; simp [z1]
  have b2 : Blk w2 (W.heap.size + 1) 38 [.int .i64 kind, .int .i64 party, .int .i64 am, .slice A m c] := by rw [← h2, ← z1]; exact Blk.new w1 _ _
  have b12 : Blk w2 W.heap.size 35 [.slice Av ms.length cv] := by rw [← h2]; exact b1.alloc _
  have g2 : Below W.heap.size W w2 := by rw [← h2]; exact g1.alloc (by omega) _
  rw [h2]
  obtain ⟨w3, h3⟩ : ∃ w3, w2.alloc (.cells #[.slice none 0 0] 35) = w3 := ⟨_, rfl⟩
  have z3 : w3.heap.size = W.heap.size + 1 + 1 + 1 := by rw [← h3]; simp [z2]
  have b3 : Blk w3 (W.heap.size + 1 + 1) 35 [.slice none 0 0] := by rw [← h3, ← z2]; exact Blk.new w2 _ _
  have b23 : Blk w3 (W.heap.size + 1) 38 [.int .i64 kind, .int .i64 party, .int .i64 am, .slice A m c] := by rw [← h3]; exact b2.alloc _
  have b13 : Blk w3 W.heap.size 35 [.slice Av ms.length cv] := by rw [← h3]; exact b12.alloc _
  have g3 : Below W.heap.size W w3 := by rw [← h3]; exact g2.alloc (by omega) _
  rw [h3]
  exact ⟨⟨b13.alloc _, b23.alloc _, b3.alloc _, by rw [← z3]; exact Blk.new w3 _ _⟩, g3.alloc (by omega) _⟩
/-- the end of a step: the new purse is put into its variable, then into the result -/
theorem do_end {W w : World} {n p : Nat} {v b v' : Value} {kind party am : Int} {tt : TypeId} {xs xs' : Bs} {ms ms' : List Mv} (h : DoBase W n v kind party am b w) (hn : W.heap.size ≤ n) (hv : ∃ A m c, v = .slice A m c) (hT : TMg tt w p xs') (hp : p < n) (hP : PM w v' ms') (hR : Rel xs' ms') (hH : HeldOk xs → HeldOk xs') (hx : xs'.length ≤ xs.length + 16) (hm : ms'.length ≤ ms.length + 8) (hg : W.grownBy w (some p)) :
    Blk ((w.setCell ⟨n + 1 + 1 + 1, 0, none⟩ v').setCell ⟨n + 1 + 1, 0, none⟩ v') (n + 1 + 1) 35 [v'] ∧ DoPost W p tt xs ms xs' ms' v' ((w.setCell ⟨n + 1 + 1 + 1, 0, none⟩ v').setCell ⟨n + 1 + 1, 0, none⟩ v') := by
  obtain ⟨A, m, c, rfl⟩ := hv
  have g1 : w.grownBy (w.setCell ⟨n + 1 + 1 + 1, 0, none⟩ v') (some (n + 1 + 1 + 1)) := grownBy_setAt w _ 0 _
  have hP1 := hP.put h.b10 v'
  have b6 := h.b6.other (p := ⟨n + 1 + 1 + 1, 0, none⟩) (by simp) v'
  have hT1 := hT.other g1 h.b10 (by omega) (by decide)
  have g2 : (w.setCell ⟨n + 1 + 1 + 1, 0, none⟩ v').grownBy ((w.setCell ⟨n + 1 + 1 + 1, 0, none⟩ v').setCell ⟨n + 1 + 1, 0, none⟩ v') (some (n + 1 + 1)) := grownBy_setAt _ _ 0 _
  have hG : W.grownBy ((w.setCell ⟨n + 1 + 1 + 1, 0, none⟩ v').setCell ⟨n + 1 + 1, 0, none⟩ v') (some p) :=
    ⟨g2.os.trans (g1.os.trans hg.os), g2.tape.trans (g1.tape.trans hg.tape), g2.output.trans (g1.output.trans hg.output), Nat.le_trans hg.size (Nat.le_trans g1.size g2.size), fun k hk hne => by
      have e1 := hg.block k hk hne
      have hkz := hg.size
      rw [g2.block k (Nat.lt_of_lt_of_le (Nat.lt_of_lt_of_le hk hkz) g1.size) (by simp; omega), g1.block k (Nat.lt_of_lt_of_le hk hkz) (by simp; omega)]
      exact e1⟩
  exact ⟨b6.set 0 v', hT1.other g2 b6 (by omega) (by decide), hP1.put b6 v', hR, hH, hx, hm, hG⟩

def DoOk (W : World) (p : Nat) (tt : TypeId) (xs : Bs) (ms : List Mv) (e : Ending) (w' : World) : Prop := ∃ v' xs' ms', e = .returned (.tuple #[.agg #[v'], .bool true]) ∧ DoPost W p tt xs ms xs' ms' v' w'
theorem gb_trans {A B C : World} {p : Nat} (h : A.grownBy B (some p)) (k : B.grownBy C (some p)) : A.grownBy C (some p) :=
  ⟨k.os.trans h.os, k.tape.trans h.tape, k.output.trans h.output, Nat.le_trans h.size k.size, fun j hj hne => (k.block j (Nat.lt_of_lt_of_le hj h.size) hne).trans (h.block j hj hne)⟩
set_option maxHeartbeats 8000000 in
set_option maxRecDepth 100000 in
theorem do0_any (W : World) (p : Nat) (xs : Bs) (ms : List Mv) (v : Value) (party am : Int) (A : Option Addr) (c : Nat) (bills : List (Int × Int)) {tt : TypeId} (htt : tt ≠ tN) (h : TMg tt W p xs) (hP : PM W v ms) (hR : Rel xs ms) (hlx : xs.length ≤ 100000) (hlm : ms.length ≤ 100000) :
    Calls Try.prog 13 #[.pointer (some ⟨p, 0, none⟩), .agg #[v], .agg #[.int .i64 0, .int .i64 party, .int .i64 am, .slice A bills.length c]] W (DoOk W p tt xs ms) := by
  obtain ⟨Av, cv, rfl, hlv, -⟩ := id hP
  have hp0 := h.lt
  obtain ⟨hD, hB⟩ := do_base W ms Av A cv c bills.length 0 party am
  have hT := h.below hB
  have hQ := hP.below hB
  have hg0 : W.grownBy ((((W.alloc (.cells #[.slice Av ms.length cv] 35)).alloc (.cells #[.int .i64 0, .int .i64 party, .int .i64 am, .slice A bills.length c] 38)).alloc (.cells #[.slice none 0 0] 35)).alloc (.cells #[.slice Av ms.length cv] 35)) (some p) := below_gb hB
  obtain ⟨w0, hw0⟩ : ∃ w0, ((((W.alloc (.cells #[.slice Av ms.length cv] 35)).alloc (.cells #[.int .i64 0, .int .i64 party, .int .i64 am, .slice A bills.length c] 38)).alloc (.cells #[.slice none 0 0] 35)).alloc (.cells #[.slice Av ms.length cv] 35)) = w0 := ⟨_, rfl⟩
  have hzz : W.heap.size < w0.heap.size := by rw [← hw0]; simp; omega
  have CP := fun (w : World) (hT : TMg tt w p xs) => deposit_any w p xs party am htt hT hR.sd (by omega) hR.bnd
  have CR := fun (w : World) (hQ : PM w (.slice Av ms.length cv) ms) => rdep_any w (.slice Av ms.length cv) ms party am hQ hR.good (by omega)
  obtain ⟨E, hE⟩ : ∃ E, moveE (bal ms) (0, freeA party, am) = E := ⟨_, rfl⟩
  rw [hR.fn, hE] at CP
  rw [hE] at CR
  have hRel : Rel (moveL xs (0, freeA party, am)) (tryL ms (0, freeA party, am)) := hR.step _
  have hHk : HeldOk xs → HeldOk (moveL xs (0, freeA party, am)) := fun h => h.move (fun who hp => free_ne who hp)
  have hxl : ((moveL xs (0, freeA party, am))).length ≤ xs.length + 16 := by have := moveL_len xs (0, freeA party, am); omega
  have hml : ((tryL ms (0, freeA party, am))).length ≤ ms.length + 8 := by have := tryL_len ms (0, freeA party, am); omega
  obtain ⟨xs', hxs'⟩ : ∃ xs', (moveL xs (0, freeA party, am)) = xs' := ⟨_, rfl⟩
  obtain ⟨ms', hms'⟩ : ∃ ms', (tryL ms (0, freeA party, am)) = ms' := ⟨_, rfl⟩
  rw [hxs'] at CP hRel hxl hHk
  rw [hms'] at CR hRel hml
  have HCP := Lib.hid CP; have HCR := Lib.hid CR; have HX := Lib.hid (And.intro hRel (And.intro hxl (And.intro hml hHk)))
  rw [hw0] at hT hQ hD hg0
  have HT := Lib.hid hT; have HQ := Lib.hid hQ; have HD := Lib.hid hD; have HG0 := Lib.hid hg0; have HB := Lib.hid hB
  have c50 := hD.b5.cell (i := 0) rfl
  have c51 := hD.b5.cell (i := 1) rfl
  have c52 := hD.b5.cell (i := 2) rfl
  have c4 := hD.b4.cell (i := 0) rfl
  have hW0 := Lib.hid hw0
  clear CP CR hHk hRel hxl hml hxs' hms' hE hT hQ hD hg0 h hP hB hw0 c50 c51 c52 c4
  go_enter Try.func13, Try.ntmps13
  go_wp2_with fail
  rw [hW0.out]
  refine (HCP.out w0 HT.out).mono ?_; rintro e w1 ⟨rfl, hT1, hg1⟩
  have hD1 := HD.out.kept hg1 (fun q e => by cases e; omega)
  obtain ⟨q1, T1, bp1, hq1⟩ := id HT.out
  have hQ1 := HQ.out.turn bp1 hg1
  have hG1 := gb_trans HG0.out hg1
  have d51 := hD1.b5.cell (i := 1) rfl
  have d52 := hD1.b5.cell (i := 2) rfl
  have d4 := hD1.b4.cell (i := 0) rfl
  have HT1 := Lib.hid hT1; have HD1 := Lib.hid hD1; have HG1 := Lib.hid hG1; have HC := Lib.hid (HCR.out w1 hQ1)
  clear hT1 hD1 hG1 hQ1 bp1 hq1 hg1
  go_wp2_with fail
  refine HC.out.mono ?_; rintro e w2 ⟨v', rfl, hP2, hb2⟩
  have hD2 := HD1.out.kept (W := W) (show w1.grownBy w2 none from ⟨hb2.os, hb2.tape, hb2.output, hb2.size, fun j hj _ => hb2.block j hj⟩) (fun q e => by cases e)
  have hT2 := HT1.out.below hb2
  have hG2 := gb_trans HG1.out (below_gb (p := p) hb2)
  have FIN := do_end (tt := tt) (xs := xs) (ms := ms) hD2 (Nat.le_refl _) ⟨_, _, _, rfl⟩ hT2 hp0 hP2 HX.out.1 HX.out.2.2.2 HX.out.2.1 HX.out.2.2.1 hG2
  have HF := Lib.hid FIN
  have k10 := hD2.b10.cell (i := 0) rfl
  have k10f := hD2.b10.frozen 0
  have k6 := hD2.b6.cell (i := 0) rfl
  have k6f := hD2.b6.frozen 0
  have n1 := Nat.ne_of_gt (Nat.lt_succ_self (W.heap.size + 1 + 1))
  obtain ⟨A', c', rfl, -⟩ := hP2
  clear hD2 hT2 hG2 FIN hb2 d51 d52 d4 HC
  go_wp2_with fail
  refine bodyPost_ret (results_ct rfl _ _ (W.heap.size + 1 + 1) 35 _ (0, 0) _ rfl HF.out.1 Try.underlying35 rfl (by kernel_rfl)) rfl ?_
  exact ⟨_, _, _, rfl, HF.out.2⟩
set_option maxHeartbeats 8000000 in
set_option maxRecDepth 100000 in
theorem do1_any (W : World) (p : Nat) (xs : Bs) (ms : List Mv) (v : Value) (party am : Int) (A : Option Addr) (c : Nat) (bills : List (Int × Int)) {tt : TypeId} (htt : tt ≠ tN) (h : TMg tt W p xs) (hP : PM W v ms) (hR : Rel xs ms) (hlx : xs.length ≤ 100000) (hlm : ms.length ≤ 100000) :
    Calls Try.prog 13 #[.pointer (some ⟨p, 0, none⟩), .agg #[v], .agg #[.int .i64 1, .int .i64 party, .int .i64 am, .slice A bills.length c]] W (DoOk W p tt xs ms) := by
  obtain ⟨Av, cv, rfl, hlv, -⟩ := id hP
  have hp0 := h.lt
  obtain ⟨hD, hB⟩ := do_base W ms Av A cv c bills.length 1 party am
  have hT := h.below hB
  have hQ := hP.below hB
  have hg0 : W.grownBy ((((W.alloc (.cells #[.slice Av ms.length cv] 35)).alloc (.cells #[.int .i64 1, .int .i64 party, .int .i64 am, .slice A bills.length c] 38)).alloc (.cells #[.slice none 0 0] 35)).alloc (.cells #[.slice Av ms.length cv] 35)) (some p) := below_gb hB
  obtain ⟨w0, hw0⟩ : ∃ w0, ((((W.alloc (.cells #[.slice Av ms.length cv] 35)).alloc (.cells #[.int .i64 1, .int .i64 party, .int .i64 am, .slice A bills.length c] 38)).alloc (.cells #[.slice none 0 0] 35)).alloc (.cells #[.slice Av ms.length cv] 35)) = w0 := ⟨_, rfl⟩
  have hzz : W.heap.size < w0.heap.size := by rw [← hw0]; simp; omega
  have CP := fun (w : World) (hT : TMg tt w p xs) => deposit_any w p xs party am htt hT hR.sd (by omega) hR.bnd
  have CR := fun (w : World) (hQ : PM w (.slice Av ms.length cv) ms) => rdep_any w (.slice Av ms.length cv) ms party am hQ hR.good (by omega)
  obtain ⟨E, hE⟩ : ∃ E, moveE (bal ms) (0, freeA party, am) = E := ⟨_, rfl⟩
  rw [hR.fn, hE] at CP
  rw [hE] at CR
  have hRel : Rel (moveL xs (0, freeA party, am)) (tryL ms (0, freeA party, am)) := hR.step _
  have hHk : HeldOk xs → HeldOk (moveL xs (0, freeA party, am)) := fun h => h.move (fun who hp => free_ne who hp)
  have hxl : ((moveL xs (0, freeA party, am))).length ≤ xs.length + 16 := by have := moveL_len xs (0, freeA party, am); omega
  have hml : ((tryL ms (0, freeA party, am))).length ≤ ms.length + 8 := by have := tryL_len ms (0, freeA party, am); omega
  obtain ⟨xs', hxs'⟩ : ∃ xs', (moveL xs (0, freeA party, am)) = xs' := ⟨_, rfl⟩
  obtain ⟨ms', hms'⟩ : ∃ ms', (tryL ms (0, freeA party, am)) = ms' := ⟨_, rfl⟩
  rw [hxs'] at CP hRel hxl hHk
  rw [hms'] at CR hRel hml
  have HCP := Lib.hid CP; have HCR := Lib.hid CR; have HX := Lib.hid (And.intro hRel (And.intro hxl (And.intro hml hHk)))
  rw [hw0] at hT hQ hD hg0
  have HT := Lib.hid hT; have HQ := Lib.hid hQ; have HD := Lib.hid hD; have HG0 := Lib.hid hg0; have HB := Lib.hid hB
  have c50 := hD.b5.cell (i := 0) rfl
  have c51 := hD.b5.cell (i := 1) rfl
  have c52 := hD.b5.cell (i := 2) rfl
  have c4 := hD.b4.cell (i := 0) rfl
  have hW0 := Lib.hid hw0
  clear CP CR hHk hRel hxl hml hxs' hms' hE hT hQ hD hg0 h hP hB hw0 c50 c51 c52 c4
  go_enter Try.func13, Try.ntmps13
  go_wp2_with fail
  rw [hW0.out]
  refine (HCP.out w0 HT.out).mono ?_; rintro e w1 ⟨rfl, hT1, hg1⟩
  have hD1 := HD.out.kept hg1 (fun q e => by cases e; omega)
  obtain ⟨q1, T1, bp1, hq1⟩ := id HT.out
  have hQ1 := HQ.out.turn bp1 hg1
  have hG1 := gb_trans HG0.out hg1
  have d51 := hD1.b5.cell (i := 1) rfl
  have d52 := hD1.b5.cell (i := 2) rfl
  have d4 := hD1.b4.cell (i := 0) rfl
  have HT1 := Lib.hid hT1; have HD1 := Lib.hid hD1; have HG1 := Lib.hid hG1; have HC := Lib.hid (HCR.out w1 hQ1)
  clear hT1 hD1 hG1 hQ1 bp1 hq1 hg1
  go_wp2_with fail
  refine HC.out.mono ?_; rintro e w2 ⟨v', rfl, hP2, hb2⟩
  have hD2 := HD1.out.kept (W := W) (show w1.grownBy w2 none from ⟨hb2.os, hb2.tape, hb2.output, hb2.size, fun j hj _ => hb2.block j hj⟩) (fun q e => by cases e)
  have hT2 := HT1.out.below hb2
  have hG2 := gb_trans HG1.out (below_gb (p := p) hb2)
  have FIN := do_end (tt := tt) (xs := xs) (ms := ms) hD2 (Nat.le_refl _) ⟨_, _, _, rfl⟩ hT2 hp0 hP2 HX.out.1 HX.out.2.2.2 HX.out.2.1 HX.out.2.2.1 hG2
  have HF := Lib.hid FIN
  have k10 := hD2.b10.cell (i := 0) rfl
  have k10f := hD2.b10.frozen 0
  have k6 := hD2.b6.cell (i := 0) rfl
  have k6f := hD2.b6.frozen 0
  have n1 := Nat.ne_of_gt (Nat.lt_succ_self (W.heap.size + 1 + 1))
  obtain ⟨A', c', rfl, -⟩ := hP2
  clear hD2 hT2 hG2 FIN hb2 d51 d52 d4 HC
  go_wp2_with fail
  refine bodyPost_ret (results_ct rfl _ _ (W.heap.size + 1 + 1) 35 _ (0, 0) _ rfl HF.out.1 Try.underlying35 rfl (by kernel_rfl)) rfl ?_
  exact ⟨_, _, _, rfl, HF.out.2⟩
set_option maxHeartbeats 8000000 in
set_option maxRecDepth 100000 in
theorem do2_any (W : World) (p : Nat) (xs : Bs) (ms : List Mv) (v : Value) (party am : Int) (A : Option Addr) (c : Nat) (bills : List (Int × Int)) {tt : TypeId} (htt : tt ≠ tN) (h : TMg tt W p xs) (hP : PM W v ms) (hR : Rel xs ms) (hlx : xs.length ≤ 100000) (hlm : ms.length ≤ 100000) :
    Calls Try.prog 13 #[.pointer (some ⟨p, 0, none⟩), .agg #[v], .agg #[.int .i64 2, .int .i64 party, .int .i64 am, .slice A bills.length c]] W (DoOk W p tt xs ms) := by
  obtain ⟨Av, cv, rfl, hlv, -⟩ := id hP
  have hp0 := h.lt
  obtain ⟨hD, hB⟩ := do_base W ms Av A cv c bills.length 2 party am
  have hT := h.below hB
  have hQ := hP.below hB
  have hg0 : W.grownBy ((((W.alloc (.cells #[.slice Av ms.length cv] 35)).alloc (.cells #[.int .i64 2, .int .i64 party, .int .i64 am, .slice A bills.length c] 38)).alloc (.cells #[.slice none 0 0] 35)).alloc (.cells #[.slice Av ms.length cv] 35)) (some p) := below_gb hB
  obtain ⟨w0, hw0⟩ : ∃ w0, ((((W.alloc (.cells #[.slice Av ms.length cv] 35)).alloc (.cells #[.int .i64 2, .int .i64 party, .int .i64 am, .slice A bills.length c] 38)).alloc (.cells #[.slice none 0 0] 35)).alloc (.cells #[.slice Av ms.length cv] 35)) = w0 := ⟨_, rfl⟩
  have hzz : W.heap.size < w0.heap.size := by rw [← hw0]; simp; omega
  have CP := fun (w : World) (hT : TMg tt w p xs) => withdraw_any w p xs party am htt hT hR.sd (by omega) hR.bnd
  have CR := fun (w : World) (hQ : PM w (.slice Av ms.length cv) ms) => rwit_any w (.slice Av ms.length cv) ms party am hQ hR.good (by omega)
  obtain ⟨E, hE⟩ : ∃ E, moveE (bal ms) (freeA party, 0, am) = E := ⟨_, rfl⟩
  rw [hR.fn, hE] at CP
  rw [hE] at CR
  have hRel : Rel (moveL xs (freeA party, 0, am)) (tryL ms (freeA party, 0, am)) := hR.step _
  have hHk : HeldOk xs → HeldOk (moveL xs (freeA party, 0, am)) := fun h => h.move (fun who hp => by have := party_bnd hp; dsimp only; omega)
  have hxl : ((moveL xs (freeA party, 0, am))).length ≤ xs.length + 16 := by have := moveL_len xs (freeA party, 0, am); omega
  have hml : ((tryL ms (freeA party, 0, am))).length ≤ ms.length + 8 := by have := tryL_len ms (freeA party, 0, am); omega
  obtain ⟨xs', hxs'⟩ : ∃ xs', (moveL xs (freeA party, 0, am)) = xs' := ⟨_, rfl⟩
  obtain ⟨ms', hms'⟩ : ∃ ms', (tryL ms (freeA party, 0, am)) = ms' := ⟨_, rfl⟩
  rw [hxs'] at CP hRel hxl hHk
  rw [hms'] at CR hRel hml
  have HCP := Lib.hid CP; have HCR := Lib.hid CR; have HX := Lib.hid (And.intro hRel (And.intro hxl (And.intro hml hHk)))
  rw [hw0] at hT hQ hD hg0
  have HT := Lib.hid hT; have HQ := Lib.hid hQ; have HD := Lib.hid hD; have HG0 := Lib.hid hg0; have HB := Lib.hid hB
  have c50 := hD.b5.cell (i := 0) rfl
  have c51 := hD.b5.cell (i := 1) rfl
  have c52 := hD.b5.cell (i := 2) rfl
  have c4 := hD.b4.cell (i := 0) rfl
  have hW0 := Lib.hid hw0
  clear CP CR hHk hRel hxl hml hxs' hms' hE hT hQ hD hg0 h hP hB hw0 c50 c51 c52 c4
  go_enter Try.func13, Try.ntmps13
  go_wp2_with fail
  rw [hW0.out]
  refine (HCP.out w0 HT.out).mono ?_; rintro e w1 ⟨rfl, hT1, hg1⟩
  have hD1 := HD.out.kept hg1 (fun q e => by cases e; omega)
  obtain ⟨q1, T1, bp1, hq1⟩ := id HT.out
  have hQ1 := HQ.out.turn bp1 hg1
  have hG1 := gb_trans HG0.out hg1
  have d51 := hD1.b5.cell (i := 1) rfl
  have d52 := hD1.b5.cell (i := 2) rfl
  have d4 := hD1.b4.cell (i := 0) rfl
  have HT1 := Lib.hid hT1; have HD1 := Lib.hid hD1; have HG1 := Lib.hid hG1; have HC := Lib.hid (HCR.out w1 hQ1)
  clear hT1 hD1 hG1 hQ1 bp1 hq1 hg1
  go_wp2_with fail
  refine HC.out.mono ?_; rintro e w2 ⟨v', rfl, hP2, hb2⟩
  have hD2 := HD1.out.kept (W := W) (show w1.grownBy w2 none from ⟨hb2.os, hb2.tape, hb2.output, hb2.size, fun j hj _ => hb2.block j hj⟩) (fun q e => by cases e)
  have hT2 := HT1.out.below hb2
  have hG2 := gb_trans HG1.out (below_gb (p := p) hb2)
  have FIN := do_end (tt := tt) (xs := xs) (ms := ms) hD2 (Nat.le_refl _) ⟨_, _, _, rfl⟩ hT2 hp0 hP2 HX.out.1 HX.out.2.2.2 HX.out.2.1 HX.out.2.2.1 hG2
  have HF := Lib.hid FIN
  have k10 := hD2.b10.cell (i := 0) rfl
  have k10f := hD2.b10.frozen 0
  have k6 := hD2.b6.cell (i := 0) rfl
  have k6f := hD2.b6.frozen 0
  have n1 := Nat.ne_of_gt (Nat.lt_succ_self (W.heap.size + 1 + 1))
  obtain ⟨A', c', rfl, -⟩ := hP2
  clear hD2 hT2 hG2 FIN hb2 d51 d52 d4 HC
  go_wp2_with fail
  refine bodyPost_ret (results_ct rfl _ _ (W.heap.size + 1 + 1) 35 _ (0, 0) _ rfl HF.out.1 Try.underlying35 rfl (by kernel_rfl)) rfl ?_
  exact ⟨_, _, _, rfl, HF.out.2⟩
set_option maxHeartbeats 8000000 in
set_option maxRecDepth 100000 in
theorem do4_any (W : World) (p : Nat) (xs : Bs) (ms : List Mv) (v : Value) (party am : Int) (A : Option Addr) (c : Nat) (bills : List (Int × Int)) {tt : TypeId} (htt : tt ≠ tN) (h : TMg tt W p xs) (hP : PM W v ms) (hR : Rel xs ms) (hlx : xs.length ≤ 100000) (hlm : ms.length ≤ 100000) :
    Calls Try.prog 13 #[.pointer (some ⟨p, 0, none⟩), .agg #[v], .agg #[.int .i64 4, .int .i64 party, .int .i64 am, .slice A bills.length c]] W (DoOk W p tt xs ms) := by
  obtain ⟨Av, cv, rfl, hlv, -⟩ := id hP
  have hp0 := h.lt
  obtain ⟨hD, hB⟩ := do_base W ms Av A cv c bills.length 4 party am
  have hT := h.below hB
  have hQ := hP.below hB
  have hg0 : W.grownBy ((((W.alloc (.cells #[.slice Av ms.length cv] 35)).alloc (.cells #[.int .i64 4, .int .i64 party, .int .i64 am, .slice A bills.length c] 38)).alloc (.cells #[.slice none 0 0] 35)).alloc (.cells #[.slice Av ms.length cv] 35)) (some p) := below_gb hB
  obtain ⟨w0, hw0⟩ : ∃ w0, ((((W.alloc (.cells #[.slice Av ms.length cv] 35)).alloc (.cells #[.int .i64 4, .int .i64 party, .int .i64 am, .slice A bills.length c] 38)).alloc (.cells #[.slice none 0 0] 35)).alloc (.cells #[.slice Av ms.length cv] 35)) = w0 := ⟨_, rfl⟩
  have hzz : W.heap.size < w0.heap.size := by rw [← hw0]; simp; omega
  have CP := fun (w : World) (hT : TMg tt w p xs) => pay_any w p xs party am htt hT hR.sd (by omega) hR.bnd
  have CR := fun (w : World) (hQ : PM w (.slice Av ms.length cv) ms) => rpay_any w (.slice Av ms.length cv) ms party am hQ hR.good (by omega)
  obtain ⟨E, hE⟩ : ∃ E, moveE (bal ms) (holdA party, 1, am) = E := ⟨_, rfl⟩
  rw [hR.fn, hE] at CP
  rw [hE] at CR
  have hRel : Rel (moveL xs (holdA party, 1, am)) (tryL ms (holdA party, 1, am)) := hR.step _
  have hHk : HeldOk xs → HeldOk (moveL xs (holdA party, 1, am)) := fun h => h.move (fun who hp => by have := party_bnd hp; dsimp only; omega)
  have hxl : ((moveL xs (holdA party, 1, am))).length ≤ xs.length + 16 := by have := moveL_len xs (holdA party, 1, am); omega
  have hml : ((tryL ms (holdA party, 1, am))).length ≤ ms.length + 8 := by have := tryL_len ms (holdA party, 1, am); omega
  obtain ⟨xs', hxs'⟩ : ∃ xs', (moveL xs (holdA party, 1, am)) = xs' := ⟨_, rfl⟩
  obtain ⟨ms', hms'⟩ : ∃ ms', (tryL ms (holdA party, 1, am)) = ms' := ⟨_, rfl⟩
  rw [hxs'] at CP hRel hxl hHk
  rw [hms'] at CR hRel hml
  have HCP := Lib.hid CP; have HCR := Lib.hid CR; have HX := Lib.hid (And.intro hRel (And.intro hxl (And.intro hml hHk)))
  rw [hw0] at hT hQ hD hg0
  have HT := Lib.hid hT; have HQ := Lib.hid hQ; have HD := Lib.hid hD; have HG0 := Lib.hid hg0; have HB := Lib.hid hB
  have c50 := hD.b5.cell (i := 0) rfl
  have c51 := hD.b5.cell (i := 1) rfl
  have c52 := hD.b5.cell (i := 2) rfl
  have c4 := hD.b4.cell (i := 0) rfl
  have hW0 := Lib.hid hw0
  clear CP CR hHk hRel hxl hml hxs' hms' hE hT hQ hD hg0 h hP hB hw0 c50 c51 c52 c4
  go_enter Try.func13, Try.ntmps13
  go_wp2_with fail
  rw [hW0.out]
  refine (HCP.out w0 HT.out).mono ?_; rintro e w1 ⟨rfl, hT1, hg1⟩
  have hD1 := HD.out.kept hg1 (fun q e => by cases e; omega)
  obtain ⟨q1, T1, bp1, hq1⟩ := id HT.out
  have hQ1 := HQ.out.turn bp1 hg1
  have hG1 := gb_trans HG0.out hg1
  have d51 := hD1.b5.cell (i := 1) rfl
  have d52 := hD1.b5.cell (i := 2) rfl
  have d4 := hD1.b4.cell (i := 0) rfl
  have HT1 := Lib.hid hT1; have HD1 := Lib.hid hD1; have HG1 := Lib.hid hG1; have HC := Lib.hid (HCR.out w1 hQ1)
  clear hT1 hD1 hG1 hQ1 bp1 hq1 hg1
  go_wp2_with fail
  refine HC.out.mono ?_; rintro e w2 ⟨v', rfl, hP2, hb2⟩
  have hD2 := HD1.out.kept (W := W) (show w1.grownBy w2 none from ⟨hb2.os, hb2.tape, hb2.output, hb2.size, fun j hj _ => hb2.block j hj⟩) (fun q e => by cases e)
  have hT2 := HT1.out.below hb2
  have hG2 := gb_trans HG1.out (below_gb (p := p) hb2)
  have FIN := do_end (tt := tt) (xs := xs) (ms := ms) hD2 (Nat.le_refl _) ⟨_, _, _, rfl⟩ hT2 hp0 hP2 HX.out.1 HX.out.2.2.2 HX.out.2.1 HX.out.2.2.1 hG2
  have HF := Lib.hid FIN
  have k10 := hD2.b10.cell (i := 0) rfl
  have k10f := hD2.b10.frozen 0
  have k6 := hD2.b6.cell (i := 0) rfl
  have k6f := hD2.b6.frozen 0
  have n1 := Nat.ne_of_gt (Nat.lt_succ_self (W.heap.size + 1 + 1))
  obtain ⟨A', c', rfl, -⟩ := hP2
  clear hD2 hT2 hG2 FIN hb2 d51 d52 d4 HC
  go_wp2_with fail
  refine bodyPost_ret (results_ct rfl _ _ (W.heap.size + 1 + 1) 35 _ (0, 0) _ rfl HF.out.1 Try.underlying35 rfl (by kernel_rfl)) rfl ?_
  exact ⟨_, _, _, rfl, HF.out.2⟩
set_option maxHeartbeats 8000000 in
set_option maxRecDepth 100000 in
theorem do3_any (W : World) (p : Nat) (xs : Bs) (ms : List Mv) (v : Value) (party am : Int) (A : Option Addr) (c : Nat) (bills : List (Int × Int)) {tt : TypeId} (htt : tt ≠ tN) (h : TMg tt W p xs) (hP : PM W v ms) (hR : Rel xs ms) (hlx : xs.length ≤ 100000) (hlm : ms.length ≤ 100000) :
    Calls Try.prog 13 #[.pointer (some ⟨p, 0, none⟩), .agg #[v], .agg #[.int .i64 3, .int .i64 party, .int .i64 am, .slice A bills.length c]] W (DoOk W p tt xs ms) := by
  obtain ⟨Av, cv, rfl, hlv, -⟩ := id hP
  have hp0 := h.lt
  obtain ⟨hD, hB⟩ := do_base W ms Av A cv c bills.length 3 party am
  have hT := h.below hB
  have hQ := hP.below hB
  have hg0 : W.grownBy ((((W.alloc (.cells #[.slice Av ms.length cv] 35)).alloc (.cells #[.int .i64 3, .int .i64 party, .int .i64 am, .slice A bills.length c] 38)).alloc (.cells #[.slice none 0 0] 35)).alloc (.cells #[.slice Av ms.length cv] 35)) (some p) := below_gb hB
  obtain ⟨w0, hw0⟩ : ∃ w0, ((((W.alloc (.cells #[.slice Av ms.length cv] 35)).alloc (.cells #[.int .i64 3, .int .i64 party, .int .i64 am, .slice A bills.length c] 38)).alloc (.cells #[.slice none 0 0] 35)).alloc (.cells #[.slice Av ms.length cv] 35)) = w0 := ⟨_, rfl⟩
  have hzz : W.heap.size < w0.heap.size := by rw [← hw0]; simp; omega
  have CP := fun (w : World) (hT : TMg tt w p xs) => hset_any w p xs party am htt hT hR.sd (by omega) hR.bnd
  have CR := fun (w : World) (hQ : PM w (.slice Av ms.length cv) ms) => rset_any w (.slice Av ms.length cv) ms party am hQ hR.good (by omega)
  obtain ⟨E, hE⟩ : ∃ E, rsetE ms party am = E := ⟨_, rfl⟩
  rw [(hR.set party am).1, hE] at CP
  rw [hE] at CR
  have hRel : Rel (setB xs party am) (rsetL ms party am) := (hR.set party am).2
  have hHk : HeldOk xs → HeldOk (setB xs party am) := fun h => h.set _ _
  have hxl : ((setB xs party am)).length ≤ xs.length + 16 := by have := setB_len xs party am; omega
  have hml : ((rsetL ms party am)).length ≤ ms.length + 8 := by have := rsetL_len ms party am; omega
  obtain ⟨xs', hxs'⟩ : ∃ xs', (setB xs party am) = xs' := ⟨_, rfl⟩
  obtain ⟨ms', hms'⟩ : ∃ ms', (rsetL ms party am) = ms' := ⟨_, rfl⟩
  rw [hxs'] at CP hRel hxl hHk
  rw [hms'] at CR hRel hml
  have HCP := Lib.hid CP; have HCR := Lib.hid CR; have HX := Lib.hid (And.intro hRel (And.intro hxl (And.intro hml hHk)))
  rw [hw0] at hT hQ hD hg0
  have HT := Lib.hid hT; have HQ := Lib.hid hQ; have HD := Lib.hid hD; have HG0 := Lib.hid hg0; have HB := Lib.hid hB
  have c50 := hD.b5.cell (i := 0) rfl
  have c51 := hD.b5.cell (i := 1) rfl
  have c52 := hD.b5.cell (i := 2) rfl
  have c4 := hD.b4.cell (i := 0) rfl
  have hW0 := Lib.hid hw0
  clear CP CR hHk hRel hxl hml hxs' hms' hE hT hQ hD hg0 h hP hB hw0 c50 c51 c52 c4
  go_enter Try.func13, Try.ntmps13
  go_wp2_with fail
  rw [hW0.out]
  refine (HCP.out w0 HT.out).mono ?_; rintro e w1 ⟨rfl, hT1, hg1⟩
  have hD1 := HD.out.kept hg1 (fun q e => by cases e; omega)
  obtain ⟨q1, T1, bp1, hq1⟩ := id HT.out
  have hQ1 := HQ.out.turn bp1 hg1
  have hG1 := gb_trans HG0.out hg1
  have d51 := hD1.b5.cell (i := 1) rfl
  have d52 := hD1.b5.cell (i := 2) rfl
  have d4 := hD1.b4.cell (i := 0) rfl
  have HT1 := Lib.hid hT1; have HD1 := Lib.hid hD1; have HG1 := Lib.hid hG1; have HC := Lib.hid (HCR.out w1 hQ1)
  clear hT1 hD1 hG1 hQ1 bp1 hq1 hg1
  go_wp2_with fail
  refine HC.out.mono ?_; rintro e w2 ⟨v', rfl, hP2, hb2⟩
  have hD2 := HD1.out.kept (W := W) (show w1.grownBy w2 none from ⟨hb2.os, hb2.tape, hb2.output, hb2.size, fun j hj _ => hb2.block j hj⟩) (fun q e => by cases e)
  have hT2 := HT1.out.below hb2
  have hG2 := gb_trans HG1.out (below_gb (p := p) hb2)
  have FIN := do_end (tt := tt) (xs := xs) (ms := ms) hD2 (Nat.le_refl _) ⟨_, _, _, rfl⟩ hT2 hp0 hP2 HX.out.1 HX.out.2.2.2 HX.out.2.1 HX.out.2.2.1 hG2
  have HF := Lib.hid FIN
  have k10 := hD2.b10.cell (i := 0) rfl
  have k10f := hD2.b10.frozen 0
  have k6 := hD2.b6.cell (i := 0) rfl
  have k6f := hD2.b6.frozen 0
  have n1 := Nat.ne_of_gt (Nat.lt_succ_self (W.heap.size + 1 + 1))
  obtain ⟨A', c', rfl, -⟩ := hP2
  clear hD2 hT2 hG2 FIN hb2 d51 d52 d4 HC
  go_wp2_with fail
  refine bodyPost_ret (results_ct rfl _ _ (W.heap.size + 1 + 1) 35 _ (0, 0) _ rfl HF.out.1 Try.underlying35 rfl (by kernel_rfl)) rfl ?_
  exact ⟨_, _, _, rfl, HF.out.2⟩

end Go.Proofs.Ytmdacfgofilbdaa.Led

/- hold: the other steps of both purses. -/
set_option linter.unusedSimpArgs false
set_option linter.unusedVariables false
namespace Go.Proofs.Ytmdacfgofilbdaa.Led
open Go.RowKit Go.Proofs.Ytmdacfgofilbdaa.TabL Go.Proofs.YtmdacfgofilbdaaW.PrintWords Go.Proofs.Ytmdacfgofilbdaa.PHoldPlays
open Go.Proofs.Ytmdacfgofilbdaa.TabB (ltI lin getV TMg)
attribute [local go_sem] Oper.semAt_some

theorem DoPost.drew {W w' : World} {p : Nat} {tt : TypeId} {xs xs' : Bs} {ms ms' : List Mv} {v' : Value} (h : DoPost W p tt xs ms xs' ms' v' w') : DoPost W p tt xs ms xs' ms' v' w'.drew :=
  ⟨h.tm.below (Below.refl _ _).drew, h.pm.below (Below.refl _ _).drew, h.rel, h.hok, h.lx, h.lm, gb_trans h.grown (below_gb (Below.refl _ _).drew)⟩
set_option maxHeartbeats 8000000 in
set_option maxRecDepth 100000 in
theorem do5_any (W : World) (p : Nat) (xs : Bs) (ms : List Mv) (v : Value) (party am : Int) (A : Option Addr) (c : Nat) (bills : List (Int × Int)) {tt : TypeId} (htt : tt ≠ tN) (h : TMg tt W p xs) (hP : PM W v ms) (hR : Rel xs ms) (hlx : xs.length ≤ 100000) (hlm : ms.length ≤ 100000) :
    Calls Try.prog 13 #[.pointer (some ⟨p, 0, none⟩), .agg #[v], .agg #[.int .i64 5, .int .i64 party, .int .i64 am, .slice A bills.length c]] W (DoOk W p tt xs ms) := by
  obtain ⟨Av, cv, rfl, hlv, -⟩ := id hP
  have hp0 := h.lt
  obtain ⟨hD, hB⟩ := do_base W ms Av A cv c bills.length 5 party am
  have hT := h.below hB
  have hQ := hP.below hB
  have hg0 : W.grownBy ((((W.alloc (.cells #[.slice Av ms.length cv] 35)).alloc (.cells #[.int .i64 5, .int .i64 party, .int .i64 am, .slice A bills.length c] 38)).alloc (.cells #[.slice none 0 0] 35)).alloc (.cells #[.slice Av ms.length cv] 35)) (some p) := below_gb hB
  obtain ⟨w0, hw0⟩ : ∃ w0, ((((W.alloc (.cells #[.slice Av ms.length cv] 35)).alloc (.cells #[.int .i64 5, .int .i64 party, .int .i64 am, .slice A bills.length c] 38)).alloc (.cells #[.slice none 0 0] 35)).alloc (.cells #[.slice Av ms.length cv] 35)) = w0 := ⟨_, rfl⟩
  have hzz : W.heap.size < w0.heap.size := by rw [← hw0]; simp; omega
  have CP := fun (w : World) (hT : TMg tt w p xs) => refund_any w p xs party htt hT hR.sd (by omega) hR.bnd
  have CR := fun (w : World) (hQ : PM w (.slice Av ms.length cv) ms) => rref_any w (.slice Av ms.length cv) ms party hQ hR.good (by omega)
  have hRel : Rel (moveL xs (refMb ms party)) (tryL ms (refMb ms party)) := hR.step _
  have hHk : HeldOk xs → HeldOk (moveL xs (refMb ms party)) := fun h => h.move (fun who hp => free_ne who hp)
  have hxl : (moveL xs (refMb ms party)).length ≤ xs.length + 16 := by have := moveL_len xs (refMb ms party); omega
  have hml : (tryL ms (refMb ms party)).length ≤ ms.length + 8 := by have := tryL_len ms (refMb ms party); omega
  unfold refN at CR
  rw [hR.ref, hR.fn] at CP
  obtain ⟨E, hE⟩ : ∃ E, moveE (bal ms) (refMb ms party) = E := ⟨_, rfl⟩
  rw [hE] at CP CR
  obtain ⟨n, hn⟩ : ∃ n : Int, (if E = 0 then bal ms (holdA party) else 0) = n := ⟨_, rfl⟩
  rw [hn] at CP CR
  obtain ⟨xs', hxs'⟩ : ∃ xs', moveL xs (refMb ms party) = xs' := ⟨_, rfl⟩
  obtain ⟨ms', hms'⟩ : ∃ ms', tryL ms (refMb ms party) = ms' := ⟨_, rfl⟩
  rw [hxs'] at CP hRel hxl hHk
  rw [hms'] at CR hRel hml
  have HCP := Lib.hid CP; have HCR := Lib.hid CR; have HX := Lib.hid (And.intro hRel (And.intro hxl (And.intro hml hHk)))
  rw [hw0] at hT hQ hD hg0
  have HT := Lib.hid hT; have HQ := Lib.hid hQ; have HD := Lib.hid hD; have HG0 := Lib.hid hg0; have HB := Lib.hid hB
  have hW0 := Lib.hid hw0
  clear CP CR hHk hRel hxl hml hxs' hms' hE hT hQ hD hg0 h hP hB hw0 hn
  go_enter Try.func13, Try.ntmps13
  go_wp2_with fail
  rw [hW0.out]
  refine (HCP.out w0 HT.out).mono ?_; rintro e w1 ⟨rfl, hT1, hg1⟩
  have hD1 := HD.out.kept hg1 (fun q e => by cases e; omega)
  obtain ⟨q1, T1, bp1, hq1⟩ := id HT.out
  have hQ1 := HQ.out.turn bp1 hg1
  have hG1 := gb_trans HG0.out hg1
  have d51 := hD1.b5.cell (i := 1) rfl
  have d52 := hD1.b5.cell (i := 2) rfl
  have d4 := hD1.b4.cell (i := 0) rfl
  have HT1 := Lib.hid hT1; have HD1 := Lib.hid hD1; have HG1 := Lib.hid hG1; have HC := Lib.hid (HCR.out w1 hQ1)
  clear hT1 hD1 hG1 hQ1 bp1 hq1 hg1
  go_wp2_with fail
  refine HC.out.mono ?_; rintro e w2 ⟨v', rfl, hP2, hb2⟩
  have hD2 := HD1.out.kept (W := W) (show w1.grownBy w2 none from ⟨hb2.os, hb2.tape, hb2.output, hb2.size, fun j hj _ => hb2.block j hj⟩) (fun q e => by cases e)
  have hT2 := HT1.out.below hb2
  have hG2 := gb_trans HG1.out (below_gb (p := p) hb2)
  obtain ⟨A', c', rfl, -⟩ := id hP2
  have hz2 := hD2.b10.lt
  have hDA := hD2.kept (W := W) (World.grownBy_alloc w2 (.cells #[.slice A' ms'.length c'] 35) none) (fun q e => by cases e)
  have hal : Below w2.heap.size w2 (w2.alloc (.cells #[.slice A' ms'.length c'] 35)) := (Below.refl _ w2).alloc (Nat.le_refl _) _
  have FIN := do_end (tt := tt) (xs := xs) (ms := ms) (v' := .slice A' ms'.length c') hDA (Nat.le_refl _) ⟨_, _, _, rfl⟩ (hT2.below hal) hp0 (hP2.below hal) HX.out.1 HX.out.2.2.2 HX.out.2.1 HX.out.2.2.1 (gb_trans hG2 (below_gb (p := p) hal))
  have HF := Lib.hid FIN
  have k10 := hDA.b10.cell (i := 0) rfl
  have k10f := hDA.b10.frozen 0
  have k6 := hDA.b6.cell (i := 0) rfl
  have k6f := hDA.b6.frozen 0
  have k13 := (Blk.new w2 [.slice A' ms'.length c'] 35).cell (i := 0) rfl
  have n1 := Nat.ne_of_gt (Nat.lt_succ_self (W.heap.size + 1 + 1))
  clear hD2 hT2 hG2 FIN hb2 d51 d52 d4 HC hDA hP2
  go_wp2_with fail
  obtain ⟨w3, hw3⟩ : ∃ w3, w2.alloc (.cells #[.slice A' ms'.length c'] 35) = w3 := ⟨_, rfl⟩
  rw [hw3] at hal k10 k10f k6 k6f k13 HF ⊢
  clear hw3 hal
  go_region_held3 (fun w' => w'.cell? ⟨w2.heap.size, 0, none⟩ = some (.slice A' ms'.length c')) (first | exact k13 | exact (cell_putNe (by simp; omega)).trans k13 | go_keep) (fail)
  clear k13
  go_wp2_with fail
  refine bodyPost_ret (results_ct rfl _ _ (W.heap.size + 1 + 1) 35 _ (0, 0) _ rfl HF.out.1 Try.underlying35 rfl (by kernel_rfl)) rfl ?_
  exact ⟨_, _, _, rfl, HF.out.2.drew⟩
theorem blk_row {W W' : World} {b base n size : Nat} {t e : TypeId} {l xs : List Value} {v : Value} (hb : Blk W b t l) (ho : W.ownsRow base e size v n xs) (hte : t ≠ e) (hg : W.grownBy W' v.ownBlock) : Blk W' b t l :=
  hb.kept hg (fun h => own_apart hb ho hte h.symm)
abbrev tI : TypeId := 3
abbrev tJ : TypeId := 2
theorem infoI : (Try.prog.info? 3).map (fun i => (i.zero, i.size, i.bytes)) = some (some (.int .i64 0), 1, 8) := by kernel_rfl
theorem infoJ : (Try.prog.info? 2).map (fun i => (i.zero, i.size, i.bytes)) = some (some (.int .i64 0), 1, 8) := by kernel_rfl
theorem cI_length (m : Int) : (cI m).length = 1 := rfl
theorem own_ne {W : World} {b1 b2 s1 s2 n1 n2 : Nat} {e1 e2 : TypeId} {v1 v2 : Value} {x1 x2 : List Value} (h1 : W.ownsRow b1 e1 s1 v1 n1 x1) (h2 : W.ownsRow b2 e2 s2 v2 n2 x2) (he : e1 ≠ e2) : v1.ownBlock = none ∨ v1.ownBlock ≠ v2.ownBlock := by
  cases h : v1.ownBlock with
  | none => exact .inl rfl
  | some k =>
    refine .inr (fun e => ?_)
    obtain ⟨_, c1, f1, q1⟩ := own_typ h1 k h
    obtain ⟨_, c2, f2, q2⟩ := own_typ h2 k e.symm
    rw [q1] at q2
    simp at q2
    exact he q2.2.1
/-- the two rows that the bills are laid into -/
structure BR (w0 : World) (bills : List (Int × Int)) (k : Nat) (v16 v17 : Value) (w : World) : Prop where
  r1 : w.ownsRow w0.heap.size 3 1 v16 k (cellsOf cI ((bills.map (·.1)).take k))
  r2 : w.ownsRow w0.heap.size 2 1 v17 k (cellsOf cI ((bills.map (·.2)).take k))
  b : Below w0.heap.size w0 w
theorem BR.alloc {w0 : World} {bills : List (Int × Int)} {k : Nat} {v16 v17 : Value} {w : World} (h : BR w0 bills k v16 v17 w) (o : Obj) : BR w0 bills k v16 v17 (w.alloc o) := ⟨h.r1.alloc o, h.r2.alloc o, h.b.alloc h.b.size o⟩
theorem BR.drew {w0 : World} {bills : List (Int × Int)} {k : Nat} {v16 v17 : Value} {w : World} (h : BR w0 bills k v16 v17 w) : BR w0 bills k v16 v17 w.drew := ⟨h.r1, h.r2, h.b.drew⟩
theorem br_start (w0 : World) (bills : List (Int × Int)) {n : Nat} (h : w0.heap.size = n) : BR w0 bills 0 (.slice (some ⟨n, 0, none⟩) 0 0) (.slice (some ⟨n + 1, 0, none⟩) 0 0) ((w0.alloc (.cells #[] 3)).alloc (.cells #[] 2)) := by
  subst h
  have h2 := World.ownsRow_lit (base := w0.heap.size) (e := 2) (size := 1) (w0.alloc (.cells #[] 3)) #[] 0 (by simp) (by decide) rfl
  rw [World.size_alloc] at h2
  exact ⟨(World.ownsRow_lit (base := w0.heap.size) (e := 3) (size := 1) w0 #[] 0 (Nat.le_refl _) (by decide) rfl).alloc _, h2, ((Below.refl _ _).alloc (Nat.le_refl _) _).alloc (by simp) _⟩
/-- behind the first append -/
structure BR1 (w0 : World) (bills : List (Int × Int)) (k : Nat) (v16 v17 : Value) (w : World) : Prop where
  r1 : w.ownsRow w0.heap.size 3 1 v16 (k + 1) (cellsOf cI ((bills.map (·.1)).take (k + 1)))
  r2 : w.ownsRow w0.heap.size 2 1 v17 k (cellsOf cI ((bills.map (·.2)).take k))
  b : Below w0.heap.size w0 w
theorem BR1.alloc {w0 : World} {bills : List (Int × Int)} {k : Nat} {v16 v17 : Value} {w : World} (h : BR1 w0 bills k v16 v17 w) (o : Obj) : BR1 w0 bills k v16 v17 (w.alloc o) := ⟨h.r1.alloc o, h.r2.alloc o, h.b.alloc h.b.size o⟩
theorem BR.one {w0 : World} {bills : List (Int × Int)} {k : Nat} {v16 v16' v17 : Value} {w w' : World} {o : Int × Int} (h : BR w0 bills k v16 v17 w) (hk : bills[k]? = some o) (h1 : w'.ownsRow w0.heap.size 3 1 v16' (k + 1) (cellsOf cI ((bills.map (·.1)).take k) ++ [.int .i64 o.1])) (hg : w.grownBy w' v16.ownBlock) : BR1 w0 bills k v16' v17 w' := by
  have hkl := (List.getElem?_eq_some_iff.1 hk).1
  refine ⟨?_, h.r2.kept hg (own_ne h.r2 h.r1 (by decide)), h.b.grown hg h.b.size (fun r e => (own_typ h.r1 r e).1)⟩
  rw [List.take_succ_eq_append_getElem (by simpa using hkl), cellsOf_append, cellsOf_one, List.getElem_map, (List.getElem?_eq_some_iff.1 hk).2]
  exact h1
theorem BR1.two {w0 : World} {bills : List (Int × Int)} {k : Nat} {v16 v17 v17' : Value} {w w' : World} {o : Int × Int} (h : BR1 w0 bills k v16 v17 w) (hk : bills[k]? = some o) (h1 : w'.ownsRow w0.heap.size 2 1 v17' (k + 1) (cellsOf cI ((bills.map (·.2)).take k) ++ [.int .i64 o.2])) (hg : w.grownBy w' v17.ownBlock) : BR w0 bills (k + 1) v16 v17' w' := by
  have hkl := (List.getElem?_eq_some_iff.1 hk).1
  refine ⟨h.r1.kept hg (own_ne h.r1 h.r2 (by decide)), ?_, h.b.grown hg h.b.size (fun r e => (own_typ h.r2 r e).1)⟩
  rw [List.take_succ_eq_append_getElem (by simpa using hkl), cellsOf_append, cellsOf_one, List.getElem_map, (List.getElem?_eq_some_iff.1 hk).2]
  exact h1
set_option maxHeartbeats 8000000 in
set_option maxRecDepth 100000 in
theorem do6_any (W : World) (p : Nat) (xs : Bs) (ms : List Mv) (v : Value) (party am : Int) (A : Option Addr) (c : Nat) (bills : List (Int × Int)) {tt : TypeId} (htt : tt ≠ tN) (h : TMg tt W p xs) (hP : PM W v ms) (hR : Rel xs ms) (hlx : xs.length ≤ 100000) (hlm : ms.length ≤ 100000) (hn : bills.length ≤ 8) (hRb : Rd cB 2 W.heap.size W (.slice A bills.length c) bills) :
    Calls Try.prog 13 #[.pointer (some ⟨p, 0, none⟩), .agg #[v], .agg #[.int .i64 6, .int .i64 party, .int .i64 am, .slice A bills.length c]] W (DoOk W p tt xs ms) := by
  obtain ⟨Av, cv, rfl, hlv, -⟩ := id hP
  have hp0 := h.lt
  obtain ⟨hD, hB⟩ := do_base W ms Av A cv c bills.length 6 party am
  have hT := h.below hB
  have hQ := hP.below hB
  have hg0 : W.grownBy ((((W.alloc (.cells #[.slice Av ms.length cv] 35)).alloc (.cells #[.int .i64 6, .int .i64 party, .int .i64 am, .slice A bills.length c] 38)).alloc (.cells #[.slice none 0 0] 35)).alloc (.cells #[.slice Av ms.length cv] 35)) (some p) := below_gb hB
  obtain ⟨w0, hw0⟩ : ∃ w0, ((((W.alloc (.cells #[.slice Av ms.length cv] 35)).alloc (.cells #[.int .i64 6, .int .i64 party, .int .i64 am, .slice A bills.length c] 38)).alloc (.cells #[.slice none 0 0] 35)).alloc (.cells #[.slice Av ms.length cv] 35)) = w0 := ⟨_, rfl⟩
  have hzz : W.heap.size < w0.heap.size := by rw [← hw0]; simp; omega
  have HZ0 : Hid (w0.heap.size = W.heap.size + 1 + 1 + 1 + 1) := Lib.hid (by rw [← hw0]; simp)
  have HRB := Lib.hid ((hRb.below hB).mono hB.size)
  obtain ⟨i0, hi0, hiz0, hiz1, hiz2⟩ := info_parts infoI
  obtain ⟨j0, hj0, hjz0, hjz1, hjz2⟩ := info_parts infoJ
  have CP := fun (w : World) (hT : TMg tt w p xs) (hRw : Rd cB 2 w.heap.size w (.slice A bills.length c) bills) => settle_any w p xs A c bills htt hT hR.sd (by omega) (by omega) hR.bnd hRw
  have CR := fun (w : World) (hQ : PM w (.slice Av ms.length cv) ms) (A1 A2 : Option Addr) (c1 c2 : Nat) (h1 : Rd cI 1 w.heap.size w (.slice A1 bills.length c1) (bills.map (·.1))) (h2 : Rd cI 1 w.heap.size w (.slice A2 bills.length c2) (bills.map (·.2))) => rsettle_any w (.slice Av ms.length cv) ms A1 A2 c1 c2 bills hQ hR.good hlm (by omega) h1 h2
  have hm := hR.moves (bms bills)
  have hbl : (bms bills).length = bills.length := by unfold bms; simp
  have hRel : Rel (allL xs (bms bills)) (allR ms (bms bills)) := hR.all _
  have hHk : HeldOk xs → HeldOk (allL xs (bms bills)) := fun h => h.all _
  have hxl : (allL xs (bms bills)).length ≤ xs.length + 16 := by have := allL_len xs (bms bills); omega
  have hml : (allR ms (bms bills)).length ≤ ms.length + 8 := by have := allR_len ms (bms bills); omega
  obtain ⟨E, hE⟩ : ∃ E, (movesR ms (bms bills)).1 = E := ⟨_, rfl⟩
  rw [hm.1, hE] at CP
  rw [hE] at CR
  obtain ⟨xs', hxs'⟩ : ∃ xs', allL xs (bms bills) = xs' := ⟨_, rfl⟩
  obtain ⟨ms', hms'⟩ : ∃ ms', allR ms (bms bills) = ms' := ⟨_, rfl⟩
  rw [hxs'] at CP hRel hxl hHk
  rw [hms'] at CR hRel hml
  have HCP := Lib.hid CP; have HCR := Lib.hid CR; have HX := Lib.hid (And.intro hRel (And.intro hxl (And.intro hml hHk)))
  rw [hw0] at hT hQ hD hg0 HRB
  have HT := Lib.hid hT; have HQ := Lib.hid hQ; have HD := Lib.hid hD; have HG0 := Lib.hid hg0; have HB := Lib.hid hB
  have hW0 := Lib.hid hw0
  clear CP CR hHk hRel hxl hml hxs' hms' hE hT hQ hD hg0 h hP hB hw0 hm hbl hRb
  go_enter Try.func13, Try.ntmps13
  go_wp2_with fail
  rw [hW0.out]
  go_loopw [16, 17, 123] (fun v16 v17 i wr => ∃ k : Nat, i = .int .i64 (k : Int) ∧ k ≤ bills.length ∧ BR w0 bills k v16 v17 wr)
    (fun _ _ i _ => bills.length - (match i with | .int _ n => n.toNat | _ => 0))
  case atStart => exact ⟨0, rfl, Nat.zero_le _, br_start w0 bills HZ0.out⟩
  case round =>
    obtain ⟨k, rfl, hk, hBR⟩ := hrel
    by_cases hlt : k < bills.length
    · obtain ⟨⟨who, am'⟩, hget⟩ : ∃ o, bills[k]? = some o := ⟨_, List.getElem?_eq_getElem hlt⟩
      obtain ⟨b, off, c1, e1, hlb, q0, q1⟩ := rd_bill (HRB.out.below hBR.b) hget
      obtain ⟨rfl, rfl⟩ : A = some ⟨b, off, none⟩ ∧ c = c1 := by injection e1 with e1 e2 e3; exact ⟨e1, e3⟩
      have HBR := Lib.hid hBR; have HGT := Lib.hid hget
      clear hBR hget e1
      simp only at q0 q1
      go_wp2_with fail
      have hBRa := HBR.out.alloc (.cells #[.int .i64 who, .int .i64 am'] 57)
      have hBl := Blk.new wr [.int .i64 who, .int .i64 am'] 57
      obtain ⟨wa, hwa⟩ : ∃ wa, wr.alloc (.cells #[.int .i64 who, .int .i64 am'] 57) = wa := ⟨_, rfl⟩
      replace hBl : Blk wa wr.heap.size 57 [.int .i64 who, .int .i64 am'] := by rw [← hwa]; exact hBl
      rw [hwa] at hBRa ⊢
      obtain ⟨z, hz⟩ : ∃ z, wr.heap.size = z := ⟨_, rfl⟩
      rw [hz] at hBl ⊢
      clear hwa hz q0 q1
      have c0 := hBl.cell (i := 0) rfl
      have c1' := hBl.cell (i := 1) rfl
      have hzb := hBl.lt
      have S0 := And.intro c0 c1'
      have hbz := hBRa.b.size
      go_region_held3 (fun w' => w'.cell? ⟨z, 0, none⟩ = some (.int .i64 who) ∧ w'.cell? ⟨z, 1, none⟩ = some (.int .i64 am')) (first | exact S0 | exact ⟨(hBl.alloc _).drew.cell (i := 0) rfl, (hBl.alloc _).drew.cell (i := 1) rfl⟩ | exact ⟨((hBl.alloc _).alloc _).drew.cell (i := 0) rfl, ((hBl.alloc _).alloc _).drew.cell (i := 1) rfl⟩ | exact S6 | exact ⟨(B6.alloc _).cell (i := 0) rfl, (B6.alloc _).cell (i := 1) rfl⟩ | exact S7) ((first
        | (refine step_append_lies _ (by rfl) _ _ _ (by rfl) w0.heap.size 2 j0 _ 1 8 Try.underlying98 hj0 hjz0 hjz1 hjz2 rfl (by decide) u17 k _ (by rfl) ((BR6a.alloc (.cells #[.int .i64 am'] 2)).r2) ⟨w6.heap.size, 0, none⟩ 1 1 [.int .i64 am'] (by rfl) (by rfl) (news_blk (Blk.new w6 [.int .i64 am'] 2)) (by simp [Value.oneCell']) (by omega) (by unfold maxLen; omega) (by omega) (by first | omega | (simp; omega)) (w6.heap.size + 1) (by first | rfl | simp) ?_; intro g7 cap7 w7 hown7 hg7 hat7 hlt7; have BR7 := Lib.hid ((BR6a.alloc (.cells #[.int .i64 am'] 2)).two HGT.out hown7 hg7); have B7 := blk_row (B6.alloc (.cells #[.int .i64 am'] 2)) (BR6a.alloc (.cells #[.int .i64 am'] 2)).r2 (by decide) hg7; have S7 := And.intro (B7.cell (i := 0) rfl) (B7.cell (i := 1) rfl); clear hown7 hat7 hg7)
        | (refine step_append_lies _ (by rfl) _ _ _ (by rfl) w0.heap.size 2 j0 _ 1 8 Try.underlying98 hj0 hjz0 hjz1 hjz2 rfl (by decide) u17 k _ (by rfl) ((BR6b).r2) ⟨wa.heap.size + 1, 0, none⟩ 1 1 [.int .i64 am'] (by rfl) (by rfl) (news_blk BY6) (by simp [Value.oneCell']) (by omega) (by unfold maxLen; omega) (by omega) (by first | omega | (simp; omega)) (w6.heap.size) (by first | rfl | simp) ?_; intro g7 cap7 w7 hown7 hg7 hat7 hlt7; have BR7 := Lib.hid ((BR6b).two HGT.out hown7 hg7); have B7 := blk_row (B6) (BR6b).r2 (by decide) hg7; have S7 := And.intro (B7.cell (i := 0) rfl) (B7.cell (i := 1) rfl); clear hown7 hat7 hg7)
        | (refine step_append_lies _ (by rfl) _ _ _ (by rfl) w0.heap.size 2 j0 _ 1 8 Try.underlying98 hj0 hjz0 hjz1 hjz2 rfl (by decide) u17 k _ (by rfl) ((BR6c).r2) ⟨wa.heap.size, 0, none⟩ 1 1 [.int .i64 am'] (by rfl) (by rfl) (news_blk BY6) (by simp [Value.oneCell']) (by omega) (by unfold maxLen; omega) (by omega) (by first | omega | (simp; omega)) (w6.heap.size) (by first | rfl | simp) ?_; intro g7 cap7 w7 hown7 hg7 hat7 hlt7; have BR7 := Lib.hid ((BR6c).two HGT.out hown7 hg7); have B7 := blk_row (B6) (BR6c).r2 (by decide) hg7; have S7 := And.intro (B7.cell (i := 0) rfl) (B7.cell (i := 1) rfl); clear hown7 hat7 hg7)
        | (refine step_append_lies _ (by rfl) _ _ _ (by rfl) w0.heap.size 3 i0 _ 1 8 Try.underlying42 hi0 hiz0 hiz1 hiz2 rfl (by decide) u16 k _ (by rfl) (((hBRa.alloc (.cells #[.int .i64 who] 3)).drew).r1) ⟨wa.heap.size, 0, none⟩ 1 1 [.int .i64 who] (by rfl) (by rfl) (news_blk (Blk.new wa [.int .i64 who] 3).drew) (by simp [Value.oneCell']) (by omega) (by unfold maxLen; omega) (by omega) (by first | omega | (simp; omega)) (wa.heap.size + 1) (by first | rfl | simp) ?_; intro g6 cap6 w6 hown6 hg6 hat6 hlt6; have BR6a := ((hBRa.alloc (.cells #[.int .i64 who] 3)).drew).one HGT.out hown6 hg6; have B6 := blk_row ((hBl.alloc (.cells #[.int .i64 who] 3)).drew) ((hBRa.alloc (.cells #[.int .i64 who] 3)).drew).r1 (by decide) hg6; have hz6 := BR6a.b.size;  have S6 := And.intro (B6.cell (i := 0) rfl) (B6.cell (i := 1) rfl); clear hown6 hat6)
        | (refine step_append_lies _ (by rfl) _ _ _ (by rfl) w0.heap.size 3 i0 _ 1 8 Try.underlying42 hi0 hiz0 hiz1 hiz2 rfl (by decide) u16 k _ (by rfl) ((((hBRa.alloc (.cells #[.int .i64 who] 3)).alloc (.cells #[.int .i64 am'] 2)).drew).r1) ⟨wa.heap.size, 0, none⟩ 1 1 [.int .i64 who] (by rfl) (by rfl) (news_blk (((Blk.new wa [.int .i64 who] 3).alloc (.cells #[.int .i64 am'] 2)).drew)) (by simp [Value.oneCell']) (by omega) (by unfold maxLen; omega) (by omega) (by first | omega | (simp; omega)) (wa.heap.size + 1 + 1) (by first | rfl | simp) ?_; intro g6 cap6 w6 hown6 hg6 hat6 hlt6; have BR6b := (((hBRa.alloc (.cells #[.int .i64 who] 3)).alloc (.cells #[.int .i64 am'] 2)).drew).one HGT.out hown6 hg6; have B6 := blk_row (((hBl.alloc (.cells #[.int .i64 who] 3)).alloc (.cells #[.int .i64 am'] 2)).drew) (((hBRa.alloc (.cells #[.int .i64 who] 3)).alloc (.cells #[.int .i64 am'] 2)).drew).r1 (by decide) hg6; have hz6 := BR6b.b.size; have BY6 := blk_row (Blk.new2 wa (.cells #[.int .i64 who] 3) [.int .i64 am'] 2).drew ((hBRa.alloc (.cells #[.int .i64 who] 3)).alloc (.cells #[.int .i64 am'] 2)).drew.r1 (by decide) hg6;  have S6 := And.intro (B6.cell (i := 0) rfl) (B6.cell (i := 1) rfl); clear hown6 hat6)
        | (refine step_append_lies _ (by rfl) _ _ _ (by rfl) w0.heap.size 3 i0 _ 1 8 Try.underlying42 hi0 hiz0 hiz1 hiz2 rfl (by decide) u16 k _ (by rfl) ((((hBRa.alloc (.cells #[.int .i64 am'] 2)).alloc (.cells #[.int .i64 who] 3)).drew).r1) ⟨wa.heap.size + 1, 0, none⟩ 1 1 [.int .i64 who] (by rfl) (by rfl) (news_blk (Blk.new2 wa (.cells #[.int .i64 am'] 2) [.int .i64 who] 3).drew) (by simp [Value.oneCell']) (by omega) (by unfold maxLen; omega) (by omega) (by first | omega | (simp; omega)) (wa.heap.size + 1 + 1) (by first | rfl | simp) ?_; intro g6 cap6 w6 hown6 hg6 hat6 hlt6; have BR6c := (((hBRa.alloc (.cells #[.int .i64 am'] 2)).alloc (.cells #[.int .i64 who] 3)).drew).one HGT.out hown6 hg6; have B6 := blk_row (((hBl.alloc (.cells #[.int .i64 am'] 2)).alloc (.cells #[.int .i64 who] 3)).drew) (((hBRa.alloc (.cells #[.int .i64 am'] 2)).alloc (.cells #[.int .i64 who] 3)).drew).r1 (by decide) hg6; have hz6 := BR6c.b.size; have BY6 := blk_row ((Blk.new wa [.int .i64 am'] 2).alloc (.cells #[.int .i64 who] 3)).drew ((hBRa.alloc (.cells #[.int .i64 am'] 2)).alloc (.cells #[.int .i64 who] 3)).drew.r1 (by decide) hg6;  have S6 := And.intro (B6.cell (i := 0) rfl) (B6.cell (i := 1) rfl); clear hown6 hat6)))
      all_goals
        clear hzb hbz hBRa hBl S0 c0 c1'
        go_wp2_with fail
        go_roundw
        case rel => exact ⟨k + 1, by congr 1, by omega, BR7.out⟩
        case measure => simp; omega
    · obtain rfl : k = bills.length := by omega
      have r1 := hBR.r1
      have r2 := hBR.r2
      rw [List.take_of_length_le (by simp)] at r1 r2
      obtain ⟨A1, c1, rfl⟩ := own_slice r1
      obtain ⟨A2, c2, rfl⟩ := own_slice r2
      have hDr := HD.out.kept (W := W) (show w0.grownBy wr none from ⟨hBR.b.os, hBR.b.tape, hBR.b.output, hBR.b.size, fun j hj _ => hBR.b.block j hj⟩) (fun q e => by cases e)
      have hTr := HT.out.below hBR.b
      have hQr := HQ.out.below hBR.b
      have hGr := gb_trans HG0.out (below_gb (p := p) hBR.b)
      have HC0 := Lib.hid (HCP.out wr hTr ((HRB.out.below hBR.b).mono hBR.b.size))
      have d53 := hDr.b5.cell (i := 3) rfl
      have HTr := Lib.hid hTr; have HQr := Lib.hid hQr; have HGr := Lib.hid hGr; have HDr := Lib.hid hDr; have HR1 := Lib.hid r1; have HR2 := Lib.hid r2
      clear hTr hQr hGr hDr hBR r1 r2
      go_wp2_with fail
      refine HC0.out.mono ?_; rintro e w1 ⟨rfl, hT1, hg1⟩
      have hD1 := HDr.out.kept hg1 (fun q e => by cases e; omega)
      obtain ⟨q1, T1, bp1, hq1⟩ := id HTr.out
      have hQ1 := HQr.out.turn bp1 hg1
      have hG1 := gb_trans HGr.out hg1
      have s1 := HR1.out.kept hg1 (.inr (fun e => by have := (own_typ HR1.out p e).1; omega))
      have s2 := HR2.out.kept hg1 (.inr (fun e => by have := (own_typ HR2.out p e).1; omega))
      have R1 : Rd cI 1 w1.heap.size w1 (.slice A1 bills.length c1) (bills.map (·.1)) := by
        have h1 := Rd.of_own (cv := cI) (zs := bills.map (·.1)) cI_length 0 (by rw [List.length_map]; exact s1)
        exact h1
      have R2 : Rd cI 1 w1.heap.size w1 (.slice A2 bills.length c2) (bills.map (·.2)) := by
        have h1 := Rd.of_own (cv := cI) (zs := bills.map (·.2)) cI_length 0 (by rw [List.length_map]; exact s2)
        exact h1
      have d4 := hD1.b4.cell (i := 0) rfl
      have HT1 := Lib.hid hT1; have HD1 := Lib.hid hD1; have HG1 := Lib.hid hG1; have HC := Lib.hid (HCR.out w1 hQ1 _ _ _ _ R1 R2)
      clear hT1 hD1 hG1 hQ1 bp1 hq1 hg1 s1 s2 R1 R2 d53 HC0
      go_wp2_with fail
      refine HC.out.mono ?_; rintro e w2 ⟨v', rfl, hP2, hb2⟩
      have hD2 := HD1.out.kept (W := W) (show w1.grownBy w2 none from ⟨hb2.os, hb2.tape, hb2.output, hb2.size, fun j hj _ => hb2.block j hj⟩) (fun q e => by cases e)
      have hT2 := HT1.out.below hb2
      have hG2 := gb_trans HG1.out (below_gb (p := p) hb2)
      have FIN := do_end (tt := tt) (xs := xs) (ms := ms) hD2 (Nat.le_refl _) ⟨_, _, _, rfl⟩ hT2 hp0 hP2 HX.out.1 HX.out.2.2.2 HX.out.2.1 HX.out.2.2.1 hG2
      have HF := Lib.hid FIN
      have k10 := hD2.b10.cell (i := 0) rfl
      have k10f := hD2.b10.frozen 0
      have k6 := hD2.b6.cell (i := 0) rfl
      have k6f := hD2.b6.frozen 0
      have n1 := Nat.ne_of_gt (Nat.lt_succ_self (W.heap.size + 1 + 1))
      obtain ⟨A', c', rfl, -⟩ := hP2
      clear hD2 hT2 hG2 FIN hb2 d4 HC
      go_wp2_with fail
      refine bodyPost_ret (results_ct rfl _ _ (W.heap.size + 1 + 1) 35 _ (0, 0) _ rfl HF.out.1 Try.underlying35 rfl (by kernel_rfl)) rfl ?_
      exact ⟨_, _, _, rfl, HF.out.2⟩
theorem doN_base (W : World) (ms : List Mv) (Av A : Option Addr) (cv c m : Nat) (kind party am : Int) : Blk ((((W.alloc (.cells #[.slice Av ms.length cv] 35)).alloc (.cells #[.int .i64 kind, .int .i64 party, .int .i64 am, .slice A m c] 38)).alloc (.cells #[.slice Av ms.length cv] 35)).alloc (.cells #[.slice Av ms.length cv] 35)) (W.heap.size + 1 + 1) 35 [.slice Av ms.length cv] ∧ Below W.heap.size W ((((W.alloc (.cells #[.slice Av ms.length cv] 35)).alloc (.cells #[.int .i64 kind, .int .i64 party, .int .i64 am, .slice A m c] 38)).alloc (.cells #[.slice Av ms.length cv] 35)).alloc (.cells #[.slice Av ms.length cv] 35)) := by
  obtain ⟨w1, h1⟩ : ∃ w1, W.alloc (.cells #[.slice Av ms.length cv] 35) = w1 := ⟨_, rfl⟩
  have z1 : w1.heap.size = W.heap.size + 1 := by rw [← h1]; simp
  have g1 : Below W.heap.size W w1 := by rw [← h1]; exact (Below.refl _ W).alloc (Nat.le_refl _) _
  rw [h1]
  obtain ⟨w2, h2⟩ : ∃ w2, w1.alloc (.cells #[.int .i64 kind, .int .i64 party, .int .i64 am, .slice A m c] 38) = w2 := ⟨_, rfl⟩
  have z2 : w2.heap.size = W.heap.size + 1 + 1 := by rw [← h2]; simp [z1]
  have g2 : Below W.heap.size W w2 := by rw [← h2]; exact g1.alloc (by omega) _
  rw [h2]
  obtain ⟨w3, h3⟩ : ∃ w3, w2.alloc (.cells #[.slice Av ms.length cv] 35) = w3 := ⟨_, rfl⟩
  have z3 : w3.heap.size = W.heap.size + 1 + 1 + 1 := by rw [← h3]; simp [z2]
  have b3 : Blk w3 (W.heap.size + 1 + 1) 35 [.slice Av ms.length cv] := by rw [← h3, ← z2]; exact Blk.new w2 _ _
  have g3 : Below W.heap.size W w3 := by rw [← h3]; exact g2.alloc (by omega) _
  rw [h3]
  exact ⟨b3.alloc _, g3.alloc (by omega) _⟩
set_option maxHeartbeats 8000000 in
set_option maxRecDepth 100000 in
theorem doN_any (W : World) (p : Nat) (xs : Bs) (ms : List Mv) (v : Value) (kind party am : Int) (A : Option Addr) (c : Nat) (bills : List (Int × Int)) {tt : TypeId} (htt : tt ≠ tN) (h : TMg tt W p xs) (hP : PM W v ms) (hR : Rel xs ms) (hlx : xs.length ≤ 100000) (hlm : ms.length ≤ 100000) (h0 : kind ≠ 0) (h1 : kind ≠ 1) (h2 : kind ≠ 2) (h3 : kind ≠ 3) (h4 : kind ≠ 4) (h5 : kind ≠ 5) (h6 : kind ≠ 6) :
    Calls Try.prog 13 #[.pointer (some ⟨p, 0, none⟩), .agg #[v], .agg #[.int .i64 kind, .int .i64 party, .int .i64 am, .slice A bills.length c]] W (DoOk W p tt xs ms) := by
  obtain ⟨Av, cv, rfl, hlv, -⟩ := id hP
  have hp0 := h.lt
  obtain ⟨hD, hB⟩ := doN_base W ms Av A cv c bills.length kind party am
  have HD := Lib.hid hD; have HB := Lib.hid hB; have HT := Lib.hid h; have HP := Lib.hid hP
  clear hD hB h hP
  go_enter Try.func13, Try.ntmps13
  go_wp2_with fail
  refine bodyPost_ret (results_ct rfl _ _ (W.heap.size + 1 + 1) 35 _ (0, 0) _ rfl HD.out Try.underlying35 rfl (by kernel_rfl)) rfl ?_
  exact ⟨_, xs, ms, rfl, HT.out.below HB.out, HP.out.below HB.out, hR, id, by omega, by omega, below_gb HB.out⟩
set_option maxRecDepth 100000 in
theorem do_any (W : World) (p : Nat) (xs : Bs) (ms : List Mv) (v : Value) (kind party am : Int) (A : Option Addr) (c : Nat) (bills : List (Int × Int)) {tt : TypeId} (htt : tt ≠ tN) (h : TMg tt W p xs) (hP : PM W v ms) (hR : Rel xs ms) (hlx : xs.length ≤ 100000) (hlm : ms.length ≤ 100000) (hn : bills.length ≤ 8) (hRb : Rd cB 2 W.heap.size W (.slice A bills.length c) bills) :
    Calls Try.prog 13 #[.pointer (some ⟨p, 0, none⟩), .agg #[v], .agg #[.int .i64 kind, .int .i64 party, .int .i64 am, .slice A bills.length c]] W (DoOk W p tt xs ms) := by
  by_cases h0 : kind = 0
  · subst h0; exact do0_any W p xs ms v party am A c bills htt h hP hR hlx hlm
  by_cases h1 : kind = 1
  · subst h1; exact do1_any W p xs ms v party am A c bills htt h hP hR hlx hlm
  by_cases h2 : kind = 2
  · subst h2; exact do2_any W p xs ms v party am A c bills htt h hP hR hlx hlm
  by_cases h3 : kind = 3
  · subst h3; exact do3_any W p xs ms v party am A c bills htt h hP hR hlx hlm
  by_cases h4 : kind = 4
  · subst h4; exact do4_any W p xs ms v party am A c bills htt h hP hR hlx hlm
  by_cases h5 : kind = 5
  · subst h5; exact do5_any W p xs ms v party am A c bills htt h hP hR hlx hlm
  by_cases h6 : kind = 6
  · subst h6; exact do6_any W p xs ms v party am A c bills htt h hP hR hlx hlm hn hRb
  exact doN_any W p xs ms v kind party am A c bills htt h hP hR hlx hlm h0 h1 h2 h3 h4 h5 h6

end Go.Proofs.Ytmdacfgofilbdaa.Led
