/- hold: a step of both purses. -/
import Derived.Test.YtmdacfgofilbdaaHoldY
import Derived.Test.YtmdacfgofilbdaaLed4
import Derived.Deep.RegionHeld3
set_option linter.unusedSimpArgs false
set_option linter.unusedVariables false
namespace Go.Proofs.Ytmdacfgofilbdaa.Led
open Go.RowKit Go.Proofs.Ytmdacfgofilbdaa.TabL Go.Proofs.YtmdacfgofilbdaaW.PrintWords Go.Proofs.Ytmdacfgofilbdaa.PHoldPlays
open Go.Proofs.Ytmdacfgofilbdaa.TabB (ltI lin getV TMg)
attribute [local go_sem] Oper.semAt_some

/-- behind a write of a block that holds a pointer -/
theorem PM.turn {W W' : World} {v : Value} {l : List Mv} {b : Nat} {t : TypeId} {q : Option Addr} (h : PM W v l) (hb : Blk W b t [.pointer q]) (hg : W.grownBy W' (some b)) : PM W' v l := by
  cases l with
  | nil =>
    obtain ⟨A, c, rfl, h1, h2⟩ := h
    exact ⟨A, c, rfl, h1, h2.1, h2.2.1, fun hpos => absurd hpos (by simp)⟩
  | cons m l =>
    obtain ⟨b', off, c', e, hc, -, -⟩ := h.at (j := 0) rfl
    refine h.other (fun hk => ?_) hg
    rw [e] at hk
    obtain rfl : b' = b := by simpa [Value.ownBlock] using hk
    have hc' : [Value.pointer q][off + 0 * 3]? = some (.int .i64 m.1) := by
      have := cell_of_row W b' (off + 0 * 3) [Value.pointer q].toArray t (0, 0) hb
      rw [this] at hc
      simpa using hc
    have hlt := (List.getElem?_eq_some_iff.1 hc').1
    have h0 : off + 0 * 3 = 0 := by simp at hlt; omega
    rw [h0] at hc'
    simp at hc'
theorem Rel.bnd {xs : Bs} {ms : List Mv} (h : Rel xs ms) : Bnd xs := fun a => by rw [h.get a]; exact h.good.bnd a
theorem Rel.fn {xs : Bs} {ms : List Mv} (h : Rel xs ms) : getV xs = bal ms := funext h.get
theorem Rel.set {xs : Bs} {ms : List Mv} (h : Rel xs ms) (who n : Int) : setE xs who n = rsetE ms who n ∧ Rel (setB xs who n) (rsetL ms who n) := by
  have e : setM xs who n = setMb (bal ms) who n := by rw [← h.fn]; rfl
  unfold setE rsetE setB rsetL
  rw [e, h.fn]
  by_cases hc : partyA who = false ∨ rightM n = false
  · simp only [if_pos hc]; exact ⟨trivial, h⟩
  · simp only [if_neg hc]; exact ⟨trivial, h.step _⟩
/-- nothing more is held than an amount may be -/
def HeldO (xs : Bs) : Prop := ∀ who, partyA who = true → getV xs (2 * who + 1) ≤ 1099511627776
theorem getV_moveL {xs : Bs} {m : Mv} (h : moveE (getV xs) m = 0) (a : Int) : getV (moveL xs m) a = if a = m.2.1 then getV xs m.2.1 + m.2.2 else if a = m.1 then getV xs m.1 - m.2.2 else getV xs a := by
  obtain ⟨_, _, hne, _⟩ := moveE_zero h
  unfold moveL
  rw [if_pos h, getV_setL, getV_setL]
theorem moveL_no {xs : Bs} {m : Mv} (h : moveE (getV xs) m ≠ 0) : moveL xs m = xs := by unfold moveL; rw [if_neg h]
theorem HeldO.nil : HeldO [] := fun who _ => by unfold getV getL; simp
theorem HeldO.move {xs : Bs} (h : HeldO xs) {m : Mv} (ht : ∀ who, partyA who = true → m.2.1 ≠ 2 * who + 1) : HeldO (moveL xs m) := by
  by_cases h0 : moveE (getV xs) m = 0
  · obtain ⟨_, _, hne, hr, _⟩ := moveE_zero h0
    unfold rightM at hr
    simp only [Bool.and_eq_true, decide_eq_true_eq] at hr
    intro who hp
    have h1 := h who hp
    rw [getV_moveL h0, if_neg (Ne.symm (ht who hp))]
    by_cases e : 2 * who + 1 = m.1
    · rw [if_pos e, ← e]; omega
    · rw [if_neg e]; exact h1
  · rw [moveL_no h0]; exact h
theorem HeldO.set {xs : Bs} (h : HeldO xs) (p n : Int) : HeldO (setB xs p n) := by
  unfold setB
  by_cases hc : partyA p = false ∨ rightM n = false
  · rw [if_pos hc]; exact h
  · rw [if_neg hc]
    simp only [not_or, Bool.not_eq_false] at hc
    obtain ⟨hp, hr⟩ := hc
    unfold rightM at hr
    simp only [Bool.and_eq_true, decide_eq_true_eq] at hr
    have ef : freeA p = 2 * p := by unfold freeA; rw [hp]; rfl
    have eh : holdA p = 2 * p + 1 := by unfold holdA; rw [hp]; rfl
    unfold setM
    rw [ef, eh]
    split
    · by_cases h0 : moveE (getV xs) (2 * p, 2 * p + 1, n - getV xs (2 * p + 1)) = 0
      · intro who hw
        rw [getV_moveL h0]
        dsimp only
        by_cases e : 2 * who + 1 = 2 * p + 1
        · rw [if_pos e]; omega
        · rw [if_neg e, if_neg (by omega)]; exact h who hw
      · rw [moveL_no h0]; exact h
    · exact h.move (fun who hw => by dsimp only; omega)
theorem HeldO.moves : ∀ (l : List Mv) {xs : Bs}, HeldO xs → (∀ m ∈ l, m.2.1 = 1) → HeldO (movesL xs l).2
  | [], xs, h, _ => h
  | m :: r, xs, h, ht => by
    unfold movesL
    split
    · exact HeldO.moves r (h.move (fun who hp => by have := party_bnd hp; have := ht m (List.mem_cons_self ..); omega)) (fun m' hm => ht m' (List.mem_cons_of_mem _ hm))
    · exact h
theorem HeldO.all {xs : Bs} (h : HeldO xs) (bills : List (Int × Int)) : HeldO (allL xs (bms bills)) := by
  unfold allL
  split
  · exact HeldO.moves _ h (fun m hm => by
      unfold bms at hm
      obtain ⟨b, _, rfl⟩ := List.mem_map.1 hm
      rfl)
  · exact h
/-- what all steps keep of balances -/
def HeldOk (xs : Bs) : Prop := HeldO xs ∧ Clean xs
theorem HeldOk.nil : HeldOk [] := ⟨HeldO.nil, Clean.nil⟩
theorem HeldOk.move {xs : Bs} (h : HeldOk xs) {m : Mv} (ht : ∀ who, partyA who = true → m.2.1 ≠ 2 * who + 1) : HeldOk (moveL xs m) := ⟨h.1.move ht, h.2.move m⟩
theorem HeldOk.set {xs : Bs} (h : HeldOk xs) (p n : Int) : HeldOk (setB xs p n) := ⟨h.1.set p n, by
  unfold setB
  split
  · exact h.2
  · exact h.2.move _⟩
theorem Clean.moves : ∀ (l : List Mv) {xs : Bs}, Clean xs → Clean (movesL xs l).2
  | [], xs, h => h
  | m :: r, xs, h => by
    unfold movesL
    split
    · exact Clean.moves r (h.move m)
    · exact h
theorem Clean.all {xs : Bs} (h : Clean xs) (l : List Mv) : Clean (allL xs l) := by
  unfold allL
  split
  · exact Clean.moves l h
  · exact h
theorem HeldOk.all {xs : Bs} (h : HeldOk xs) (bills : List (Int × Int)) : HeldOk (allL xs (bms bills)) := ⟨h.1.all bills, h.2.all _⟩
/-- what a step leaves of both -/
structure DoPost (W : World) (p : Nat) (tt : TypeId) (xs : Bs) (ms : List Mv) (xs' : Bs) (ms' : List Mv) (v' : Value) (w' : World) : Prop where
  tm : TMg tt w' p xs'
  pm : PM w' v' ms'
  rel : Rel xs' ms'
  hok : HeldOk xs → HeldOk xs'
  lx : xs'.length ≤ xs.length + 16
  lm : ms'.length ≤ ms.length + 8
  grown : W.grownBy w' (some p)
/-- the ground that a step stands on behind its entry -/
structure DoBase (W : World) (n : Nat) (v : Value) (kind party am : Int) (b : Value) (w : World) : Prop where
  b4 : Blk w n 35 [v]
  b5 : Blk w (n + 1) 38 [.int .i64 kind, .int .i64 party, .int .i64 am, b]
  b6 : Blk w (n + 1 + 1) 35 [.slice none 0 0]
  b10 : Blk w (n + 1 + 1 + 1) 35 [v]
theorem DoBase.kept {W w w' : World} {n : Nat} {v b : Value} {kind party am : Int} {r : Option Nat} (h : DoBase W n v kind party am b w) (hg : w.grownBy w' r) (hr : ∀ p, r = some p → p < n) : DoBase W n v kind party am b w' :=
  ⟨h.b4.kept hg (fun e => by have := hr _ e.symm; omega), h.b5.kept hg (fun e => by have := hr _ e.symm; omega), h.b6.kept hg (fun e => by have := hr _ e.symm; omega), h.b10.kept hg (fun e => by have := hr _ e.symm; omega)⟩
theorem gb_trans {A B C : World} {p : Nat} (h : A.grownBy B (some p)) (k : B.grownBy C (some p)) : A.grownBy C (some p) :=
  ⟨k.os.trans h.os, k.tape.trans h.tape, k.output.trans h.output, Nat.le_trans h.size k.size, fun j hj hne => (k.block j (Nat.lt_of_lt_of_le hj h.size) hne).trans (h.block j hj hne)⟩
end Go.Proofs.Ytmdacfgofilbdaa.Led

/- hold: the other steps of both purses. -/
set_option linter.unusedSimpArgs false
set_option linter.unusedVariables false
namespace Go.Proofs.Ytmdacfgofilbdaa.Led
open Go.RowKit Go.Proofs.Ytmdacfgofilbdaa.TabL Go.Proofs.YtmdacfgofilbdaaW.PrintWords Go.Proofs.Ytmdacfgofilbdaa.PHoldPlays
open Go.Proofs.Ytmdacfgofilbdaa.TabB (ltI lin getV TMg)
attribute [local go_sem] Oper.semAt_some

theorem DoPost.drew {W w' : World} {p : Nat} {tt : TypeId} {xs xs' : Bs} {ms ms' : List Mv} {v' : Value} (h : DoPost W p tt xs ms xs' ms' v' w') : DoPost W p tt xs ms xs' ms' v' w'.drew :=
  ⟨h.tm.below (Below.refl _ _).drew, h.pm.below (Below.refl _ _).drew, h.rel, h.hok, h.lx, h.lm, gb_trans h.grown (below_gb (Below.refl _ _).drew)⟩
theorem own_ne {W : World} {b1 b2 s1 s2 n1 n2 : Nat} {e1 e2 : TypeId} {v1 v2 : Value} {x1 x2 : List Value} (h1 : W.ownsRow b1 e1 s1 v1 n1 x1) (h2 : W.ownsRow b2 e2 s2 v2 n2 x2) (he : e1 ≠ e2) : v1.ownBlock = none ∨ v1.ownBlock ≠ v2.ownBlock := by
  cases h : v1.ownBlock with
  | none => exact .inl rfl
  | some k =>
    refine .inr (fun e => ?_)
    obtain ⟨_, c1, f1, q1⟩ := own_typ h1 k h
    obtain ⟨_, c2, f2, q2⟩ := own_typ h2 k e.symm
    rw [q1] at q2
    simp at q2
    exact he q2.2.1
/-- the two rows that the bills are laid into -/
structure BR (w0 : World) (bills : List (Int × Int)) (k : Nat) (v16 v17 : Value) (w : World) : Prop where
  r1 : w.ownsRow w0.heap.size 3 1 v16 k (cellsOf cI ((bills.map (·.1)).take k))
  r2 : w.ownsRow w0.heap.size 2 1 v17 k (cellsOf cI ((bills.map (·.2)).take k))
  b : Below w0.heap.size w0 w
theorem BR.alloc {w0 : World} {bills : List (Int × Int)} {k : Nat} {v16 v17 : Value} {w : World} (h : BR w0 bills k v16 v17 w) (o : Obj) : BR w0 bills k v16 v17 (w.alloc o) := ⟨h.r1.alloc o, h.r2.alloc o, h.b.alloc h.b.size o⟩
theorem BR.drew {w0 : World} {bills : List (Int × Int)} {k : Nat} {v16 v17 : Value} {w : World} (h : BR w0 bills k v16 v17 w) : BR w0 bills k v16 v17 w.drew := ⟨h.r1, h.r2, h.b.drew⟩
/-- behind the first append -/
structure BR1 (w0 : World) (bills : List (Int × Int)) (k : Nat) (v16 v17 : Value) (w : World) : Prop where
  r1 : w.ownsRow w0.heap.size 3 1 v16 (k + 1) (cellsOf cI ((bills.map (·.1)).take (k + 1)))
  r2 : w.ownsRow w0.heap.size 2 1 v17 k (cellsOf cI ((bills.map (·.2)).take k))
  b : Below w0.heap.size w0 w
theorem BR1.alloc {w0 : World} {bills : List (Int × Int)} {k : Nat} {v16 v17 : Value} {w : World} (h : BR1 w0 bills k v16 v17 w) (o : Obj) : BR1 w0 bills k v16 v17 (w.alloc o) := ⟨h.r1.alloc o, h.r2.alloc o, h.b.alloc h.b.size o⟩
theorem BR.one {w0 : World} {bills : List (Int × Int)} {k : Nat} {v16 v16' v17 : Value} {w w' : World} {o : Int × Int} (h : BR w0 bills k v16 v17 w) (hk : bills[k]? = some o) (h1 : w'.ownsRow w0.heap.size 3 1 v16' (k + 1) (cellsOf cI ((bills.map (·.1)).take k) ++ [.int .i64 o.1])) (hg : w.grownBy w' v16.ownBlock) : BR1 w0 bills k v16' v17 w' := by
  have hkl := (List.getElem?_eq_some_iff.1 hk).1
  refine ⟨?_, h.r2.kept hg (own_ne h.r2 h.r1 (by decide)), h.b.grown hg h.b.size (fun r e => (own_typ h.r1 r e).1)⟩
  rw [List.take_succ_eq_append_getElem (by simpa using hkl), cellsOf_append, cellsOf_one, List.getElem_map, (List.getElem?_eq_some_iff.1 hk).2]
  exact h1
theorem BR1.two {w0 : World} {bills : List (Int × Int)} {k : Nat} {v16 v17 v17' : Value} {w w' : World} {o : Int × Int} (h : BR1 w0 bills k v16 v17 w) (hk : bills[k]? = some o) (h1 : w'.ownsRow w0.heap.size 2 1 v17' (k + 1) (cellsOf cI ((bills.map (·.2)).take k) ++ [.int .i64 o.2])) (hg : w.grownBy w' v17.ownBlock) : BR w0 bills (k + 1) v16 v17' w' := by
  have hkl := (List.getElem?_eq_some_iff.1 hk).1
  refine ⟨h.r1.kept hg (own_ne h.r1 h.r2 (by decide)), ?_, h.b.grown hg h.b.size (fun r e => (own_typ h.r2 r e).1)⟩
  rw [List.take_succ_eq_append_getElem (by simpa using hkl), cellsOf_append, cellsOf_one, List.getElem_map, (List.getElem?_eq_some_iff.1 hk).2]
  exact h1
end Go.Proofs.Ytmdacfgofilbdaa.Led
