/- ledger, in plain words: balances as a rising list, moves one after the other. -/
import Derived.Test.YtmdacfgofilbdaaTabB9
import Derived.Test.YtmdacfgofilbdaaPHoldPlaysx1
import Derived.Test.YtmdacfgofilbdaaOpen
set_option linter.unusedSimpArgs false
set_option linter.unusedVariables false
namespace Go.Proofs.Ytmdacfgofilbdaa.Led
open Go.Proofs.Ytmdacfgofilbdaa.TabL
open Go.Proofs.Ytmdacfgofilbdaa.TabB (ltI lin getV)

section
variable {K V : Type} {lt : K → K → Bool}
theorem eq_iff (ho : Lin lt) (a b : K) : (lt a b || lt b a) = false ↔ a = b := by
  constructor
  · intro h
    rw [Bool.or_eq_false_iff] at h
    exact ho.tot h.1 h.2
  · rintro rfl
    simp [ho.irr]
theorem getL_putL [DecidableEq K] (ho : Lin lt) (k j : K) (v : V) : ∀ l : List (K × V), getL lt (putL lt l k v) j = if j = k then some v else getL lt l j
  | [] => by
    unfold putL getL
    by_cases h : j = k
    · subst h; simp [ho.irr]
    · rw [if_neg h]
      have : (lt k j || lt j k) = true := by
        cases hc : (lt k j || lt j k)
        · exact absurd ((eq_iff ho k j).1 hc).symm h
        · rfl
      rw [if_pos this]
      rfl
  | p :: r => by
    have hcase : ∀ a b : K, a ≠ b → (lt a b || lt b a) = true := fun a b h => by
      cases hc : (lt a b || lt b a)
      · exact absurd ((eq_iff ho a b).1 hc) h
      · rfl
    unfold putL
    split
    · rw [getL]
      by_cases h : j = k
      · subst h; simp [ho.irr]
      · rw [if_neg h, if_pos (hcase k j (Ne.symm h))]
    · split
      · rename_i h1 h2
        rw [getL, getL, getL_putL ho k j v r]
        by_cases h : j = k
        · subst h; rw [if_pos rfl, if_pos rfl, h2, Bool.true_or, if_pos rfl]
        · rw [if_neg h, if_neg h]
      · rename_i h1 h2
        have hk : k = p.1 := ho.tot (by simpa using h1) (by simpa using h2)
        subst hk
        rw [getL, getL]
        by_cases h : j = p.1
        · subst h; simp [ho.irr]
        · rw [if_neg h, if_pos (hcase _ _ (Ne.symm h)), if_pos (hcase _ _ (Ne.symm h))]
theorem getL_dropL [DecidableEq K] (ho : Lin lt) (k j : K) : ∀ l : List (K × V), getL lt (dropL lt l k) j = if j = k then none else getL lt l j
  | [] => by unfold dropL getL; simp
  | p :: r => by
    have ih := getL_dropL ho k j r
    have e : dropL lt (p :: r) k = if (lt p.1 k || lt k p.1) = true then p :: dropL lt r k else dropL lt r k := by unfold dropL; rw [List.filter_cons]
    rw [e]
    split
    · rename_i h1
      rw [getL, getL, ih]
      by_cases h : j = k
      · subst h; rw [if_pos h1, if_pos rfl, if_pos rfl]
      · rw [if_neg h, if_neg h]
    · rename_i h1
      have hk : p.1 = k := (eq_iff ho p.1 k).1 (by simpa using h1)
      rw [ih]
      by_cases h : j = k
      · rw [if_pos h, if_pos h]
      · rw [if_neg h, if_neg h, getL]
        have : (lt p.1 j || lt j p.1) = true := by
          cases hc : (lt p.1 j || lt j p.1)
          · exact absurd (((eq_iff ho p.1 j).1 hc).symm.trans hk) h
          · rfl
        rw [if_pos this]
end

abbrev Bs := List (Int × Int)
/-- a balance is set -/
def setL (xs : Bs) (k n : Int) : Bs := if n = 0 then dropL ltI xs k else putL ltI xs k n
theorem setL_sd {xs : Bs} (h : Sd ltI xs) (k n : Int) : Sd ltI (setL xs k n) := by
  unfold setL
  split
  · exact dropL_sd h k
  · exact putL_sd lin h k n
theorem getV_setL (xs : Bs) (k n j : Int) : getV (setL xs k n) j = if j = k then n else getV xs j := by
  unfold setL
  by_cases h : n = 0
  · rw [if_pos h]
    unfold getV
    rw [getL_dropL lin]
    by_cases hj : j = k
    · rw [if_pos hj, if_pos hj, h]
    · rw [if_neg hj, if_neg hj]
  · rw [if_neg h]
    unfold getV
    rw [getL_putL lin]
    by_cases hj : j = k
    · rw [if_pos hj, if_pos hj]
    · rw [if_neg hj, if_neg hj]
theorem setL_len (xs : Bs) (k n : Int) : (setL xs k n).length ≤ xs.length + 1 := by
  unfold setL
  split
  · exact Nat.le_trans (List.length_filter_le _ _) (Nat.le_succ _)
  · exact TabB.putL_len xs k n

abbrev Mv := Int × Int × Int
def rightA (a : Int) : Bool := decide (a = 0) || decide (a = 1) || (decide (4 ≤ a) && decide (a ≤ 2001))
def rightM (n : Int) : Bool := decide (0 ≤ n) && decide (n ≤ 1099511627776)
/-- the error's number of a move, over balances -/
def moveE (b : Int → Int) (m : Mv) : Int :=
  if rightA m.1 = false ∨ rightA m.2.1 = false ∨ m.1 = m.2.1 ∨ rightM m.2.2 = false then 1
  else if m.1 ≠ 0 ∧ b m.1 - m.2.2 < 0 then 40
  else if b m.1 - m.2.2 < -70368744177664 ∨ 70368744177664 < b m.2.1 + m.2.2 then 2
  else 0
/-- the balances behind a move -/
def moveL (xs : Bs) (m : Mv) : Bs := if moveE (getV xs) m = 0 then setL (setL xs m.1 (getV xs m.1 - m.2.2)) m.2.1 (getV xs m.2.1 + m.2.2) else xs
theorem moveL_sd {xs : Bs} (h : Sd ltI xs) (m : Mv) : Sd ltI (moveL xs m) := by
  unfold moveL
  split
  · exact setL_sd (setL_sd h _ _) _ _
  · exact h
theorem moveL_len (xs : Bs) (m : Mv) : (moveL xs m).length ≤ xs.length + 2 := by
  unfold moveL
  split
  · have h1 := setL_len xs m.1 (getV xs m.1 - m.2.2)
    have h2 := setL_len (setL xs m.1 (getV xs m.1 - m.2.2)) m.2.1 (getV xs m.2.1 + m.2.2)
    omega
  · omega

/-- what one move adds to an account -/
def part (m : Mv) (a : Int) : Int := (if m.1 = a then -m.2.2 else 0) + (if m.2.1 = a then m.2.2 else 0)
def bal (ms : List Mv) (a : Int) : Int := ms.foldl (fun o m => o + part m a) 0
theorem bal_snoc (ms : List Mv) (m : Mv) (a : Int) : bal (ms ++ [m]) a = bal ms a + part m a := by
  unfold bal
  rw [List.foldl_append]
  rfl
/-- the moves with one more -/
def tryL (ms : List Mv) (m : Mv) : List Mv := if moveE (bal ms) m = 0 then ms ++ [m] else ms
/-- behind each of them all balances are within the bound -/
inductive Good : List Mv → Prop
  | nil : Good []
  | snoc {ms : List Mv} {m : Mv} : Good ms → moveE (bal ms) m = 0 → Good (ms ++ [m])
theorem moveE_zero {b : Int → Int} {m : Mv} (h : moveE b m = 0) : rightA m.1 = true ∧ rightA m.2.1 = true ∧ m.1 ≠ m.2.1 ∧ rightM m.2.2 = true ∧ (m.1 ≠ 0 → 0 ≤ b m.1 - m.2.2) ∧ -70368744177664 ≤ b m.1 - m.2.2 ∧ b m.2.1 + m.2.2 ≤ 70368744177664 := by
  unfold moveE at h
  split at h
  · cases h
  · rename_i h1
    split at h
    · cases h
    · rename_i h2
      split at h
      · cases h
      · rename_i h3
        simp only [not_or, Bool.not_eq_false] at h1 h3
        exact ⟨h1.1, h1.2.1, h1.2.2.1, h1.2.2.2, fun hm => by
          by_cases hh : b m.1 - m.2.2 < 0
          · exact absurd ⟨hm, hh⟩ h2
          · omega, by omega, by omega⟩
theorem Good.bnd {ms : List Mv} (h : Good ms) : ∀ a, -70368744177664 ≤ bal ms a ∧ bal ms a ≤ 70368744177664 := by
  induction h with
  | nil => intro a; unfold bal; simp
  | snoc hg he ih =>
    rename_i ms m
    intro a
    obtain ⟨_, _, hne, hr, _, h1, h2⟩ := moveE_zero he
    unfold rightM at hr
    simp only [Bool.and_eq_true, decide_eq_true_eq] at hr
    have := ih a
    have i1 := ih m.1
    have i2 := ih m.2.1
    rw [bal_snoc]
    unfold part
    by_cases ha : m.1 = a
    · subst ha
      rw [if_pos rfl, if_neg (Ne.symm hne)]
      omega
    · rw [if_neg ha]
      by_cases hb : m.2.1 = a
      · subst hb
        rw [if_pos rfl]
        omega
      · rw [if_neg hb]
        omega
theorem Good.tryL {ms : List Mv} (h : Good ms) (m : Mv) : Good (tryL ms m) := by
  unfold Led.tryL
  split
  · rename_i he; exact Good.snoc h he
  · exact h
/-- the ledger and the moves say the same -/
structure Rel (xs : Bs) (ms : List Mv) : Prop where
  sd : Sd ltI xs
  get : ∀ a, getV xs a = bal ms a
  good : Good ms
theorem Rel.nil : Rel [] [] := ⟨List.Pairwise.nil, fun a => rfl, Good.nil⟩
theorem Rel.moveE {xs : Bs} {ms : List Mv} (h : Rel xs ms) (m : Mv) : moveE (getV xs) m = moveE (bal ms) m := by
  rw [show getV xs = bal ms from funext h.get]
theorem Rel.step {xs : Bs} {ms : List Mv} (h : Rel xs ms) (m : Mv) : Rel (moveL xs m) (tryL ms m) := by
  have he := h.moveE m
  refine ⟨moveL_sd h.sd m, fun a => ?_, h.good.tryL m⟩
  unfold moveL tryL
  rw [he]
  split
  · rename_i h0
    obtain ⟨_, _, hne, _⟩ := moveE_zero h0
    rw [getV_setL, getV_setL, bal_snoc, h.get, h.get, h.get]
    unfold part
    by_cases hb : a = m.2.1
    · subst hb
      rw [if_pos rfl, if_neg hne, if_pos rfl]
      omega
    · rw [if_neg hb]
      by_cases ha : a = m.1
      · subst ha
        rw [if_pos rfl, if_pos rfl, if_neg (Ne.symm hb)]
        omega
      · rw [if_neg ha, if_neg (Ne.symm ha), if_neg (Ne.symm hb)]
        omega
  · exact h.get a

end Go.Proofs.Ytmdacfgofilbdaa.Led

/- ledger: its functions. -/
set_option linter.unusedSimpArgs false
set_option linter.unusedVariables false
namespace Go.Proofs.Ytmdacfgofilbdaa.Led
open Go.RowKit Go.Proofs.Ytmdacfgofilbdaa.TabL Go.Proofs.YtmdacfgofilbdaaW.PrintWords Go.Proofs.Ytmdacfgofilbdaa.PHoldPlays
open Go.Proofs.Ytmdacfgofilbdaa.TabB (ltI lin getV TMg)

def w64 (a : Int) : Prop := -9223372036854775808 ≤ a ∧ a ≤ 9223372036854775807
theorem right_f (a : Int) (h : w64 a) : ledger_Right.f a = some (rightA a) := by
  unfold ledger_Right.f rightA ledger_party.f
  unfold w64 at h
  by_cases h0 : a = 0
  · subst h0; rfl
  · rw [if_neg h0]
    by_cases h1 : a = 1
    · subst h1; rfl
    · rw [if_neg h1]
      by_cases h2 : a ≥ 0
      · rw [if_pos h2]
        have hd : Int.tdiv a 2 = a / 2 := Int.tdiv_eq_ediv_of_nonneg h2
        rw [hd, show wrap64 (a / 2) = a / 2 from by unfold wrap64; omega]
        by_cases h3 : a / 2 ≥ 2
        · rw [if_pos h3]
          have e1 : decide (a / 2 ≤ 1000) = decide (a ≤ 2001) := decide_eq_decide.2 (by omega)
          have e2 : decide (4 ≤ a) = true := decide_eq_true (by omega)
          simp [h0, h1, e1, e2]
        · rw [if_neg h3]
          have e2 : decide (4 ≤ a) = false := decide_eq_false (by omega)
          simp [h0, h1, e2]
      · rw [if_neg h2]
        have e2 : decide (4 ≤ a) = false := decide_eq_false (by omega)
        simp [h0, h1, e2]
theorem right_any (W : World) (a : Int) (h : w64 a) : Calls Try.prog 35 #[.int .i64 a] W fun e w' => e = .returned (.bool (rightA a)) ∧ Below W.heap.size W w' :=
  (ledger_Right.calls a _ W (right_f a h)).mono fun _ _ ⟨x, y⟩ => ⟨x, y.below⟩
theorem rightM_any (W : World) (n : Int) : Calls Try.prog 62 #[.int .i64 n] W fun e w' => e = .returned (.bool (rightM n)) ∧ Below W.heap.size W w' := by
  refine (money_Right.calls n (rightM n) W ?_).mono fun _ _ ⟨x, y⟩ => ⟨x, y.below⟩
  unfold money_Right.f rightM
  by_cases h : n ≥ 0
  · rw [if_pos h, decide_eq_true (show 0 ≤ n from h), Bool.true_and]
  · rw [if_neg h, decide_eq_false (show ¬ 0 ≤ n from h), Bool.false_and]
def partyA (p : Int) : Bool := decide (2 ≤ p) && decide (p ≤ 1000)
def freeA (p : Int) : Int := if partyA p = true then 2 * p else -1
def holdA (p : Int) : Int := if partyA p = true then 2 * p + 1 else -1
theorem party_f (p : Int) : ledger_party.f p = some (partyA p) := by
  unfold ledger_party.f partyA
  by_cases h : p ≥ 2
  · rw [if_pos h, decide_eq_true (show 2 ≤ p from h), Bool.true_and]
  · rw [if_neg h, decide_eq_false (show ¬ 2 ≤ p from h), Bool.false_and]
theorem party_bnd {p : Int} (h : partyA p = true) : 2 ≤ p ∧ p ≤ 1000 := by unfold partyA at h; simpa using h
theorem free_any (W : World) (p : Int) : Calls Try.prog 47 #[.int .i64 p] W fun e w' => e = .returned (.int .i64 (freeA p)) ∧ Below W.heap.size W w' := by
  refine (ledger_Free.calls p (freeA p) W ?_).mono fun _ _ ⟨x, y⟩ => ⟨x, y.below⟩
  unfold ledger_Free.f freeA
  rw [party_f]
  cases h : partyA p
  · rfl
  · have := party_bnd h
    show some (wrap64 (2 * p)) = some (2 * p)
    rw [show wrap64 (2 * p) = 2 * p from by unfold wrap64; omega]
theorem hold_any (W : World) (p : Int) : Calls Try.prog 48 #[.int .i64 p] W fun e w' => e = .returned (.int .i64 (holdA p)) ∧ Below W.heap.size W w' := by
  refine (ledger_Hold.calls p (holdA p) W ?_).mono fun _ _ ⟨x, y⟩ => ⟨x, y.below⟩
  unfold ledger_Hold.f holdA
  rw [party_f]
  cases h : partyA p
  · rfl
  · have := party_bnd h
    show some (wrap64 (wrap64 (2 * p) + 1)) = some (2 * p + 1)
    rw [show wrap64 (2 * p) = 2 * p from by unfold wrap64; omega, show wrap64 (2 * p + 1) = 2 * p + 1 from by unfold wrap64; omega]

abbrev tN : TypeId := 145
set_option maxRecDepth 100000 in
set_option maxHeartbeats 4000000 in
theorem balance_any (W : World) (p : Nat) (xs : Bs) (a : Int) {tt : TypeId} (htt : tt ≠ tN) (h : TMg tt W p xs) (hs : Sd ltI xs) :
    Calls Try.prog 37 #[.pointer (some ⟨p, 0, none⟩), .int .i64 a] W fun e w' => e = .returned (.int .i64 (getV xs a)) ∧ W = w' := by
  have HG := Lib.hid (TabB.get_any W p xs a htt h hs)
  clear h hs
  go_enter Try.func37, Try.ntmps37
  go_wp2_with fail
  refine HG.out.mono ?_; rintro e w1 ⟨rfl, rfl⟩
  go_wp2_with fail
  go_ret
  exact ⟨rfl, rfl⟩
set_option maxRecDepth 100000 in
set_option maxHeartbeats 4000000 in
theorem set_any (W : World) (p : Nat) (xs : Bs) (a n : Int) {tt : TypeId} (htt : tt ≠ tN) (h : TMg tt W p xs) (hs : Sd ltI xs) (hl : xs.length < 1099511627776) :
    Calls Try.prog 77 #[.pointer (some ⟨p, 0, none⟩), .int .i64 a, .int .i64 n] W fun e w' => e = .returned (.tuple #[]) ∧ TMg tt w' p (setL xs a n) ∧ W.grownBy w' (some p) := by
  unfold setL
  by_cases hn : n = 0
  · rw [if_pos hn]
    have HD := Lib.hid (TabB.dropM_any W p xs a htt h hs (by omega))
    subst hn
    clear h hs
    go_enter Try.func77, Try.ntmps77
    go_wp2_with fail
    refine HD.out.mono ?_; rintro e w1 ⟨rfl, hT, hg⟩
    go_wp2_with fail
    exact bodyPost_ret (v := .tuple #[]) (by simp [results, Try.f77, go_sem]) rfl ⟨rfl, hT, hg⟩
  · rw [if_neg hn]
    have HD := Lib.hid (TabB.putM_any W p xs a n htt h hs hl)
    clear h hs
    go_enter Try.func77, Try.ntmps77
    go_wp2_with fail
    refine HD.out.mono ?_; rintro e w1 ⟨rfl, hT, hg⟩
    go_wp2_with fail
    go_end0
    exact ⟨rfl, hT, hg⟩

theorem gb_below {W w1 w2 : World} {p : Nat} (hb : Below W.heap.size W w1) (h : w1.grownBy w2 (some p)) : W.grownBy w2 (some p) := TabB.gb_below hb h
theorem below_gb {W w1 : World} {p : Nat} (hb : Below W.heap.size W w1) : W.grownBy w1 (some p) := ⟨hb.os, hb.tape, hb.output, hb.size, fun k hk _ => hb.block k hk⟩
/-- all balances are within the bound -/
def Bnd (xs : Bs) : Prop := ∀ a, -70368744177664 ≤ getV xs a ∧ getV xs a ≤ 70368744177664
set_option maxRecDepth 100000 in
set_option maxHeartbeats 8000000 in
theorem move_any (W : World) (p : Nat) (xs : Bs) (f t n : Int) {tt : TypeId} (htt : tt ≠ tN) (h : TMg tt W p xs) (hs : Sd ltI xs) (hl : xs.length < 1000000000) (hb : Bnd xs) (hf : w64 f) (ht : w64 t) :
    Calls Try.prog 44 #[.pointer (some ⟨p, 0, none⟩), .int .i64 f, .int .i64 t, .int .i64 n] W fun e w' => e = .returned (.int .i64 (moveE (getV xs) (f, t, n))) ∧ TMg tt w' p (moveL xs (f, t, n)) ∧ W.grownBy w' (some p) := by
  have hbf := hb f
  have hbt := hb t
  have hB := fun (e : Int) (he : moveE (getV xs) (f, t, n) = e) (hne : e ≠ 0) (w' : World) (hbw : Below W.heap.size W w') => (show Ending.returned (.int .i64 e) = Ending.returned (.int .i64 (moveE (getV xs) (f, t, n))) ∧ TMg tt w' p (moveL xs (f, t, n)) ∧ W.grownBy w' (some p) from ⟨by rw [he], by unfold moveL; rw [he, if_neg hne]; exact h.below hbw, below_gb hbw⟩)
  have HB := Lib.hid hB
  clear hB
  cases h1 : rightA f with
  | false =>
    have he : moveE (getV xs) (f, t, n) = 1 := by unfold moveE; rw [if_pos (.inl h1)]
    go_enter Try.func44, Try.ntmps44
    go_wp2_with fail
    refine (right_any _ f hf).mono ?_; rintro e w1 ⟨rfl, hb1⟩
    rw [h1]
    go_wp2_with fail
    go_ret
    exact HB.out 1 he (by decide) _ hb1
  | true =>
    cases h2 : rightA t with
    | false =>
      have he : moveE (getV xs) (f, t, n) = 1 := by unfold moveE; rw [if_pos (.inr (.inl h2))]
      go_enter Try.func44, Try.ntmps44
      go_wp2_with fail
      refine (right_any _ f hf).mono ?_; rintro e w1 ⟨rfl, hb1⟩
      rw [h1]
      go_wp2_with fail
      refine (right_any _ t ht).mono ?_; rintro e w2 ⟨rfl, hb2⟩
      rw [h2]
      have hb2' := hb1.trans (hb2.mono hb1.size)
      clear hb1 hb2
      go_wp2_with fail
      go_ret
      exact HB.out 1 he (by decide) _ hb2'
    | true =>
      by_cases h3 : f = t
      · have he : moveE (getV xs) (f, t, n) = 1 := by unfold moveE; rw [if_pos (.inr (.inr (.inl h3)))]
        subst h3
        go_enter Try.func44, Try.ntmps44
        go_wp2_with fail
        refine (right_any _ f hf).mono ?_; rintro e w1 ⟨rfl, hb1⟩
        rw [h1]
        go_wp2_with fail
        refine (right_any _ f ht).mono ?_; rintro e w2 ⟨rfl, hb2⟩
        rw [h1]
        have hb2' := hb1.trans (hb2.mono hb1.size)
        clear hb1 hb2
        go_wp2_with fail
        go_ret
        exact HB.out 1 he (by decide) _ hb2'
      · cases h4 : rightM n with
        | false =>
          have he : moveE (getV xs) (f, t, n) = 1 := by unfold moveE; rw [if_pos (.inr (.inr (.inr h4)))]
          go_enter Try.func44, Try.ntmps44
          go_wp2_with fail
          refine (right_any _ f hf).mono ?_; rintro e w1 ⟨rfl, hb1⟩
          rw [h1]
          go_wp2_with fail
          refine (right_any _ t ht).mono ?_; rintro e w2 ⟨rfl, hb2⟩
          rw [h2]
          have hb2' := hb1.trans (hb2.mono hb1.size)
          clear hb1 hb2
          go_wp2_with fail
          refine (rightM_any _ n).mono ?_; rintro e w3 ⟨rfl, hb3⟩
          rw [h4]
          have hb3' := hb2'.trans (hb3.mono hb2'.size)
          clear hb2' hb3
          go_wp2_with fail
          go_ret
          exact HB.out 1 he (by decide) _ hb3'
        | true =>
          have hn : 0 ≤ n ∧ n ≤ 1099511627776 := by unfold rightM at h4; simpa using h4
          have hc : ¬ (rightA f = false ∨ rightA t = false ∨ f = t ∨ rightM n = false) := by rw [h1, h2, h4]; simp [h3]
          have BA : ∀ w, TMg tt w p xs → ∀ a, Calls Try.prog 37 #[.pointer (some ⟨p, 0, none⟩), .int .i64 a] w fun e w' => e = .returned (.int .i64 (getV xs a)) ∧ w = w' := fun w hw a => balance_any w p xs a htt hw hs
          have HBA := Lib.hid BA
          clear BA
          have hmE : moveE (getV xs) (f, t, n) = if f ≠ 0 ∧ getV xs f - n < 0 then 40 else if getV xs f - n < -70368744177664 ∨ 70368744177664 < getV xs t + n then 2 else 0 := by unfold moveE; rw [if_neg hc]
          have hmL : moveE (getV xs) (f, t, n) = 0 → moveL xs (f, t, n) = setL (setL xs f (getV xs f - n)) t (getV xs t + n) := fun h0 => by unfold moveL; rw [if_pos h0]
          have HML := Lib.hid hmL
          obtain ⟨bf, hbfe⟩ : ∃ bf, getV xs f = bf := ⟨_, rfl⟩
          obtain ⟨bt, hbte⟩ : ∃ bt, getV xs t = bt := ⟨_, rfl⟩
          rw [hbfe, hbte] at hmE HML
          rw [hbfe] at hbf
          rw [hbte] at hbt
          have HF := Lib.hid hbfe; have HT := Lib.hid hbte; have HME := Lib.hid hmE
          clear hc hmL hbfe hbte hmE hb
          have q1 : -9223372036854775808 ≤ bf - n := by omega
          have q2 : bf - n ≤ 9223372036854775807 := by omega
          have q3 : -9223372036854775808 ≤ bt + n := by omega
          have q4 : bt + n ≤ 9223372036854775807 := by omega
          go_enter Try.func44, Try.ntmps44
          go_wp2_with fail
          refine (right_any _ f hf).mono ?_; rintro e w1 ⟨rfl, hb1⟩
          rw [h1]
          go_wp2_with fail
          refine (right_any _ t ht).mono ?_; rintro e w2 ⟨rfl, hb2⟩
          rw [h2]
          have hb2' := hb1.trans (hb2.mono hb1.size)
          clear hb1 hb2
          go_wp2_with fail
          refine (rightM_any _ n).mono ?_; rintro e w3 ⟨rfl, hb3⟩
          rw [h4]
          have hb3' := hb2'.trans (hb3.mono hb2'.size)
          have hT3 := h.below hb3'
          clear hb2' hb3
          go_wp2_with fail
          refine (HBA.out w3 hT3 f).mono ?_; rintro e w4 ⟨rfl, rfl⟩
          rw [HF.out]
          go_wp2_with fail
          refine (HBA.out w3 hT3 t).mono ?_; rintro e w5 ⟨rfl, rfl⟩
          rw [HT.out]
          by_cases hf0 : f = 0
          · subst hf0
            by_cases hlow : bf - n < -70368744177664
            · have he : moveE (getV xs) (0, t, n) = 2 := by rw [HME.out, if_neg (by simp), if_pos (.inl hlow)]
              go_wp2_with fail
              go_ret
              exact HB.out 2 he (by decide) _ hb3'
            · by_cases hhigh : 70368744177664 < bt + n
              · have he : moveE (getV xs) (0, t, n) = 2 := by rw [HME.out, if_neg (by simp), if_pos (.inr hhigh)]
                go_wp2_with fail
                go_ret
                exact HB.out 2 he (by decide) _ hb3'
              · have he : moveE (getV xs) (0, t, n) = 0 := by rw [HME.out, if_neg (by simp), if_neg (by simp [hlow, hhigh])]
                go_wp2_with fail
                refine (set_any w3 p xs 0 _ htt hT3 hs (by omega)).mono ?_; rintro e w6 ⟨rfl, hT6, hg6⟩
                go_wp2_with fail
                refine (set_any w6 p _ t _ htt hT6 (setL_sd hs _ _) (by have := setL_len xs 0 (bf - n); omega)).mono ?_; rintro e w7 ⟨rfl, hT7, hg7⟩
                go_wp2_with fail
                go_ret
                exact ⟨by rw [he]; rfl, by rw [HML.out he]; exact hT7, TabB.gb_trans (gb_below hb3' hg6) hg7⟩
          · by_cases hneg : bf - n < 0
            · have he : moveE (getV xs) (f, t, n) = 40 := by rw [HME.out, if_pos ⟨hf0, hneg⟩]
              go_wp2_with fail
              go_ret
              exact HB.out 40 he (by decide) _ hb3'
            · have hlow : ¬ bf - n < -70368744177664 := by omega
              by_cases hhigh : 70368744177664 < bt + n
              · have he : moveE (getV xs) (f, t, n) = 2 := by rw [HME.out, if_neg (fun h => hneg h.2), if_pos (.inr hhigh)]
                go_wp2_with fail
                go_ret
                exact HB.out 2 he (by decide) _ hb3'
              · have he : moveE (getV xs) (f, t, n) = 0 := by rw [HME.out, if_neg (fun h => hneg h.2), if_neg (by simp [hlow, hhigh])]
                go_wp2_with fail
                refine (set_any w3 p xs f _ htt hT3 hs (by omega)).mono ?_; rintro e w6 ⟨rfl, hT6, hg6⟩
                go_wp2_with fail
                refine (set_any w6 p _ t _ htt hT6 (setL_sd hs _ _) (by have := setL_len xs f (bf - n); omega)).mono ?_; rintro e w7 ⟨rfl, hT7, hg7⟩
                go_wp2_with fail
                go_ret
                exact ⟨by rw [he]; rfl, by rw [HML.out he]; exact hT7, TabB.gb_trans (gb_below hb3' hg6) hg7⟩

end Go.Proofs.Ytmdacfgofilbdaa.Led

/- ledger: Clone, Moves. -/
set_option linter.unusedSimpArgs false
set_option linter.unusedVariables false
namespace Go.Proofs.Ytmdacfgofilbdaa.Led
open Go.RowKit Go.Proofs.Ytmdacfgofilbdaa.TabL Go.Proofs.YtmdacfgofilbdaaW.PrintWords Go.Proofs.Ytmdacfgofilbdaa.PHoldPlays
open Go.Proofs.Ytmdacfgofilbdaa.TabB (ltI lin getV TMg)

theorem Bnd.move {xs : Bs} (h : Bnd xs) (m : Mv) : Bnd (moveL xs m) := by
  unfold moveL
  split
  · rename_i h0
    obtain ⟨_, _, hne, hr, h1, h2, h3⟩ := moveE_zero h0
    unfold rightM at hr
    simp only [Bool.and_eq_true, decide_eq_true_eq] at hr
    intro a
    have ha := h a
    have hf := h m.1
    have ht := h m.2.1
    rw [getV_setL, getV_setL]
    by_cases e1 : a = m.2.1
    · rw [if_pos e1]; omega
    · rw [if_neg e1]
      by_cases e2 : a = m.1
      · rw [if_pos e2]; omega
      · rw [if_neg e2]; exact ha
  · exact h
/-- moves one after the other, up to the first that is refused -/
def movesL : Bs → List Mv → Int × Bs
  | xs, [] => (0, xs)
  | xs, m :: r => if moveE (getV xs) m = 0 then movesL (moveL xs m) r else (moveE (getV xs) m, xs)
/-- all of them or none -/
def allL (xs : Bs) (ms : List Mv) : Bs := if (movesL xs ms).1 = 0 then (movesL xs ms).2 else xs
def stepN (xs : Bs) (ms : List Mv) (k : Nat) : Bs := (ms.take k).foldl moveL xs
theorem stepN_succ (xs : Bs) (ms : List Mv) {k : Nat} {m : Mv} (h : ms[k]? = some m) : stepN xs ms (k + 1) = moveL (stepN xs ms k) m := by
  have hk := (List.getElem?_eq_some_iff.1 h).1
  unfold stepN
  rw [List.take_succ_eq_append_getElem hk, List.foldl_append, (List.getElem?_eq_some_iff.1 h).2]
  rfl
theorem movesL_at : ∀ (ms : List Mv) (xs : Bs) (k : Nat), (∀ j m, j < k → ms[j]? = some m → moveE (getV (stepN xs ms j)) m = 0) → k ≤ ms.length → movesL xs ms = movesL (stepN xs ms k) (ms.drop k)
  | _, _, 0, _, _ => rfl
  | [], _, k + 1, _, h => by simp at h
  | m :: r, xs, k + 1, h, hk => by
    have h0 := h 0 m (by omega) rfl
    have e : moveE (getV xs) m = 0 := h0
    rw [movesL, if_pos e]
    have := movesL_at r (moveL xs m) k (fun j m' hj hm => by have := h (j + 1) m' (by omega) (by simpa using hm); exact this) (by simpa using hk)
    rw [this]
    rfl
theorem stepN_sd {xs : Bs} (h : Sd ltI xs) (ms : List Mv) : ∀ k, Sd ltI (stepN xs ms k) := fun k => by
  unfold stepN
  have : ∀ (l : List Mv) (xs : Bs), Sd ltI xs → Sd ltI (l.foldl moveL xs) := fun l => by
    induction l with
    | nil => intro xs h; exact h
    | cons m l ih => intro xs h; exact ih _ (moveL_sd h m)
  exact this _ _ h
theorem stepN_bnd {xs : Bs} (h : Bnd xs) (ms : List Mv) : ∀ k, Bnd (stepN xs ms k) := fun k => by
  unfold stepN
  have : ∀ (l : List Mv) (xs : Bs), Bnd xs → Bnd (l.foldl moveL xs) := fun l => by
    induction l with
    | nil => intro xs h; exact h
    | cons m l ih => intro xs h; exact ih _ (h.move m)
  exact this _ _ h
theorem stepN_len (xs : Bs) (ms : List Mv) : ∀ k, (stepN xs ms k).length ≤ xs.length + 2 * k := fun k => by
  unfold stepN
  have : ∀ (l : List Mv) (xs : Bs), (l.foldl moveL xs).length ≤ xs.length + 2 * l.length := fun l => by
    induction l with
    | nil => intro xs; exact Nat.le_refl _
    | cons m l ih =>
      intro xs
      have h1 := ih (moveL xs m)
      have h2 := moveL_len xs m
      simp only [List.foldl_cons, List.length_cons]
      omega
  have h1 := this (ms.take k) xs
  rw [List.length_take] at h1
  omega

abbrev tL : TypeId := 30
abbrev tT : TypeId := 28
set_option maxRecDepth 100000 in
set_option maxHeartbeats 4000000 in
theorem clone_any (W : World) (p : Nat) (xs : Bs) {tt : TypeId} (h : TMg tt W p xs) :
    Calls Try.prog 42 #[.pointer (some ⟨p, 0, none⟩)] W fun e w' => ∃ c : Nat, e = .returned (.pointer (some ⟨c, 0, none⟩)) ∧ W.heap.size ≤ c ∧ TMg tL w' c xs ∧ Below W.heap.size W w' := by
  have HC := Lib.hid (TabB.clone_any W p xs h)
  clear h
  go_enter Try.func42, Try.ntmps42
  go_wp2_with fail
  refine HC.out.mono ?_; rintro e w1 ⟨rfl, ⟨q, T, hb, hT, hx⟩, hB⟩
  have c0 := hb.cell (i := 0) rfl
  have hz := hB.size
  have hal : Below w1.heap.size w1 (w1.alloc (.cells #[.pointer q] 30)) := (Below.refl _ w1).alloc (Nat.le_refl _) _
  have hT2 := hT.kept (KT.below hal)
  have hB2 := hB.trans (hal.mono hB.size)
  have HT := Lib.hid hT2; have HB := Lib.hid hB2; have HX := Lib.hid hx
  clear hT hT2 hB hB2 hal hx hb
  go_wp2_with fail
  go_ret
  exact ⟨w1.heap.size, rfl, hz, ⟨q, T, Blk.new w1 [.pointer q] _, HT.out, HX.out⟩, HB.out⟩

def cM (m : Mv) : List Value := [.int .i64 m.1, .int .i64 m.2.1, .int .i64 m.2.2]
theorem rd_at {W : World} {n₀ : Nat} {sv : Value} {ops : List Mv} {j : Nat} {o : Mv} (hR : Rd cM 3 n₀ W sv ops) (hj : ops[j]? = some o) : ∃ b off c, sv = .slice (some ⟨b, off, none⟩) ops.length c ∧ b < n₀ ∧ W.cell? ⟨b, off + j * 3, none⟩ = some (.int .i64 o.1) ∧ W.cell? ⟨b, off + j * 3 + 1, none⟩ = some (.int .i64 o.2.1) ∧ W.cell? ⟨b, off + j * 3 + 2, none⟩ = some (.int .i64 o.2.2) := by
  rcases hR with ⟨a, cap, rfl, rfl⟩ | ⟨b, off, cap, rfl, hlt, hc⟩
  · simp at hj
  · exact ⟨b, off, cap, rfl, hlt, hc j _ hj 0 _ rfl, hc j _ hj 1 _ rfl, hc j _ hj 2 _ rfl⟩
theorem tm_other {W W' : World} {p q : Nat} {xs ys : Bs} {tt ts : TypeId} (hts : ts ≠ tN) (h : TMg tt W p xs) (hq : TMg ts W q ys) (hg : W.grownBy W' (some q)) (hne : p ≠ q) : TMg tt W' p xs := by
  obtain ⟨r, T, hb, _, _⟩ := hq
  exact h.other hg hb hne hts
set_option maxRecDepth 100000 in
set_option maxHeartbeats 8000000 in
theorem moves_any (W : World) (p : Nat) (xs : Bs) (A : Option Addr) (c : Nat) (ms : List Mv) {tt : TypeId} (htt : tt ≠ tN) (h : TMg tt W p xs) (hs : Sd ltI xs) (hl : xs.length < 100000000) (hn : ms.length ≤ 100000) (hb : Bnd xs) (hR : Rd cM 3 W.heap.size W (.slice A ms.length c) ms) (hw : ∀ m ∈ ms, w64 m.1 ∧ w64 m.2.1) :
    Calls Try.prog 43 #[.pointer (some ⟨p, 0, none⟩), .slice A ms.length c] W fun e w' => e = .returned (.int .i64 (movesL xs ms).1) ∧ TMg tt w' p (allL xs ms) ∧ W.grownBy w' (some p) := by
  have HR := Lib.hid hR
  clear hR
  have hplt := h.lt
  go_enter Try.func43, Try.ntmps43
  go_wp2_with fail
  refine (clone_any W p xs h).mono ?_; rintro e w1 ⟨cc, rfl, hcc, hC1, hb1⟩
  have hT1 := h.below hb1
  clear h
  go_wp2_with fail
  go_loopw [13] (fun i wr => ∃ k : Nat, i = .int .i64 (k : Int) ∧ k ≤ ms.length ∧ (∀ j m, j < k → ms[j]? = some m → moveE (getV (stepN xs ms j)) m = 0) ∧ TMg tL wr cc (stepN xs ms k) ∧ TMg tt wr p xs ∧ Below W.heap.size W wr)
    (fun i _ => ms.length - (match i with | .int _ n => n.toNat | _ => 0))
  case atStart => exact ⟨0, rfl, Nat.zero_le _, fun j m hj => by omega, hC1, hT1, hb1⟩
  case round =>
    clear hC1 hT1 hb1
    obtain ⟨k, rfl, hk, hz, hC, hT, hB⟩ := hrel
    by_cases hlt : k < ms.length
    · obtain ⟨⟨f, t, n⟩, hget⟩ : ∃ o, ms[k]? = some o := ⟨_, List.getElem?_eq_getElem hlt⟩
      obtain ⟨b, off, c1, e1, hlb, q0, q1, q2⟩ := rd_at (HR.out.below hB) hget
      obtain ⟨rfl, rfl⟩ : A = some ⟨b, off, none⟩ ∧ c = c1 := by injection e1 with e1 e2 e3; exact ⟨e1, e3⟩
      have hwm := hw _ (List.mem_of_getElem? hget)
      have hal : Below wr.heap.size wr (wr.alloc (.cells #[.int .i64 f, .int .i64 t, .int .i64 n] 78)) := (Below.refl _ wr).alloc (Nat.le_refl _) _
      have hCa := hC.below hal
      have hTa := hT.below hal
      have hBa := hB.trans (hal.mono hB.size)
      have MV := move_any _ cc _ f t n (by decide) hCa (stepN_sd hs ms k) (by have := stepN_len xs ms k; omega) (stepN_bnd hb ms k) hwm.1 hwm.2
      rw [← stepN_succ xs ms hget] at MV
      have hcl := hC.lt
      simp only at q0 q1 q2
      have HMV := Lib.hid MV; have HCA := Lib.hid hCa; have HTA := Lib.hid hTa; have HBA := Lib.hid hBa; have HZ := Lib.hid hz; have HG := Lib.hid hget
      clear MV hCa hTa hBa hC hT hB hal e1 hget hz
      obtain ⟨ev, hev⟩ : ∃ ev, moveE (getV (stepN xs ms k)) (f, t, n) = ev := ⟨_, rfl⟩
      have HEV := Lib.hid hev
      rw [hev] at HMV
      clear hev
      go_wp2_with fail
      refine HMV.out.mono ?_; rintro e w3 ⟨rfl, hC3, hg3⟩
      have hT3 := tm_other (by decide) HTA.out HCA.out hg3 (by omega)
      have hB3 := HBA.out.grown hg3 (HBA.out.size) (fun r e => by cases e; omega)
      clear HMV hg3
      by_cases he : ev = 0
      · subst he
        have HS := Lib.hid (show TMg tL w3 cc (stepN xs ms (k + 1)) ∧ TMg tt w3 p xs ∧ Below W.heap.size W w3 from ⟨hC3, hT3, hB3⟩)
        clear hC3 hT3 hB3
        go_wp2_with fail
        go_roundw
        case rel => exact ⟨k + 1, by congr 1, by omega, fun j m hj hm => by
          by_cases hjk : j = k
          · subst hjk; rw [HG.out] at hm; cases hm; exact HEV.out
          · exact HZ.out j m (by omega) hm, HS.out⟩
        case measure => simp; omega
      · have hml : (movesL xs ms).1 = ev := by
          rw [movesL_at ms xs k HZ.out (by omega), List.drop_eq_getElem_cons hlt]
          rw [show ms[k]'hlt = (f, t, n) from by have := HG.out; rw [List.getElem?_eq_getElem hlt] at this; exact Option.some.inj this]
          rw [movesL, if_neg (by rw [HEV.out]; exact he)]
          exact HEV.out
        have HS := Lib.hid (show TMg tt w3 p xs ∧ Below W.heap.size W w3 from ⟨hT3, hB3⟩)
        clear hC3 hT3 hB3
        go_wp2_with fail
        go_ret
        exact ⟨by rw [hml]; rfl, by unfold allL; rw [hml, if_neg he]; exact HS.out.1, below_gb HS.out.2⟩
    · obtain rfl : k = ms.length := by omega
      have hml : movesL xs ms = (0, stepN xs ms ms.length) := by rw [movesL_at ms xs _ hz (Nat.le_refl _), List.drop_length]; rfl
      obtain ⟨q, T, hbC, hTC, hxC⟩ := hC
      have c0 := hbC.cell (i := 0) rfl
      obtain ⟨q', T', hbP, hTP, hxP⟩ := hT
      have c1 := hbP.cell (i := 0) rfl
      have f1 := hbP.frozen 0
      have HML := Lib.hid hml; have HB := Lib.hid hB; have HTC := Lib.hid hTC; have HXC := Lib.hid hxC; have HBP := Lib.hid hbP
      clear hml hB hTC hxC hbC hbP hTP hxP hz
      go_wp2_with fail
      go_ret
      refine ⟨by rw [HML.out]; rfl, by unfold allL; rw [HML.out, if_pos rfl]; exact ⟨q, T, HBP.out.set 0 (.pointer q), HTC.out.kept (KT.setOther HBP.out htt), HXC.out⟩, gb_below HB.out (grownBy_setAt wr p 0 _)⟩

end Go.Proofs.Ytmdacfgofilbdaa.Led
