/- hold: the document's purse functions, walked. -/
import Derived.Test.YtmdacfgofilbdaaHoldV
import Derived.Test.YtmdacfgofilbdaaWWords
import Derived.Deep.RegionWith
import Derived.Deep.RegionHeld3
set_option linter.unusedSimpArgs false
set_option linter.unusedVariables false
namespace Go.Proofs.Ytmdacfgofilbdaa.Led
open Go.RowKit Go.Proofs.Ytmdacfgofilbdaa.TabL Go.Proofs.YtmdacfgofilbdaaW.PrintWords Go.Proofs.Ytmdacfgofilbdaa.PHoldPlays
open Go.Proofs.Ytmdacfgofilbdaa.TabB (ltI lin getV TMg)

theorem PM.other {W W' : World} {v : Value} {l : List Mv} {p : Nat} (h : PM W v l) (hne : v.ownBlock ≠ some p) (hg : W.grownBy W' (some p)) : PM W' v l := by
  obtain ⟨A, c, rfl, h1, h2⟩ := h
  refine ⟨A, c, rfl, h1, h2.1, h2.2.1, fun hpos => ?_⟩
  obtain ⟨a, rfl, hr⟩ := h2.2.2 hpos
  have hb : a.block ≠ p := fun e => hne (by simp [Value.ownBlock, e])
  refine ⟨a, rfl, fun j x hx => ?_⟩
  obtain ⟨cs, hl, hk, hc⟩ := hr j x hx
  refine ⟨cs, hl, ?_, fun i u hu => ?_⟩
  · have := k90_open hk
    subst this
    exact k90_mk W' x
  · have h3 := hc i u hu
    have hbl : (a.add (j * k90.sz + i)).block = a.block := by unfold Addr.add; split <;> rfl
    rw [← h3]
    exact World.cell?_of_block (hg.block _ (World.block_lt_of_cell? _ _ h3) (by rw [hbl]; simpa using hb))
/-- a purse's own cell is written: the moves are read as before -/
theorem PM.put {W : World} {v : Value} {l : List Mv} {b n c : Nat} {t : TypeId} {A : Option Addr} (h : PM W v l) (hb : Blk W b t [.slice A n c]) (x : Value) : PM (W.setCell ⟨b, 0, none⟩ x) v l := by
  have hg : W.grownBy (W.setCell ⟨b, 0, none⟩ x) (some b) := grownBy_setAt W b 0 x
  cases l with
  | nil =>
    obtain ⟨A, c, rfl, h1, h2⟩ := h
    exact ⟨A, c, rfl, h1, h2.1, h2.2.1, fun hpos => absurd hpos (by simp)⟩
  | cons q l =>
    obtain ⟨b', off, c', e, hc, -, -⟩ := h.at (j := 0) rfl
    refine h.other (fun hk => ?_) hg
    rw [e] at hk
    obtain rfl : b' = b := by simpa [Value.ownBlock] using hk
    have hc' : [Value.slice A n c][off + 0 * 3]? = some (.int .i64 q.1) := by
      have := cell_of_row W b' (off + 0 * 3) [Value.slice A n c].toArray t (0, 0) hb
      rw [this] at hc
      simpa using hc
    have hlt := (List.getElem?_eq_some_iff.1 hc').1
    have h0 : off + 0 * 3 = 0 := by simp at hlt; omega
    rw [h0] at hc'
    simp at hc'
end Go.Proofs.Ytmdacfgofilbdaa.Led

/- hold: the document's Refund, Set, walked. -/
set_option linter.unusedSimpArgs false
set_option linter.unusedVariables false
namespace Go.Proofs.Ytmdacfgofilbdaa.Led
open Go.RowKit Go.Proofs.Ytmdacfgofilbdaa.TabL Go.Proofs.YtmdacfgofilbdaaW.PrintWords Go.Proofs.Ytmdacfgofilbdaa.PHoldPlays
open Go.Proofs.Ytmdacfgofilbdaa.TabB (ltI lin getV TMg)

end Go.Proofs.Ytmdacfgofilbdaa.Led

/- hold: the document's Settle, walked; rows of moves. -/
set_option linter.unusedSimpArgs false
set_option linter.unusedVariables false
namespace Go.Proofs.Ytmdacfgofilbdaa.Led
open Go.RowKit Go.Proofs.Ytmdacfgofilbdaa.TabL Go.Proofs.YtmdacfgofilbdaaW.PrintWords Go.Proofs.Ytmdacfgofilbdaa.PHoldPlays
open Go.Proofs.Ytmdacfgofilbdaa.TabB (ltI lin getV TMg)
attribute [local go_sem] Oper.semAt_some

/-- moves one after the other, up to the first that is refused: the document's -/
def movesR : List Mv → List Mv → Int × List Mv
  | ms, [] => (0, ms)
  | ms, m :: r => if moveE (bal ms) m = 0 then movesR (tryL ms m) r else (moveE (bal ms) m, ms)
def allR (ms l : List Mv) : List Mv := if (movesR ms l).1 = 0 then (movesR ms l).2 else ms
theorem Rel.moves : ∀ (l : List Mv) {xs : Bs} {ms : List Mv}, Rel xs ms → (movesL xs l).1 = (movesR ms l).1 ∧ Rel (movesL xs l).2 (movesR ms l).2
  | [], xs, ms, h => ⟨rfl, h⟩
  | m :: r, xs, ms, h => by
    have he := h.moveE m
    unfold movesL movesR
    rw [he]
    by_cases h0 : Led.moveE (bal ms) m = 0
    · rw [if_pos h0, if_pos h0]
      exact Rel.moves r (h.step m)
    · rw [if_neg h0, if_neg h0]
      exact ⟨rfl, h⟩
theorem Rel.all {xs : Bs} {ms : List Mv} (h : Rel xs ms) (l : List Mv) : Rel (allL xs l) (allR ms l) := by
  obtain ⟨h1, h2⟩ := Rel.moves l h
  unfold allL allR
  rw [h1]
  split
  · exact h2
  · exact h
def stepR (ms : List Mv) (l : List Mv) (k : Nat) : List Mv := (l.take k).foldl tryL ms
theorem stepR_succ (ms : List Mv) (l : List Mv) {k : Nat} {m : Mv} (h : l[k]? = some m) : stepR ms l (k + 1) = tryL (stepR ms l k) m := by
  have hk := (List.getElem?_eq_some_iff.1 h).1
  unfold stepR
  rw [List.take_succ_eq_append_getElem hk, List.foldl_append, (List.getElem?_eq_some_iff.1 h).2]
  rfl
theorem stepR_good {ms : List Mv} (h : Good ms) (l : List Mv) : ∀ k, Good (stepR ms l k) := fun k => by
  unfold stepR
  have : ∀ (l : List Mv) (ms : List Mv), Good ms → Good (l.foldl tryL ms) := fun l => by
    induction l with
    | nil => intro ms h; exact h
    | cons m l ih => intro ms h; exact ih _ (h.tryL m)
  exact this _ _ h
theorem tryL_len (ms : List Mv) (m : Mv) : (tryL ms m).length ≤ ms.length + 1 := by
  unfold tryL
  split
  · simp
  · omega
theorem stepR_len (ms : List Mv) (l : List Mv) : ∀ k, (stepR ms l k).length ≤ ms.length + k := fun k => by
  unfold stepR
  have : ∀ (l : List Mv) (ms : List Mv), (l.foldl tryL ms).length ≤ ms.length + l.length := fun l => by
    induction l with
    | nil => intro ms; exact Nat.le_refl _
    | cons m l ih =>
      intro ms
      have h1 := ih (tryL ms m)
      have h2 := tryL_len ms m
      simp only [List.foldl_cons, List.length_cons]
      omega
  have h1 := this (l.take k) ms
  rw [List.length_take] at h1
  omega
def cI (i : Int) : List Value := [.int .i64 i]
end Go.Proofs.Ytmdacfgofilbdaa.Led
