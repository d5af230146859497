/- hold: the document's answer in plain words. -/
import Derived.Test.YtmdacfgofilbdaaHold3
import Derived.Test.YtmdacfgofilbdaaPHoldPlaysx2
import Derived.Test.YtmdacfgofilbdaaPHoldPlaysx3
import Derived.Test.YtmdacfgofilbdaaWKept
import Derived.BigQuiet
import Derived.Maps.AppendAt
set_option linter.unusedSimpArgs false
set_option linter.unusedVariables false
namespace Go.Proofs.Ytmdacfgofilbdaa.Led
open Go.RowKit Go.Proofs.Ytmdacfgofilbdaa.TabL Go.Proofs.YtmdacfgofilbdaaW.PrintWords Go.Proofs.Ytmdacfgofilbdaa.PHoldPlays
open Go.Proofs.Ytmdacfgofilbdaa.TabB (ltI lin getV TMg)

theorem wrap_id {i : Int} (h : -9223372036854775808 ≤ i) (h2 : i ≤ 9223372036854775807) : wrap64 i = i := by unfold wrap64; omega
def toV (m : Mv) : S90 := ⟨m.1, m.2.1, m.2.2⟩
theorem Good.take {ms : List Mv} (h : Good ms) : ∀ i, Good (ms.take i) := by
  induction h with
  | nil => intro i; simp; exact Good.nil
  | snoc hg he ih =>
    rename_i ms m
    intro i
    by_cases hi : i ≤ ms.length
    · rw [List.take_append_of_le_length hi]; exact ih i
    · rw [List.take_of_length_le (by simp; omega)]; exact Good.snoc hg he
end Go.Proofs.Ytmdacfgofilbdaa.Led

/- hold: the document's purse functions. -/
set_option linter.unusedSimpArgs false
set_option linter.unusedVariables false
namespace Go.Proofs.Ytmdacfgofilbdaa.Led
open Go.RowKit Go.Proofs.Ytmdacfgofilbdaa.TabL Go.Proofs.YtmdacfgofilbdaaW.PrintWords Go.Proofs.YtmdacfgofilbdaaW.PrintLast Go.Proofs.YtmdacfgofilbdaaW.PrintMore Go.Proofs.Ytmdacfgofilbdaa.PHoldPlays
open Go.Proofs.Ytmdacfgofilbdaa.TabB (ltI lin getV TMg)

theorem Good.zero {ms : List Mv} (h : Good ms) {a : Int} (ha : rightA a = false) : bal ms a = 0 := by
  induction h with
  | nil => rfl
  | snoc hg he ih =>
    rename_i ms m
    obtain ⟨h1, h2, _⟩ := moveE_zero he
    rw [bal_snoc, ih]
    unfold part
    rw [if_neg (fun e => by rw [e, ha] at h1; cases h1), if_neg (fun e => by rw [e, ha] at h2; cases h2)]
    rfl
/-- what Set lets go, over balances -/
def setMb (b : Int → Int) (who n : Int) : Mv := if 0 ≤ n - b (holdA who) then (freeA who, holdA who, n - b (holdA who)) else (holdA who, freeA who, -(n - b (holdA who)))
def rsetL (ms : List Mv) (who n : Int) : List Mv := if partyA who = false ∨ rightM n = false then ms else tryL ms (setMb (bal ms) who n)
def rsetE (ms : List Mv) (who n : Int) : Int := if partyA who = false ∨ rightM n = false then 1 else moveE (bal ms) (setMb (bal ms) who n)
end Go.Proofs.Ytmdacfgofilbdaa.Led

/- hold: the document's moves and purse, walked: nothing that was there is turned. -/
set_option linter.unusedSimpArgs false
set_option linter.unusedVariables false
namespace Go.Proofs.Ytmdacfgofilbdaa.Led
open Go.RowKit Go.Proofs.Ytmdacfgofilbdaa.TabL Go.Proofs.YtmdacfgofilbdaaW.PrintWords Go.Proofs.Ytmdacfgofilbdaa.PHoldPlays
open Go.Proofs.Ytmdacfgofilbdaa.TabB (ltI lin getV TMg)

/-- the slice v reads as the moves ms -/
def PM (W : World) (v : Value) (ms : List Mv) : Prop := ∃ A c, v = .slice A ms.length c ∧ ms.length ≤ c ∧ Kd.C k90 W A ms.length (ms.map toV)
theorem PM.below {W W' : World} {v : Value} {l : List Mv} (h : PM W v l) (hb : Below W.heap.size W W') : PM W' v l := by
  obtain ⟨A, c, rfl, h1, h2⟩ := h
  exact ⟨A, c, rfl, h1, Kd.C_below h2 hb⟩
theorem addr_add (b off i : Nat) : (⟨b, off, none⟩ : Addr).add i = ⟨b, off + i, none⟩ := by
  unfold Addr.add
  by_cases h : i = 0 <;> simp [h]
theorem cell_spot {w : World} {a : Addr} {v : Value} (h : w.cell? a = some v) : a = ⟨a.block, a.off, none⟩ ∧ a.block < w.heap.size := by
  unfold World.cell? at h
  cases hb : w.heap[a.block]? with
  | none => rw [hb] at h; simp at h
  | some o =>
    refine ⟨?_, (Array.getElem?_eq_some_iff.1 hb).1⟩
    rw [hb] at h
    obtain ⟨b, off, s⟩ := a
    cases s with
    | none => rfl
    | some s => cases o <;> simp at h
theorem PM.at {W : World} {v : Value} {l : List Mv} {j : Nat} {q : Mv} (h : PM W v l) (hj : l[j]? = some q) : ∃ b off c, v = .slice (some ⟨b, off, none⟩) l.length c ∧ W.cell? ⟨b, off + j * 3, none⟩ = some (.int .i64 q.1) ∧ W.cell? ⟨b, off + j * 3 + 1, none⟩ = some (.int .i64 q.2.1) ∧ W.cell? ⟨b, off + j * 3 + 2, none⟩ = some (.int .i64 q.2.2) := by
  obtain ⟨A, c, rfl, h1, h2⟩ := h
  have hlt := (List.getElem?_eq_some_iff.1 hj).1
  obtain ⟨a, rfl, hr⟩ := h2.2.2 (by omega)
  have hjq : (l.map toV)[j]? = some (toV q) := by rw [List.getElem?_map, hj]; rfl
  have hz : (l.map toV)[0]? = some (toV (l[0]'(by omega))) := by rw [List.getElem?_map, List.getElem?_eq_getElem (by omega)]; rfl
  obtain ⟨cs0, _, hk0, hc0⟩ := hr 0 _ hz
  obtain rfl := k90_open hk0
  have hsp := cell_spot (by simpa [Addr.add] using hc0 0 _ rfl)
  obtain ⟨b, off, s⟩ := a
  obtain rfl : s = none := by injection hsp.1
  obtain ⟨cs, _, hk, hc⟩ := hr j _ hjq
  obtain rfl := k90_open hk
  have h3 := hc 0 _ rfl
  have h4 := hc 1 _ rfl
  have h5 := hc 2 _ rfl
  rw [addr_add] at h3 h4 h5
  exact ⟨b, off, c, rfl, h3, h4, h5⟩
end Go.Proofs.Ytmdacfgofilbdaa.Led

/- hold: the document's Try. -/
set_option linter.unusedSimpArgs false
set_option linter.unusedVariables false
namespace Go.Proofs.Ytmdacfgofilbdaa.Led
open Go.RowKit Go.Proofs.Ytmdacfgofilbdaa.TabL Go.Proofs.YtmdacfgofilbdaaW.PrintWords Go.Proofs.Ytmdacfgofilbdaa.PHoldPlays
open Go.Proofs.Ytmdacfgofilbdaa.TabB (ltI lin getV TMg)

end Go.Proofs.Ytmdacfgofilbdaa.Led

/- hold: the document's Try. -/
set_option linter.unusedSimpArgs false
set_option linter.unusedVariables false
namespace Go.Proofs.Ytmdacfgofilbdaa.Led
open Go.RowKit Go.Proofs.Ytmdacfgofilbdaa.TabL Go.Proofs.YtmdacfgofilbdaaW.PrintWords Go.Proofs.Ytmdacfgofilbdaa.PHoldPlays
open Go.Proofs.Ytmdacfgofilbdaa.TabB (ltI lin getV TMg)

end Go.Proofs.Ytmdacfgofilbdaa.Led
