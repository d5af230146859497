/- ledger, plain: an amount that goes and comes back. -/
import Derived.Test.YtmdacfgofilbdaaLed10
import Derived.Test.YtmdacfgofilbdaaHoldY
import Derived.Test.YtmdacfgofilbdaaPLedgerPlaysx5
import Derived.Test.YtmdacfgofilbdaaKd
import Derived.Test.YtmdacfgofilbdaaHoldDo
set_option linter.unusedSimpArgs false
set_option linter.unusedVariables false
namespace Go.Proofs.Ytmdacfgofilbdaa.Led
open Go.RowKit Go.Proofs.Ytmdacfgofilbdaa.TabL
open Go.Proofs.Ytmdacfgofilbdaa.TabB (ltI lin getV)

end Go.Proofs.Ytmdacfgofilbdaa.Led

/- ledger, the statements' own: small, as; the document's All. -/
set_option linter.unusedSimpArgs false
set_option linter.unusedVariables false
namespace Go.Proofs.Ytmdacfgofilbdaa.Led
open Go.RowKit Go.Proofs.Ytmdacfgofilbdaa.TabL Go.Proofs.YtmdacfgofilbdaaW.PrintWords
open Go.Proofs.Ytmdacfgofilbdaa.TabB (ltI lin getV TMg)
attribute [local go_sem] Oper.semAt_some

/-! small -/
def lsum (ops : List PLedgerPlays.S75) : Nat := (ops.map (fun o => min o.f1.length 100)).sum
def lsmB (ops : List PLedgerPlays.S75) : Bool := decide (ops.length ≤ 30) && decide (lsum ops ≤ 60)
theorem lsum_take {ops : List PLedgerPlays.S75} {j : Nat} (hj : j < ops.length) : lsum (ops.take (j + 1)) = lsum (ops.take j) + min ops[j].f1.length 100 := by
  unfold lsum
  rw [List.take_succ_eq_append_getElem hj, List.map_append, List.sum_append]
  simp
theorem lsum_le : ∀ (ops : List PLedgerPlays.S75), lsum ops ≤ 100 * ops.length
  | [] => by simp [lsum]
  | o :: r => by
    have := lsum_le r
    unfold lsum at *
    rw [List.map_cons, List.sum_cons, List.length_cons]
    omega
theorem lsmall_ev (ops : List PLedgerPlays.S75) (hl : ops.length ≤ 9223372036854775807) : Ev (fun k => PLedgerPlays.saleroomlaw17_small.f k ops) (lsmB ops) := by
  by_cases h30 : ops.length ≤ 30
  · have key : ∀ d j, ops.length - j = d → j ≤ ops.length → Ev (fun k => PLedgerPlays.saleroomlaw17_small.l0 k ops ((lsum (ops.take j) : Nat) : Int) ops (ops.length : Int) (j : Int)) (lsmB ops) := by
      intro d
      induction d with
      | zero =>
        intro j hd hj
        obtain rfl : j = ops.length := by omega
        refine Ev.step (f := fun _ => some (decide (lsum ops ≤ 60))) (fun k => ?_) ?_
        · rw [PLedgerPlays.saleroomlaw17_small.l0, if_neg (by omega), if_pos (by omega), List.take_length]
          congr 1
          exact decide_eq_decide.2 (by omega)
        · unfold lsmB
          rw [decide_eq_true h30, Bool.true_and]
          exact Ev.now _
      | succ d ih =>
        intro j hd hj
        have hlt : j < ops.length := by omega
        have hrd : PLedgerPlays.rd_T75 ops (j : Int) = ops[j] := by simp [PLedgerPlays.rd_T75, hlt]
        have hs := lsum_take hlt
        have hb := lsum_le (ops.take j)
        rw [List.length_take] at hb
        refine Ev.step (f := fun k => PLedgerPlays.saleroomlaw17_small.l0 k ops ((lsum (ops.take (j + 1)) : Nat) : Int) ops (ops.length : Int) ((j + 1 : Nat) : Int)) (fun k => ?_) (ih (j + 1) (by omega) (by omega))
        have hm : mn ((ops[j].f1.length : Nat) : Int) 100 = ((min ops[j].f1.length 100 : Nat) : Int) := by unfold mn; split <;> omega
        rw [PLedgerPlays.saleroomlaw17_small.l0, if_pos (by omega), if_pos (by omega), if_pos (by omega), hrd, hm, wrap_id (by omega) (by omega), wrap_id (by omega) (by omega), hs]
        rfl
    exact key _ 0 rfl (Nat.zero_le _)
  · have key : ∀ d j x, ops.length - j = d → j ≤ ops.length → Ev (fun k => PLedgerPlays.saleroomlaw17_small.l0 k ops x ops (ops.length : Int) (j : Int)) (lsmB ops) := by
      intro d
      induction d with
      | zero =>
        intro j x hd hj
        obtain rfl : j = ops.length := by omega
        refine Ev.step (f := fun _ => some false) (fun k => ?_) ?_
        · rw [PLedgerPlays.saleroomlaw17_small.l0, if_neg (by omega), if_neg (by omega)]
        · unfold lsmB
          rw [decide_eq_false h30, Bool.false_and]
          exact Ev.now _
      | succ d ih =>
        intro j x hd hj
        refine Ev.step (f := fun k => PLedgerPlays.saleroomlaw17_small.l0 k ops (wrap64 (x + mn (((PLedgerPlays.rd_T75 ops (j : Int)).f1).length : Int) 100)) ops (ops.length : Int) ((j + 1 : Nat) : Int)) (fun k => ?_) (ih (j + 1) _ (by omega) (by omega))
        rw [PLedgerPlays.saleroomlaw17_small.l0, if_pos (by omega), if_pos (by omega), if_pos (by omega), wrap_id (i := (j : Int) + 1) (by omega) (by omega)]
        rfl
    exact key _ 0 0 rfl (Nat.zero_le _)
theorem lsmall_any (W : World) (A : Option Addr) (c : Nat) (ops : List PLedgerPlays.S75) (hC : PLedgerPlays.k75.C W A ops.length ops) (hc : ops.length ≤ c) (hl : ops.length ≤ 9223372036854775807) :
    Calls Try.prog 30 #[.slice A ops.length c] W fun e w' => e = .returned (.bool (lsmB ops)) ∧ Below W.heap.size W w' := by
  obtain ⟨k, hk⟩ := (lsmall_ev ops hl).rounds
  exact PLedgerPlays.saleroomlaw17_small.calls k A c ops _ W hC hc hk
theorem lsmB_true {ops : List PLedgerPlays.S75} (h : lsmB ops = true) : ops.length ≤ 30 ∧ lsum ops ≤ 60 := by
  unfold lsmB at h
  simpa using h
theorem lsum_mem : ∀ {ops : List PLedgerPlays.S75}, ∀ o ∈ ops, min o.f1.length 100 ≤ lsum ops
  | [], o, h => by simp at h
  | q :: r, o, h => by
    unfold lsum
    rw [List.map_cons, List.sum_cons]
    rcases List.mem_cons.1 h with rfl | h
    · omega
    · have := lsum_mem o h
      unfold lsum at this
      omega
theorem lsm_one {ops : List PLedgerPlays.S75} (h : lsmB ops = true) : ∀ o ∈ ops, o.f1.length ≤ 60 := fun o ho => by
  have := lsum_mem o ho
  have := (lsmB_true h).2
  omega

end Go.Proofs.Ytmdacfgofilbdaa.Led

/- ledger, the statements' own: as, play. -/
set_option linter.unusedSimpArgs false
set_option linter.unusedVariables false
namespace Go.Proofs.Ytmdacfgofilbdaa.Led
open Go.RowKit Go.Proofs.Ytmdacfgofilbdaa.TabL Go.Proofs.YtmdacfgofilbdaaW.PrintWords
open Go.Proofs.Ytmdacfgofilbdaa.TabB (ltI lin getV TMg)
open Go.Proofs.Ytmdacfgofilbdaa.PLedgerPlays (S75 S78 k75 k78 k75_open k78_open)
attribute [local go_sem] Oper.semAt_some

def mv (x : S78) : Mv := (x.f0, x.f1, x.f2)
def ml (o : S75) : List Mv := o.f1.map mv
theorem ml_len (o : S75) : (ml o).length = o.f1.length := by unfold ml; simp
theorem rd_of_78 {w : World} {A : Option Addr} {c : Nat} {xs : List S78} (h : k78.C w A xs.length xs) : Rd cM 3 w.heap.size w (.slice A (xs.map mv).length c) (xs.map mv) := by
  by_cases hn : 0 < xs.length
  · obtain ⟨b, off, hA, hlt⟩ := C_spot h hn (show 0 < k78.sz by decide)
    refine .inr ⟨b, off, c, by rw [hA], hlt, fun j x hx i v hv => ?_⟩
    rw [List.getElem?_map] at hx
    obtain ⟨y, hy, rfl⟩ : ∃ y, xs[j]? = some y ∧ mv y = x := by
      cases hq : xs[j]? with
      | none => rw [hq] at hx; simp at hx
      | some y => rw [hq] at hx; exact ⟨y, rfl, by simpa using hx⟩
    obtain ⟨ad, hA', hc⟩ := h.2.2 hn
    rw [hA] at hA'
    obtain rfl := Option.some.inj hA'
    obtain ⟨cs, hl, hk, hcell⟩ := hc j y hy
    obtain rfl := k78_open hk
    have := hcell i v hv
    rw [addr_add] at this
    rw [show off + j * 3 + i = off + (j * k78.sz + i) from by show off + j * 3 + i = off + (j * 3 + i); omega]
    exact this
  · have : xs = [] := List.eq_nil_of_length_eq_zero (by omega)
    subst this
    exact .inl ⟨A, c, rfl, rfl⟩
theorem op75_at {w : World} {A : Option Addr} {ops : List S75} (h : k75.C w A ops.length ops) {k : Nat} {o : S75} (hk : ops[k]? = some o) : ∃ b off A3 c3, A = some ⟨b, off, none⟩ ∧ b < w.heap.size ∧ w.cell? ⟨b, off + k * 2, none⟩ = some (.bool o.f0) ∧ w.cell? ⟨b, off + k * 2 + 1, none⟩ = some (.slice A3 (ml o).length c3) ∧ o.f1.length ≤ c3 ∧ k78.C w A3 o.f1.length o.f1 := by
  have hlt := (List.getElem?_eq_some_iff.1 hk).1
  obtain ⟨b, off, rfl, hb⟩ := C_spot h (by omega) (show 0 < k75.sz by decide)
  obtain ⟨ad, e, hc⟩ := h.2.2 (by omega)
  obtain rfl := Option.some.inj e
  obtain ⟨cs, hl, hK, hcell⟩ := hc k o hk
  obtain ⟨A3, c3, rfl, l3, g3⟩ := k75_open hK
  have h0 := hcell 0 _ rfl
  have h1 := hcell 1 _ rfl
  rw [addr_add] at h0 h1
  exact ⟨b, off, A3, c3, rfl, hb, h0, by rw [ml_len]; exact h1, l3, g3⟩

end Go.Proofs.Ytmdacfgofilbdaa.Led

/- ledger, the statements' own: play. -/
set_option linter.unusedSimpArgs false
set_option linter.unusedVariables false
namespace Go.Proofs.Ytmdacfgofilbdaa.Led
open Go.RowKit Go.Proofs.Ytmdacfgofilbdaa.TabL Go.Proofs.YtmdacfgofilbdaaW.PrintWords
open Go.Proofs.Ytmdacfgofilbdaa.TabB (ltI lin getV TMg)
open Go.Proofs.Ytmdacfgofilbdaa.PLedgerPlays (S75 S78 k75 k78 k75_open k78_open)
attribute [local go_sem] Oper.semAt_some

theorem Fine.moves {ms : List Mv} : ∀ {xs : Bs}, Fine xs → Fine (movesL xs ms).2 := by
  induction ms with
  | nil => intro xs h; exact h
  | cons m r ih =>
    intro xs h
    unfold movesL
    split
    · exact ih (h.move m)
    · exact h
theorem Fine.all {xs : Bs} (h : Fine xs) (ms : List Mv) : Fine (allL xs ms) := by
  unfold allL
  split
  · exact h.moves
  · exact h
theorem Fine.stepN {xs : Bs} (h : Fine xs) (ms : List Mv) (k : Nat) : Fine (stepN xs ms k) := h.steps _
def goodOp (o : S75) : Prop := True ∧ (o.f1.length ≤ maxLen ∧ ∀ y ∈ o.f1, (Lit.int .i64 y.f0).wf = true ∧ (Lit.int .i64 y.f1).wf = true ∧ (Lit.int .i64 y.f2).wf = true)
theorem w64_of {x : Int} (h : (Lit.int .i64 x).wf = true) : w64 x := by
  unfold Lit.wf at h
  rw [Bool.and_eq_true, decide_eq_true_eq, decide_eq_true_eq] at h
  exact h
theorem goodOp.w {ops : List S75} (h : ∀ o ∈ ops, goodOp o) : ∀ o ∈ ops, ∀ m ∈ ml o, w64 m.1 ∧ w64 m.2.1 := by
  intro o ho m hm
  obtain ⟨y, hy, rfl⟩ := List.mem_map.1 hm
  exact ⟨w64_of ((h o ho).2.2 y hy).1, w64_of ((h o ho).2.2 y hy).2.1⟩

end Go.Proofs.Ytmdacfgofilbdaa.Led
