/- ledger, plain: an amount that goes and comes back. -/
import Derived.Test.YtmdacfgofilbdaaLed10
import Derived.Test.YtmdacfgofilbdaaHoldY
import Derived.Test.YtmdacfgofilbdaaPLedgerPlaysx5
import Derived.Test.YtmdacfgofilbdaaKd
import Derived.Test.YtmdacfgofilbdaaHoldDo
set_option linter.unusedSimpArgs false
set_option linter.unusedVariables false
namespace Go.Proofs.Ytmdacfgofilbdaa.Led
open Go.RowKit Go.Proofs.Ytmdacfgofilbdaa.TabL
open Go.Proofs.Ytmdacfgofilbdaa.TabB (ltI lin getV)

theorem moveL_get {xs : Bs} {m : Mv} (h0 : moveE (getV xs) m = 0) (a : Int) : getV (moveL xs m) a = if a = m.2.1 then getV xs m.2.1 + m.2.2 else if a = m.1 then getV xs m.1 - m.2.2 else getV xs a := by
  unfold moveL
  rw [if_pos h0, getV_setL, getV_setL]
theorem back_e {xs : Bs} (h : Fine xs) {f t n : Int} (h0 : moveE (getV xs) (f, t, n) = 0) : moveE (getV (moveL xs (f, t, n))) (t, f, n) = 0 := by
  obtain ⟨h1, h2, h3, h4, h5, h6, h7⟩ := moveE_zero h0
  dsimp only at h1 h2 h3 h4 h5 h6 h7
  have gt := moveL_get h0 t
  have gf := moveL_get h0 f
  dsimp only at gt gf
  rw [if_pos rfl] at gt
  rw [if_neg h3, if_pos rfl] at gf
  have b1 := h.bnd t
  have b2 := h.bnd f
  have p1 := h.pos t
  unfold moveE
  dsimp only
  rw [gt, gf, if_neg (by rw [h1, h2, h4]; simp; exact Ne.symm h3), if_neg (by intro ⟨hh, hk⟩; have := p1 hh; omega), if_neg (by omega)]
theorem back_l {xs : Bs} (h : Fine xs) {f t n : Int} (h0 : moveE (getV xs) (f, t, n) = 0) : moveL (moveL xs (f, t, n)) (t, f, n) = xs := by
  have he := back_e h h0
  obtain ⟨_, _, h3, _⟩ := moveE_zero h0
  dsimp only at h3
  refine Clean.ext ((h.cl.move _).move _) h.cl (fun a => ?_)
  rw [moveL_get he, moveL_get h0, moveL_get h0, moveL_get h0]
  dsimp only
  by_cases h1 : a = f
  · subst h1; rw [if_pos rfl, if_neg h3, if_pos rfl]; omega
  · rw [if_neg h1]
    by_cases h2 : a = t
    · subst h2; rw [if_pos rfl, if_pos rfl]; omega
    · rw [if_neg h2, if_neg h2, if_neg h1]
end Go.Proofs.Ytmdacfgofilbdaa.Led

/- ledger, the statements' own: small, as; the document's All. -/
set_option linter.unusedSimpArgs false
set_option linter.unusedVariables false
namespace Go.Proofs.Ytmdacfgofilbdaa.Led
open Go.RowKit Go.Proofs.Ytmdacfgofilbdaa.TabL Go.Proofs.YtmdacfgofilbdaaW.PrintWords
open Go.Proofs.Ytmdacfgofilbdaa.TabB (ltI lin getV TMg)
attribute [local go_sem] Oper.semAt_some

/-! small -/
end Go.Proofs.Ytmdacfgofilbdaa.Led

/- ledger, the statements' own: as, play. -/
set_option linter.unusedSimpArgs false
set_option linter.unusedVariables false
namespace Go.Proofs.Ytmdacfgofilbdaa.Led
open Go.RowKit Go.Proofs.Ytmdacfgofilbdaa.TabL Go.Proofs.YtmdacfgofilbdaaW.PrintWords
open Go.Proofs.Ytmdacfgofilbdaa.TabB (ltI lin getV TMg)
open Go.Proofs.Ytmdacfgofilbdaa.PLedgerPlays (S75 S78 k75 k78 k75_open k78_open)
attribute [local go_sem] Oper.semAt_some

def mv (x : S78) : Mv := (x.f0, x.f1, x.f2)
def ml (o : S75) : List Mv := o.f1.map mv
def tv (x : S78) : PLedgerPlays.S90 := ⟨x.f0, x.f1, x.f2⟩
def tw (x : PLedgerPlays.S90) : Mv := (x.f0, x.f1, x.f2)
theorem C_90 {w : World} {A : Option Addr} {n : Nat} {xs : List PLedgerPlays.S90} (h : PLedgerPlays.k90.C w A n xs) : Kd.C PHoldPlays.k90 w A n ((xs.map tw).map toV) := by
  refine ⟨by rw [List.length_map, List.length_map]; exact h.1, h.2.1, fun hn => ?_⟩
  obtain ⟨ad, e, hc⟩ := h.2.2 hn
  refine ⟨ad, e, fun j x hx => ?_⟩
  rw [List.map_map, List.getElem?_map] at hx
  cases hq : xs[j]? with
  | none => rw [hq] at hx; simp at hx
  | some y =>
    rw [hq] at hx
    obtain ⟨cs, hl, hk, hcell⟩ := hc j y hq
    obtain rfl := PLedgerPlays.k90_open hk
    obtain rfl : toV (tw y) = x := by simpa using hx
    exact ⟨_, rfl, PHoldPlays.k90_mk w _, hcell⟩
theorem as_ev (xs : List S78) (hl : xs.length ≤ 1000000) : Ev (fun k => PLedgerPlays.saleroomlaw17_as.f k xs) (xs.map tv) := by
  have key : ∀ d j, xs.length - j = d → j ≤ xs.length → Ev (fun k => PLedgerPlays.saleroomlaw17_as.l0 k ((xs.take j).map tv) xs (xs.length : Int) (j : Int)) (xs.map tv) := by
    intro d
    induction d with
    | zero =>
      intro j hd hj
      obtain rfl : j = xs.length := by omega
      refine Ev.step (f := fun _ => some (xs.map tv)) (fun k => ?_) (Ev.now _)
      rw [PLedgerPlays.saleroomlaw17_as.l0, if_neg (by omega), List.take_length]
    | succ d ih =>
      intro j hd hj
      have hlt : j < xs.length := by omega
      have hrd : PLedgerPlays.rd_T78 xs (j : Int) = xs[j] := by simp [PLedgerPlays.rd_T78, hlt]
      refine Ev.step (f := fun k => PLedgerPlays.saleroomlaw17_as.l0 k ((xs.take (j + 1)).map tv) xs (xs.length : Int) ((j + 1 : Nat) : Int)) (fun k => ?_) (ih (j + 1) (by omega) (by omega))
      rw [PLedgerPlays.saleroomlaw17_as.l0, if_pos (by omega), if_pos (by omega), if_pos (by omega), if_pos (by rw [List.length_map, List.length_take]; omega), hrd, wrap_id (by omega) (by omega), List.take_succ_eq_append_getElem hlt, List.map_append]
      rfl
  exact key _ 0 rfl (Nat.zero_le _)
theorem as_any (W : World) (A : Option Addr) (c : Nat) (xs : List S78) (hC : k78.C W A xs.length xs) (hc : xs.length ≤ c) (hl : xs.length ≤ 1000000) :
    Calls Try.prog 51 #[.slice A xs.length c] W fun e w' => ∃ v, e = .returned v ∧ PM w' v (xs.map mv) ∧ Below W.heap.size W w' := by
  obtain ⟨k, hk⟩ := (as_ev xs hl).rounds
  refine (PLedgerPlays.saleroomlaw17_as.calls k A c xs _ W hC hc hk).mono ?_
  rintro e w' ⟨v, rfl, hR, hB⟩
  obtain ⟨A', c', rfl, hl', hr⟩ := Kd.R_reads hR
  have h3 := (Kd.R_reads' hR).2.2
  have h90 := C_90 h3
  rw [show (xs.map tv).map tw = xs.map mv from by rw [List.map_map]; rfl] at h90
  refine ⟨_, rfl, ⟨A', c', ?_, ?_, ?_⟩, hB⟩
  · simp
  · simpa using hl'
  · simpa using h90
theorem rd_of_78 {w : World} {A : Option Addr} {c : Nat} {xs : List S78} (h : k78.C w A xs.length xs) : Rd cM 3 w.heap.size w (.slice A (xs.map mv).length c) (xs.map mv) := by
  by_cases hn : 0 < xs.length
  · obtain ⟨b, off, hA, hlt⟩ := C_spot h hn (show 0 < k78.sz by decide)
    refine .inr ⟨b, off, c, by rw [hA], hlt, fun j x hx i v hv => ?_⟩
    rw [List.getElem?_map] at hx
    obtain ⟨y, hy, rfl⟩ : ∃ y, xs[j]? = some y ∧ mv y = x := by
      cases hq : xs[j]? with
      | none => rw [hq] at hx; simp at hx
      | some y => rw [hq] at hx; exact ⟨y, rfl, by simpa using hx⟩
    obtain ⟨ad, hA', hc⟩ := h.2.2 hn
    rw [hA] at hA'
    obtain rfl := Option.some.inj hA'
    obtain ⟨cs, hl, hk, hcell⟩ := hc j y hy
    obtain rfl := k78_open hk
    have := hcell i v hv
    rw [addr_add] at this
    rw [show off + j * 3 + i = off + (j * k78.sz + i) from by show off + j * 3 + i = off + (j * 3 + i); omega]
    exact this
  · have : xs = [] := List.eq_nil_of_length_eq_zero (by omega)
    subst this
    exact .inl ⟨A, c, rfl, rfl⟩
end Go.Proofs.Ytmdacfgofilbdaa.Led

/- ledger, the statements' own: play. -/
set_option linter.unusedSimpArgs false
set_option linter.unusedVariables false
namespace Go.Proofs.Ytmdacfgofilbdaa.Led
open Go.RowKit Go.Proofs.Ytmdacfgofilbdaa.TabL Go.Proofs.YtmdacfgofilbdaaW.PrintWords
open Go.Proofs.Ytmdacfgofilbdaa.TabB (ltI lin getV TMg)
open Go.Proofs.Ytmdacfgofilbdaa.PLedgerPlays (S75 S78 k75 k78 k75_open k78_open)
attribute [local go_sem] Oper.semAt_some

theorem Fine.moves {ms : List Mv} : ∀ {xs : Bs}, Fine xs → Fine (movesL xs ms).2 := by
  induction ms with
  | nil => intro xs h; exact h
  | cons m r ih =>
    intro xs h
    unfold movesL
    split
    · exact ih (h.move m)
    · exact h
theorem Fine.all {xs : Bs} (h : Fine xs) (ms : List Mv) : Fine (allL xs ms) := by
  unfold allL
  split
  · exact h.moves
  · exact h
theorem Fine.stepN {xs : Bs} (h : Fine xs) (ms : List Mv) (k : Nat) : Fine (stepN xs ms k) := h.steps _
theorem pm_nil2 (W : World) (A : Option Addr) : PM W (.slice A 0 0) [] := ⟨A, 0, rfl, Nat.le_refl _, rfl, by simp, fun h => absurd h (by simp)⟩
theorem Rel.stepNR {xs : Bs} {ms : List Mv} (h : Rel xs ms) (l : List Mv) : ∀ k, Rel (stepN xs l k) (stepR ms l k) := fun k => by
  unfold stepN stepR
  generalize l.take k = r
  induction r generalizing xs ms with
  | nil => exact h
  | cons m r ih => rw [List.foldl_cons, List.foldl_cons]; exact ih (h.step m)
def goodOp (o : S75) : Prop := True ∧ (o.f1.length ≤ maxLen ∧ ∀ y ∈ o.f1, (Lit.int .i64 y.f0).wf = true ∧ (Lit.int .i64 y.f1).wf = true ∧ (Lit.int .i64 y.f2).wf = true)
theorem w64_of {x : Int} (h : (Lit.int .i64 x).wf = true) : w64 x := by
  unfold Lit.wf at h
  rw [Bool.and_eq_true, decide_eq_true_eq, decide_eq_true_eq] at h
  exact h
theorem goodOp.w {ops : List S75} (h : ∀ o ∈ ops, goodOp o) : ∀ o ∈ ops, ∀ m ∈ ml o, w64 m.1 ∧ w64 m.2.1 := by
  intro o ho m hm
  obtain ⟨y, hy, rfl⟩ := List.mem_map.1 hm
  exact ⟨w64_of ((h o ho).2.2 y hy).1, w64_of ((h o ho).2.2 y hy).2.1⟩

end Go.Proofs.Ytmdacfgofilbdaa.Led
