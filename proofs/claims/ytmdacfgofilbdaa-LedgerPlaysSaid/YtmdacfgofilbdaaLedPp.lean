/- ledger, plain: an amount that goes and comes back. -/
import Derived.Test.YtmdacfgofilbdaaLed10
import Derived.Test.YtmdacfgofilbdaaHoldY
import Derived.Test.YtmdacfgofilbdaaPLedgerPlaysx5
import Derived.Test.YtmdacfgofilbdaaKd
import Derived.Test.YtmdacfgofilbdaaHoldDo
set_option linter.unusedSimpArgs false
set_option linter.unusedVariables false
namespace Go.Proofs.Ytmdacfgofilbdaa.Led
open Go.RowKit Go.Proofs.Ytmdacfgofilbdaa.TabL
open Go.Proofs.Ytmdacfgofilbdaa.TabB (ltI lin getV)

end Go.Proofs.Ytmdacfgofilbdaa.Led

/- ledger, the statements' own: small, as; the document's All. -/
set_option linter.unusedSimpArgs false
set_option linter.unusedVariables false
namespace Go.Proofs.Ytmdacfgofilbdaa.Led
open Go.RowKit Go.Proofs.Ytmdacfgofilbdaa.TabL Go.Proofs.YtmdacfgofilbdaaW.PrintWords
open Go.Proofs.Ytmdacfgofilbdaa.TabB (ltI lin getV TMg)
attribute [local go_sem] Oper.semAt_some

set_option maxRecDepth 100000 in
set_option maxHeartbeats 8000000 in
theorem rall_any (W : World) (v1 v2 : Value) (ms l : List Mv) (h : PM W v1 ms) (h2 : PM W v2 l) (hg : Good ms) (hl : ms.length ≤ 100000) (hn : l.length ≤ 100000) :
    Calls Try.prog 67 #[v1, v2] W fun e w' => ∃ v', e = .returned (.tuple #[v', .int .i64 (movesR ms l).1]) ∧ PM w' v' (allR ms l) ∧ Below W.heap.size W w' := by
  obtain ⟨A1, c1, rfl, hc1, -⟩ := id h
  obtain ⟨A2, c2, rfl, hc2, -⟩ := id h2
  have H1 := Lib.hid h; have H2 := Lib.hid h2
  clear h h2
  go_enter Try.func67, Try.ntmps67
  go_wp2_with fail
  go_loopw [6, 7] (fun o i wr => ∃ k : Nat, i = .int .i64 (k : Int) ∧ k ≤ l.length ∧ (∀ j m, j < k → l[j]? = some m → moveE (bal (stepR ms l j)) m = 0) ∧ PM wr o (stepR ms l k) ∧ Below W.heap.size W wr)
    (fun _ i _ => l.length - (match i with | .int _ n => n.toNat | _ => 0))
  case atStart => exact ⟨0, rfl, Nat.zero_le _, fun j m hj => by omega, H1.out, Below.refl _ _⟩
  case round =>
    obtain ⟨k, rfl, hk, hz, hP, hB⟩ := hrel
    by_cases hlt : k < l.length
    · obtain ⟨⟨f, t, n⟩, hget⟩ : ∃ o, l[k]? = some o := ⟨_, List.getElem?_eq_getElem hlt⟩
      obtain ⟨b, off, c3, e1, q0, q1, q2⟩ := (H2.out.below hB).at hget
      obtain ⟨rfl, rfl⟩ : A2 = some ⟨b, off, none⟩ ∧ c2 = c3 := by injection e1 with e1 e2 e3; exact ⟨e1, e3⟩
      simp only at q0 q1 q2
      have hlk := stepR_len ms l k
      have HT := Lib.hid (try_any wr u6 (stepR ms l k) f t n hP (stepR_good hg l k) (by omega))
      rw [← stepR_succ ms l hget] at HT
      have HZ := Lib.hid hz; have HB := Lib.hid hB; have HG := Lib.hid hget
      obtain ⟨ev, hev⟩ : ∃ ev, moveE (bal (stepR ms l k)) (f, t, n) = ev := ⟨_, rfl⟩
      have HEV := Lib.hid hev
      rw [hev] at HT
      clear hz hP hB hev e1 hget hlk
      go_wp2_with fail
      refine HT.out.mono ?_; rintro e w3 ⟨v3, rfl, hP3, hb3⟩
      have HP3 := Lib.hid hP3
      have HB3 := Lib.hid (HB.out.trans (hb3.mono HB.out.size))
      clear hP3 hb3 HT
      by_cases he : ev = 0
      · subst he
        go_wp2_with fail
        go_roundw
        case rel => exact ⟨k + 1, by congr 1, by omega, fun j m hj hm => by
          by_cases hjk : j = k
          · subst hjk; rw [HG.out] at hm; cases hm; exact HEV.out
          · exact HZ.out j m (by omega) hm, HP3.out, HB3.out⟩
        case measure => simp; omega
      · have hst := movesR_stop HZ.out HG.out (by rw [HEV.out]; exact he)
        rw [HEV.out] at hst
        have heb : (ev == 0) = false := by simp [he]
        have HST := Lib.hid hst
        clear hst
        go_wp2_with fail
        go_ret2
        exact ⟨_, by rw [HST.out.1]; rfl, by rw [HST.out.2]; exact H1.out.below HB3.out, HB3.out⟩
    · obtain rfl : k = l.length := by omega
      have HE := Lib.hid (movesR_end hz)
      have HP := Lib.hid hP; have HB := Lib.hid hB
      clear hz hP hB
      go_wp2_with fail
      go_ret2
      exact ⟨_, by rw [HE.out.1]; rfl, by rw [HE.out.2]; exact HP.out, HB.out⟩

/-! small -/
def lsum (ops : List PLedgerPlays.S75) : Nat := (ops.map (fun o => min o.f1.length 100)).sum
def lsmB (ops : List PLedgerPlays.S75) : Bool := decide (ops.length ≤ 30) && decide (lsum ops ≤ 60)
theorem lsum_take {ops : List PLedgerPlays.S75} {j : Nat} (hj : j < ops.length) : lsum (ops.take (j + 1)) = lsum (ops.take j) + min ops[j].f1.length 100 := by
  unfold lsum
  rw [List.take_succ_eq_append_getElem hj, List.map_append, List.sum_append]
  simp
theorem lsum_le : ∀ (ops : List PLedgerPlays.S75), lsum ops ≤ 100 * ops.length
  | [] => by simp [lsum]
  | o :: r => by
    have := lsum_le r
    unfold lsum at *
    rw [List.map_cons, List.sum_cons, List.length_cons]
    omega
theorem lsmall_ev (ops : List PLedgerPlays.S75) (hl : ops.length ≤ 9223372036854775807) : Ev (fun k => PLedgerPlays.saleroomlaw17_small.f k ops) (lsmB ops) := by
  by_cases h30 : ops.length ≤ 30
  · have key : ∀ d j, ops.length - j = d → j ≤ ops.length → Ev (fun k => PLedgerPlays.saleroomlaw17_small.l0 k ops ((lsum (ops.take j) : Nat) : Int) ops (ops.length : Int) (j : Int)) (lsmB ops) := by
      intro d
      induction d with
      | zero =>
        intro j hd hj
        obtain rfl : j = ops.length := by omega
        refine Ev.step (f := fun _ => some (decide (lsum ops ≤ 60))) (fun k => ?_) ?_
        · rw [PLedgerPlays.saleroomlaw17_small.l0, if_neg (by omega), if_pos (by omega), List.take_length]
          congr 1
          exact decide_eq_decide.2 (by omega)
        · unfold lsmB
          rw [decide_eq_true h30, Bool.true_and]
          exact Ev.now _
      | succ d ih =>
        intro j hd hj
        have hlt : j < ops.length := by omega
        have hrd : PLedgerPlays.rd_T75 ops (j : Int) = ops[j] := by simp [PLedgerPlays.rd_T75, hlt]
        have hs := lsum_take hlt
        have hb := lsum_le (ops.take j)
        rw [List.length_take] at hb
        refine Ev.step (f := fun k => PLedgerPlays.saleroomlaw17_small.l0 k ops ((lsum (ops.take (j + 1)) : Nat) : Int) ops (ops.length : Int) ((j + 1 : Nat) : Int)) (fun k => ?_) (ih (j + 1) (by omega) (by omega))
        have hm : mn ((ops[j].f1.length : Nat) : Int) 100 = ((min ops[j].f1.length 100 : Nat) : Int) := by unfold mn; split <;> omega
        rw [PLedgerPlays.saleroomlaw17_small.l0, if_pos (by omega), if_pos (by omega), if_pos (by omega), hrd, hm, wrap_id (by omega) (by omega), wrap_id (by omega) (by omega), hs]
        rfl
    exact key _ 0 rfl (Nat.zero_le _)
  · have key : ∀ d j x, ops.length - j = d → j ≤ ops.length → Ev (fun k => PLedgerPlays.saleroomlaw17_small.l0 k ops x ops (ops.length : Int) (j : Int)) (lsmB ops) := by
      intro d
      induction d with
      | zero =>
        intro j x hd hj
        obtain rfl : j = ops.length := by omega
        refine Ev.step (f := fun _ => some false) (fun k => ?_) ?_
        · rw [PLedgerPlays.saleroomlaw17_small.l0, if_neg (by omega), if_neg (by omega)]
        · unfold lsmB
          rw [decide_eq_false h30, Bool.false_and]
          exact Ev.now _
      | succ d ih =>
        intro j x hd hj
        refine Ev.step (f := fun k => PLedgerPlays.saleroomlaw17_small.l0 k ops (wrap64 (x + mn (((PLedgerPlays.rd_T75 ops (j : Int)).f1).length : Int) 100)) ops (ops.length : Int) ((j + 1 : Nat) : Int)) (fun k => ?_) (ih (j + 1) _ (by omega) (by omega))
        rw [PLedgerPlays.saleroomlaw17_small.l0, if_pos (by omega), if_pos (by omega), if_pos (by omega), wrap_id (i := (j : Int) + 1) (by omega) (by omega)]
        rfl
    exact key _ 0 0 rfl (Nat.zero_le _)
theorem lsmall_any (W : World) (A : Option Addr) (c : Nat) (ops : List PLedgerPlays.S75) (hC : PLedgerPlays.k75.C W A ops.length ops) (hc : ops.length ≤ c) (hl : ops.length ≤ 9223372036854775807) :
    Calls Try.prog 30 #[.slice A ops.length c] W fun e w' => e = .returned (.bool (lsmB ops)) ∧ Below W.heap.size W w' := by
  obtain ⟨k, hk⟩ := (lsmall_ev ops hl).rounds
  exact PLedgerPlays.saleroomlaw17_small.calls k A c ops _ W hC hc hk
theorem lsmB_true {ops : List PLedgerPlays.S75} (h : lsmB ops = true) : ops.length ≤ 30 ∧ lsum ops ≤ 60 := by
  unfold lsmB at h
  simpa using h
theorem lsum_mem : ∀ {ops : List PLedgerPlays.S75}, ∀ o ∈ ops, min o.f1.length 100 ≤ lsum ops
  | [], o, h => by simp at h
  | q :: r, o, h => by
    unfold lsum
    rw [List.map_cons, List.sum_cons]
    rcases List.mem_cons.1 h with rfl | h
    · omega
    · have := lsum_mem o h
      unfold lsum at this
      omega
theorem lsm_one {ops : List PLedgerPlays.S75} (h : lsmB ops = true) : ∀ o ∈ ops, o.f1.length ≤ 60 := fun o ho => by
  have := lsum_mem o ho
  have := (lsmB_true h).2
  omega

end Go.Proofs.Ytmdacfgofilbdaa.Led

/- ledger, the statements' own: as, play. -/
set_option linter.unusedSimpArgs false
set_option linter.unusedVariables false
namespace Go.Proofs.Ytmdacfgofilbdaa.Led
open Go.RowKit Go.Proofs.Ytmdacfgofilbdaa.TabL Go.Proofs.YtmdacfgofilbdaaW.PrintWords
open Go.Proofs.Ytmdacfgofilbdaa.TabB (ltI lin getV TMg)
open Go.Proofs.Ytmdacfgofilbdaa.PLedgerPlays (S75 S78 k75 k78 k75_open k78_open)
attribute [local go_sem] Oper.semAt_some

def mv (x : S78) : Mv := (x.f0, x.f1, x.f2)
def ml (o : S75) : List Mv := o.f1.map mv
theorem ml_len (o : S75) : (ml o).length = o.f1.length := by unfold ml; simp
def tv (x : S78) : PLedgerPlays.S90 := ⟨x.f0, x.f1, x.f2⟩
def tw (x : PLedgerPlays.S90) : Mv := (x.f0, x.f1, x.f2)
theorem C_90 {w : World} {A : Option Addr} {n : Nat} {xs : List PLedgerPlays.S90} (h : PLedgerPlays.k90.C w A n xs) : Kd.C PHoldPlays.k90 w A n ((xs.map tw).map toV) := by
  refine ⟨by rw [List.length_map, List.length_map]; exact h.1, h.2.1, fun hn => ?_⟩
  obtain ⟨ad, e, hc⟩ := h.2.2 hn
  refine ⟨ad, e, fun j x hx => ?_⟩
  rw [List.map_map, List.getElem?_map] at hx
  cases hq : xs[j]? with
  | none => rw [hq] at hx; simp at hx
  | some y =>
    rw [hq] at hx
    obtain ⟨cs, hl, hk, hcell⟩ := hc j y hq
    obtain rfl := PLedgerPlays.k90_open hk
    obtain rfl : toV (tw y) = x := by simpa using hx
    exact ⟨_, rfl, PHoldPlays.k90_mk w _, hcell⟩
theorem as_ev (xs : List S78) (hl : xs.length ≤ 1000000) : Ev (fun k => PLedgerPlays.saleroomlaw17_as.f k xs) (xs.map tv) := by
  have key : ∀ d j, xs.length - j = d → j ≤ xs.length → Ev (fun k => PLedgerPlays.saleroomlaw17_as.l0 k ((xs.take j).map tv) xs (xs.length : Int) (j : Int)) (xs.map tv) := by
    intro d
    induction d with
    | zero =>
      intro j hd hj
      obtain rfl : j = xs.length := by omega
      refine Ev.step (f := fun _ => some (xs.map tv)) (fun k => ?_) (Ev.now _)
      rw [PLedgerPlays.saleroomlaw17_as.l0, if_neg (by omega), List.take_length]
    | succ d ih =>
      intro j hd hj
      have hlt : j < xs.length := by omega
      have hrd : PLedgerPlays.rd_T78 xs (j : Int) = xs[j] := by simp [PLedgerPlays.rd_T78, hlt]
      refine Ev.step (f := fun k => PLedgerPlays.saleroomlaw17_as.l0 k ((xs.take (j + 1)).map tv) xs (xs.length : Int) ((j + 1 : Nat) : Int)) (fun k => ?_) (ih (j + 1) (by omega) (by omega))
      rw [PLedgerPlays.saleroomlaw17_as.l0, if_pos (by omega), if_pos (by omega), if_pos (by omega), if_pos (by rw [List.length_map, List.length_take]; omega), hrd, wrap_id (by omega) (by omega), List.take_succ_eq_append_getElem hlt, List.map_append]
      rfl
  exact key _ 0 rfl (Nat.zero_le _)
theorem as_any (W : World) (A : Option Addr) (c : Nat) (xs : List S78) (hC : k78.C W A xs.length xs) (hc : xs.length ≤ c) (hl : xs.length ≤ 1000000) :
    Calls Try.prog 51 #[.slice A xs.length c] W fun e w' => ∃ v, e = .returned v ∧ PM w' v (xs.map mv) ∧ Below W.heap.size W w' := by
  obtain ⟨k, hk⟩ := (as_ev xs hl).rounds
  refine (PLedgerPlays.saleroomlaw17_as.calls k A c xs _ W hC hc hk).mono ?_
  rintro e w' ⟨v, rfl, hR, hB⟩
  obtain ⟨A', c', rfl, hl', hr⟩ := Kd.R_reads hR
  have h3 := (Kd.R_reads' hR).2.2
  have h90 := C_90 h3
  rw [show (xs.map tv).map tw = xs.map mv from by rw [List.map_map]; rfl] at h90
  refine ⟨_, rfl, ⟨A', c', ?_, ?_, ?_⟩, hB⟩
  · simp
  · simpa using hl'
  · simpa using h90
theorem rd_of_78 {w : World} {A : Option Addr} {c : Nat} {xs : List S78} (h : k78.C w A xs.length xs) : Rd cM 3 w.heap.size w (.slice A (xs.map mv).length c) (xs.map mv) := by
  by_cases hn : 0 < xs.length
  · obtain ⟨b, off, hA, hlt⟩ := C_spot h hn (show 0 < k78.sz by decide)
    refine .inr ⟨b, off, c, by rw [hA], hlt, fun j x hx i v hv => ?_⟩
    rw [List.getElem?_map] at hx
    obtain ⟨y, hy, rfl⟩ : ∃ y, xs[j]? = some y ∧ mv y = x := by
      cases hq : xs[j]? with
      | none => rw [hq] at hx; simp at hx
      | some y => rw [hq] at hx; exact ⟨y, rfl, by simpa using hx⟩
    obtain ⟨ad, hA', hc⟩ := h.2.2 hn
    rw [hA] at hA'
    obtain rfl := Option.some.inj hA'
    obtain ⟨cs, hl, hk, hcell⟩ := hc j y hy
    obtain rfl := k78_open hk
    have := hcell i v hv
    rw [addr_add] at this
    rw [show off + j * 3 + i = off + (j * k78.sz + i) from by show off + j * 3 + i = off + (j * 3 + i); omega]
    exact this
  · have : xs = [] := List.eq_nil_of_length_eq_zero (by omega)
    subst this
    exact .inl ⟨A, c, rfl, rfl⟩
theorem op75_at {w : World} {A : Option Addr} {ops : List S75} (h : k75.C w A ops.length ops) {k : Nat} {o : S75} (hk : ops[k]? = some o) : ∃ b off A3 c3, A = some ⟨b, off, none⟩ ∧ b < w.heap.size ∧ w.cell? ⟨b, off + k * 2, none⟩ = some (.bool o.f0) ∧ w.cell? ⟨b, off + k * 2 + 1, none⟩ = some (.slice A3 (ml o).length c3) ∧ o.f1.length ≤ c3 ∧ k78.C w A3 o.f1.length o.f1 := by
  have hlt := (List.getElem?_eq_some_iff.1 hk).1
  obtain ⟨b, off, rfl, hb⟩ := C_spot h (by omega) (show 0 < k75.sz by decide)
  obtain ⟨ad, e, hc⟩ := h.2.2 (by omega)
  obtain rfl := Option.some.inj e
  obtain ⟨cs, hl, hK, hcell⟩ := hc k o hk
  obtain ⟨A3, c3, rfl, l3, g3⟩ := k75_open hK
  have h0 := hcell 0 _ rfl
  have h1 := hcell 1 _ rfl
  rw [addr_add] at h0 h1
  exact ⟨b, off, A3, c3, rfl, hb, h0, by rw [ml_len]; exact h1, l3, g3⟩

end Go.Proofs.Ytmdacfgofilbdaa.Led

/- ledger, the statements' own: play. -/
set_option linter.unusedSimpArgs false
set_option linter.unusedVariables false
namespace Go.Proofs.Ytmdacfgofilbdaa.Led
open Go.RowKit Go.Proofs.Ytmdacfgofilbdaa.TabL Go.Proofs.YtmdacfgofilbdaaW.PrintWords
open Go.Proofs.Ytmdacfgofilbdaa.TabB (ltI lin getV TMg)
open Go.Proofs.Ytmdacfgofilbdaa.PLedgerPlays (S75 S78 k75 k78 k75_open k78_open)
attribute [local go_sem] Oper.semAt_some

theorem Fine.moves {ms : List Mv} : ∀ {xs : Bs}, Fine xs → Fine (movesL xs ms).2 := by
  induction ms with
  | nil => intro xs h; exact h
  | cons m r ih =>
    intro xs h
    unfold movesL
    split
    · exact ih (h.move m)
    · exact h
theorem Fine.all {xs : Bs} (h : Fine xs) (ms : List Mv) : Fine (allL xs ms) := by
  unfold allL
  split
  · exact h.moves
  · exact h
theorem Fine.stepN {xs : Bs} (h : Fine xs) (ms : List Mv) (k : Nat) : Fine (stepN xs ms k) := h.steps _
theorem pm_nil2 (W : World) (A : Option Addr) : PM W (.slice A 0 0) [] := ⟨A, 0, rfl, Nat.le_refl _, rfl, by simp, fun h => absurd h (by simp)⟩
theorem Rel.stepNR {xs : Bs} {ms : List Mv} (h : Rel xs ms) (l : List Mv) : ∀ k, Rel (stepN xs l k) (stepR ms l k) := fun k => by
  unfold stepN stepR
  generalize l.take k = r
  induction r generalizing xs ms with
  | nil => exact h
  | cons m r ih => rw [List.foldl_cons, List.foldl_cons]; exact ih (h.step m)
theorem pm_tm {W W' : World} {v : Value} {l : List Mv} {p : Nat} {xs : Bs} {tt : TypeId} (h : PM W v l) (ht : TMg tt W p xs) (hg : W.grownBy W' (some p)) : PM W' v l := by
  obtain ⟨q, T0, hb, _, _⟩ := ht
  exact h.turn hb hg
/-- what stands while play goes on -/
structure PS (W : World) (p : Nat) (xs : Bs) (ms : List Mv) (v : Value) (wr : World) : Prop where
  t : TMg tL wr p xs
  pm : PM wr v ms
  rel : Rel xs ms
  fine : Fine xs
  b : Below W.heap.size W wr
set_option maxRecDepth 100000 in
set_option maxHeartbeats 8000000 in
theorem play_any (W : World) (A : Option Addr) (c : Nat) (ops : List S75) (hC : k75.C W A ops.length ops) (hs : lsmB ops = true) (hw : ∀ o ∈ ops, ∀ m ∈ ml o, w64 m.1 ∧ w64 m.2.1) :
    Calls Try.prog 31 #[.slice A ops.length c] W fun e w' => ∃ v xs ms, e = .returned (.tuple #[.pointer (some ⟨W.heap.size, 0, none⟩), v, .bool true]) ∧ PS W W.heap.size xs ms v w' ∧ ms.length ≤ 60 := by
  have HC := Lib.hid hC
  have h60 := lsm_one hs
  obtain ⟨h30, hsm⟩ := lsmB_true hs
  have hT0 : TMg tL (W.alloc (.cells #[.pointer none] 30)) W.heap.size [] := ⟨none, .leaf, Blk.new W [.pointer none] _, rfl, rfl⟩
  have hal : Below W.heap.size W ((W.alloc (.cells #[.pointer none] 30)).alloc (.cells #[] 90)) := ((Below.refl _ W).alloc (Nat.le_refl _) _).alloc (by simp) _
  have hT1 := hT0.below ((Below.refl _ (W.alloc (.cells #[.pointer none] 30))).alloc (Nat.le_refl _) (.cells #[] 90))
  have H0 := Lib.hid (show PS W W.heap.size [] [] (.slice (some ⟨W.heap.size + 1, 0, none⟩) 0 0) _ from ⟨hT1, pm_nil2 _ _, Rel.nil, Fine.nil, hal⟩)
  clear hC hs hT0 hal hT1
  go_enter Try.func31, Try.ntmps31
  go_wp2_with fail
  go_loopw [6, 22] (fun v i wr => ∃ (k : Nat) (xs : Bs) (ms : List Mv), i = .int .i64 (k : Int) ∧ k ≤ ops.length ∧ PS W W.heap.size xs ms v wr ∧ ms.length ≤ lsum (ops.take k))
    (fun _ i _ => ops.length - (match i with | .int _ n => n.toNat | _ => 0))
  case atStart => exact ⟨0, [], [], rfl, Nat.zero_le _, H0.out, Nat.zero_le _⟩
  case round =>
    clear H0
    obtain ⟨k, xs, ms, rfl, hk, hP, hlm⟩ := hrel
    by_cases hlt : k < ops.length
    · obtain ⟨o, hget⟩ : ∃ o, ops[k]? = some o := ⟨_, List.getElem?_eq_getElem hlt⟩
      have hmem := List.mem_of_getElem? hget
      obtain ⟨b, off, A3, c3, rfl, hbW, h0, h1, l3, g3⟩ := op75_at HC.out hget
      have q0 := (hP.b.cell (p := ⟨b, off + k * 2, none⟩) hbW).trans h0
      have q1 := (hP.b.cell (p := ⟨b, off + k * 2 + 1, none⟩) hbW).trans h1
      have hsum := lsum_take hlt
      have ho6 := h60 o hmem
      have hoe : ops[k] = o := by rw [List.getElem?_eq_getElem hlt] at hget; exact Option.some.inj hget
      rw [hoe] at hsum
      have hml := ml_len o
      have hln : (ml o).length ≤ 60 := by omega
      have hl2 : lsum (ops.take k) + (ml o).length = lsum (ops.take (k + 1)) := by rw [hsum, hml]; omega
      have hl3 : lsum (ops.take (k + 1)) ≤ 3000 := by have := lsum_le (ops.take (k + 1)); rw [List.length_take] at this; omega
      have hwo := hw o hmem
      have hxl := hP.fine.len
      have HP := Lib.hid hP; have G3 := Lib.hid g3; have HWO := Lib.hid hwo
      have HAL := Lib.hid ((Below.refl wr.heap.size wr).alloc (Nat.le_refl _) (.cells #[.bool o.f0, .slice A3 (ml o).length c3] 75))
      obtain ⟨wa, hwa⟩ : ∃ wa, wr.alloc (.cells #[.bool o.f0, .slice A3 (ml o).length c3] 75) = wa := ⟨_, rfl⟩
      have HBL := Lib.hid (Blk.new wr [.bool o.f0, .slice A3 (ml o).length c3] 75)
      have HWA := Lib.hid hwa
      clear hP g3 hwo h0 h1 hsum hoe hget hmem hwa hml
      obtain ⟨of0, hof⟩ : ∃ of0, o.f0 = of0 := ⟨_, rfl⟩
      rw [hof] at q0 HAL HBL HWA
      clear hof
      cases of0 with
      | true =>
        have hal := HAL.out; rw [HWA.out] at hal
        have hBL := HBL.out; rw [HWA.out] at hBL
        have hBa := HP.out.b.trans (hal.mono HP.out.b.size)
        have hRd := ((rd_of_78 (c := c3) G3.out).below hBa).mono hBa.size
        have hTa := HP.out.t.below hal
        have MV := moves_any wa W.heap.size xs A3 c3 (ml o) (tt := tL) (by decide) hTa HP.out.fine.cl.sd (by omega) (by omega) HP.out.fine.bnd hRd HWO.out
        have hee := (Rel.moves (ml o) HP.out.rel).1
        obtain ⟨ev, hev⟩ : ∃ ev, (movesL xs (ml o)).1 = ev := ⟨_, rfl⟩
        rw [hev] at MV hee
        have HMV := Lib.hid MV; have HEE := Lib.hid hee.symm
        have HA := Lib.hid (And.intro hTa (And.intro hBL (And.intro (HP.out.pm.below hal) hBa)))
        clear MV hee hal hBL hBa hRd hTa hev
        go_wp2_with fail
        rw [HWA.out]
        refine HMV.out.mono ?_; rintro e w3 ⟨rfl, hT3, hg3⟩
        have hB3 := HA.out.2.2.2.grown hg3 HA.out.2.2.2.size (fun r e => by cases e; exact Nat.le_refl _)
        have hP3 := pm_tm HA.out.2.2.1 HA.out.1 hg3
        have hwl := HP.out.t.lt
        have hBl3 := HA.out.2.1.kept hg3 (by simp; omega)
        have e0 := hBl3.cell (i := 0) rfl
        have e1 := hBl3.cell (i := 1) rfl
        have HQ := Lib.hid (And.intro hT3 (And.intro hP3 hB3))
        clear hT3 hg3 hP3 hB3 hBl3 HMV
        have as0 := as_any w3 A3 c3 o.f1 (Kd.C_below G3.out HQ.out.2.2) l3 (by omega)
        rw [← ml_len o] at as0
        have AS := Lib.hid as0
        clear as0
        go_wp2_with fail
        refine AS.out.mono ?_; rintro e w4 ⟨va, rfl, hPa, hb4⟩
        have HB4 := Lib.hid (HQ.out.2.2.trans (hb4.mono HQ.out.2.2.size))
        have HT4 := Lib.hid (HQ.out.1.below hb4)
        have AL := Lib.hid (rall_any w4 u6 va ms (ml o) (HQ.out.2.1.below hb4) hPa HP.out.rel.good (by omega) (by omega))
        rw [HEE.out] at AL
        clear hPa hb4 AS HQ e0 e1
        go_wp2_with fail
        refine AL.out.mono ?_; rintro e w5 ⟨v5, rfl, hP5, hb5⟩
        have HF := Lib.hid (show PS W W.heap.size (allL xs (ml o)) (allR ms (ml o)) v5 w5 from ⟨HT4.out.below hb5, hP5, HP.out.rel.all (ml o), HP.out.fine.all (ml o), HB4.out.trans (hb5.mono HB4.out.size)⟩)
        have hal2 := allR_len ms (ml o)
        have eb : (ev == ev) = true := by simp
        clear hP5 hb5 AL
        go_wp2_with fail
        go_roundw
        case rel => exact ⟨k + 1, _, _, by congr 1, by omega, HF.out, by omega⟩
        case measure => simp; omega
      | false =>
        have hal := HAL.out; rw [HWA.out] at hal
        have HPa := Lib.hid (show PS W W.heap.size xs ms u6 wa from ⟨HP.out.t.below hal, HP.out.pm.below hal, HP.out.rel, HP.out.fine, HP.out.b.trans (hal.mono HP.out.b.size)⟩)
        have RD := Lib.hid (rd_of_78 (c := c3) G3.out)
        clear hal
        go_wp2_with fail
        rw [HWA.out]
        go_loopw [6, 49] (fun v i wr2 => ∃ j : Nat, i = .int .i64 (j : Int) ∧ j ≤ (ml o).length ∧ PS W W.heap.size (stepN xs (ml o) j) (stepR ms (ml o) j) v wr2)
          (fun _ i _ => (ml o).length - (match i with | .int _ n => n.toNat | _ => 0))
        case atStart => exact ⟨0, rfl, Nat.zero_le _, HPa.out⟩
        case round =>
          clear HPa
          obtain ⟨j, rfl, hj, hS⟩ := hrel
          have HS := Lib.hid hS
          clear hS
          have hsl := stepR_len ms (ml o) j
          by_cases hlj : j < (ml o).length
          · obtain ⟨⟨f, t, n⟩, hgm⟩ : ∃ m, (ml o)[j]? = some m := ⟨_, List.getElem?_eq_getElem hlj⟩
            obtain ⟨b3, off3, c4, e1, hlb, r0, r1, r2⟩ := rd_at (RD.out.below HS.out.b) hgm
            obtain ⟨rfl, rfl⟩ : A3 = some ⟨b3, off3, none⟩ ∧ c3 = c4 := by injection e1 with e1 e2 e3; exact ⟨e1, e3⟩
            simp only at r0 r1 r2
            have hwm := HWO.out _ (List.mem_of_getElem? hgm)
            have hal := (Below.refl wr.heap.size wr).alloc (Nat.le_refl _) (.cells #[.int .i64 f, .int .i64 t, .int .i64 n] 78)
            have hbl := Blk.new wr [.int .i64 f, .int .i64 t, .int .i64 n] 78
            have hTa := HS.out.t.below hal
            have hPa := HS.out.pm.below hal
            have hBa := HS.out.b.trans (hal.mono HS.out.b.size)
            have hfl := HS.out.fine.len
            have MV := move_any _ W.heap.size (stepN xs (ml o) j) f t n (tt := tL) (by decide) hTa HS.out.fine.cl.sd (by omega) HS.out.fine.bnd hwm.1 hwm.2
            rw [← stepN_succ xs (ml o) hgm] at MV
            have hee := HS.out.rel.moveE (f, t, n)
            obtain ⟨ev, hev⟩ : ∃ ev, moveE (getV (stepN xs (ml o) j)) (f, t, n) = ev := ⟨_, rfl⟩
            rw [hev] at MV hee
            have HMV := Lib.hid MV; have HEE := Lib.hid hee.symm; have HGM := Lib.hid hgm
            have HA := Lib.hid (And.intro hTa (And.intro hbl (And.intro hPa hBa)))
            clear MV hee hev hal hbl hTa hPa hBa hgm e1 hwm
            have hwl := HS.out.t.lt
            go_wp2_with fail
            refine HMV.out.mono ?_; rintro e w3 ⟨rfl, hT3, hg3⟩
            have hB3 := HA.out.2.2.2.grown hg3 HA.out.2.2.2.size (fun r e => by cases e; exact Nat.le_refl _)
            have hP3 := pm_tm HA.out.2.2.1 HA.out.1 hg3
            have hBl3 := HA.out.2.1.kept hg3 (by simp; omega)
            have e0 := hBl3.cell (i := 0) rfl
            have e1 := hBl3.cell (i := 1) rfl
            have e2 := hBl3.cell (i := 2) rfl
            have TR := Lib.hid (try_any w3 u6 (stepR ms (ml o) j) f t n hP3 (stepR_good HP.out.rel.good _ _) (by omega))
            rw [HEE.out, ← stepR_succ ms (ml o) HGM.out] at TR
            have HQ := Lib.hid (And.intro hT3 hB3)
            clear hT3 hg3 hP3 hB3 hBl3 HMV
            go_wp2_with fail
            refine TR.out.mono ?_; rintro e w4 ⟨v4, rfl, hP4, hb4⟩
            have HF := Lib.hid (show PS W W.heap.size (stepN xs (ml o) (j + 1)) (stepR ms (ml o) (j + 1)) v4 w4 from ⟨HQ.out.1.below hb4, hP4, HP.out.rel.stepNR (ml o) (j + 1), HP.out.fine.stepN (ml o) (j + 1), HQ.out.2.trans (hb4.mono HQ.out.2.size)⟩)
            have eb : (ev == ev) = true := by simp
            clear hP4 hb4 TR e0 e1 e2
            go_wp2_with fail
            go_roundw
            case rel => exact ⟨j + 1, by congr 1, by omega, HF.out⟩
            case measure => simp; omega
          · obtain rfl : j = (ml o).length := by omega
            go_wp2_with fail
            go_roundw
            case rel => exact ⟨k + 1, _, _, by congr 1, by omega, HS.out, by omega⟩
            case measure => simp; omega
    · obtain rfl : k = ops.length := by omega
      have HP := Lib.hid hP
      rw [List.take_length] at hlm
      clear hP
      go_wp2_with fail
      exact bodyPost_ret (v := .tuple #[.pointer (some ⟨W.heap.size, 0, none⟩), u6, .bool true]) (by simp [results, Try.f31, go_sem]) rfl ⟨_, _, _, rfl, HP.out, by omega⟩

def goodOp (o : S75) : Prop := True ∧ (o.f1.length ≤ maxLen ∧ ∀ y ∈ o.f1, (Lit.int .i64 y.f0).wf = true ∧ (Lit.int .i64 y.f1).wf = true ∧ (Lit.int .i64 y.f2).wf = true)
theorem w64_of {x : Int} (h : (Lit.int .i64 x).wf = true) : w64 x := by
  unfold Lit.wf at h
  rw [Bool.and_eq_true, decide_eq_true_eq, decide_eq_true_eq] at h
  exact h
theorem goodOp.w {ops : List S75} (h : ∀ o ∈ ops, goodOp o) : ∀ o ∈ ops, ∀ m ∈ ml o, w64 m.1 ∧ w64 m.2.1 := by
  intro o ho m hm
  obtain ⟨y, hy, rfl⟩ := List.mem_map.1 hm
  exact ⟨w64_of ((h o ho).2.2 y hy).1, w64_of ((h o ho).2.2 y hy).2.1⟩

end Go.Proofs.Ytmdacfgofilbdaa.Led
