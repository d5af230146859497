/- hold: the document's answer in plain words. -/
import Derived.Test.YtmdacfgofilbdaaHold3
import Derived.Test.YtmdacfgofilbdaaPHoldPlaysx2
import Derived.Test.YtmdacfgofilbdaaPHoldPlaysx3
import Derived.Test.YtmdacfgofilbdaaWKept
import Derived.BigQuiet
import Derived.Maps.AppendAt
set_option linter.unusedSimpArgs false
set_option linter.unusedVariables false
namespace Go.Proofs.Ytmdacfgofilbdaa.Led
open Go.RowKit Go.Proofs.Ytmdacfgofilbdaa.TabL Go.Proofs.YtmdacfgofilbdaaW.PrintWords Go.Proofs.Ytmdacfgofilbdaa.PHoldPlays
open Go.Proofs.Ytmdacfgofilbdaa.TabB (ltI lin getV TMg)

theorem wrap_id {i : Int} (h : -9223372036854775808 ≤ i) (h2 : i ≤ 9223372036854775807) : wrap64 i = i := by unfold wrap64; omega
def toV (m : Mv) : S90 := ⟨m.1, m.2.1, m.2.2⟩
theorem rdV (l : List Mv) {i : Nat} (hi : i < l.length) : rd_T90 (l.map toV) (i : Int) = toV l[i] := by simp [rd_T90, hi]
theorem Good.take {ms : List Mv} (h : Good ms) : ∀ i, Good (ms.take i) := by
  induction h with
  | nil => intro i; simp; exact Good.nil
  | snoc hg he ih =>
    rename_i ms m
    intro i
    by_cases hi : i ≤ ms.length
    · rw [List.take_append_of_le_length hi]; exact ih i
    · rw [List.take_of_length_le (by simp; omega)]; exact Good.snoc hg he
theorem Good.ne {ms : List Mv} (h : Good ms) : ∀ m ∈ ms, m.1 ≠ m.2.1 := by
  induction h with
  | nil => intro m hm; cases hm
  | snoc hg he ih =>
    intro x hx
    rcases List.mem_append.1 hx with hx | hx
    · exact ih x hx
    · rw [List.mem_singleton.1 hx]; exact (moveE_zero he).2.2.1
theorem bal_ev (ms : List Mv) (a : Int) (hg : Good ms) (hl : ms.length ≤ 1099511627776) : Ev (fun n => saleroomref17_Balance.f n (ms.map toV) a) (bal ms a) := by
  have key : ∀ e i, i + e = ms.length → Ev (fun n => saleroomref17_Balance.l0 n (ms.map toV) a (bal (ms.take i) a) (i : Int)) (bal ms a) := by
    intro e
    induction e with
    | zero =>
      intro i hi
      rw [List.take_of_length_le (by omega)]
      refine Ev.step (f := fun _ => some (bal ms a)) (fun n => ?_) (Ev.now _)
      simp only [saleroomref17_Balance.l0, List.length_map]
      rw [if_neg (by omega)]
    | succ e ih =>
      intro i hi
      have hil : i < ms.length := by omega
      refine Ev.step (f := fun n => saleroomref17_Balance.l0 n (ms.map toV) a (bal (ms.take (i + 1)) a) ((i + 1 : Nat) : Int)) (fun n => ?_) (ih (i + 1) (by omega))
      have hs : bal (ms.take (i + 1)) a = bal (ms.take i) a + part ms[i] a := by rw [List.take_succ_eq_append_getElem hil, bal_snoc]
      have hb := (hg.take (i + 1)).bnd a
      have hne := hg.ne ms[i] (List.getElem_mem hil)
      simp only [saleroomref17_Balance.l0, List.length_map]
      rw [if_pos (by omega), if_pos (by omega), rdV ms hil, wrap_id (i := (i : Int) + 1) (by omega) (by omega)]
      unfold part at hs
      unfold toV
      dsimp only
      by_cases h1 : ms[i].1 = a
      · have h2 : ms[i].2.1 ≠ a := fun e => hne (h1.trans e.symm)
        rw [if_pos h1, if_neg h2] at hs
        rw [if_pos h1, if_neg h2, wrap_id (by omega) (by omega)]
        congr 1
        omega
      · rw [if_neg h1] at hs
        rw [if_neg h1]
        by_cases h2 : ms[i].2.1 = a
        · rw [if_pos h2] at hs
          rw [if_pos h2, wrap_id (by omega) (by omega)]
          congr 1
          omega
        · rw [if_neg h2] at hs
          rw [if_neg h2]
          congr 1
          omega
  have h2 : Ev (fun n => saleroomref17_Balance.l0 n (ms.map toV) a 0 0) (bal ms a) := by simpa [bal] using key ms.length 0 (by omega)
  exact h2
theorem rright_f (a : Int) : saleroomref17_Right.f a = some (rightA a) := by
  unfold saleroomref17_Right.f rightA
  by_cases h0 : a = 0
  · subst h0; rfl
  · rw [if_neg h0]
    by_cases h1 : a = 1
    · subst h1; rfl
    · rw [if_neg h1]
      by_cases h2 : a ≥ 4
      · rw [if_pos h2, decide_eq_true (show 4 ≤ a from h2), decide_eq_false h0, decide_eq_false h1]; simp
      · rw [if_neg h2, decide_eq_false (show ¬ 4 ≤ a from h2), decide_eq_false h0, decide_eq_false h1]; simp
theorem rrightM_f (n : Int) : saleroomref01_Right.f n = some (rightM n) := by
  unfold saleroomref01_Right.f rightM
  by_cases h : n ≥ 0
  · rw [if_pos h, decide_eq_true (show 0 ≤ n from h), Bool.true_and]
  · rw [if_neg h, decide_eq_false (show ¬ 0 ≤ n from h), Bool.false_and]
end Go.Proofs.Ytmdacfgofilbdaa.Led

/- hold: the document's purse functions. -/
set_option linter.unusedSimpArgs false
set_option linter.unusedVariables false
namespace Go.Proofs.Ytmdacfgofilbdaa.Led
open Go.RowKit Go.Proofs.Ytmdacfgofilbdaa.TabL Go.Proofs.YtmdacfgofilbdaaW.PrintWords Go.Proofs.YtmdacfgofilbdaaW.PrintLast Go.Proofs.YtmdacfgofilbdaaW.PrintMore Go.Proofs.Ytmdacfgofilbdaa.PHoldPlays
open Go.Proofs.Ytmdacfgofilbdaa.TabB (ltI lin getV TMg)

theorem Good.zero {ms : List Mv} (h : Good ms) {a : Int} (ha : rightA a = false) : bal ms a = 0 := by
  induction h with
  | nil => rfl
  | snoc hg he ih =>
    rename_i ms m
    obtain ⟨h1, h2, _⟩ := moveE_zero he
    rw [bal_snoc, ih]
    unfold part
    rw [if_neg (fun e => by rw [e, ha] at h1; cases h1), if_neg (fun e => by rw [e, ha] at h2; cases h2)]
    rfl
/-- what Set lets go, over balances -/
def setMb (b : Int → Int) (who n : Int) : Mv := if 0 ≤ n - b (holdA who) then (freeA who, holdA who, n - b (holdA who)) else (holdA who, freeA who, -(n - b (holdA who)))
def rsetL (ms : List Mv) (who n : Int) : List Mv := if partyA who = false ∨ rightM n = false then ms else tryL ms (setMb (bal ms) who n)
def rsetE (ms : List Mv) (who n : Int) : Int := if partyA who = false ∨ rightM n = false then 1 else moveE (bal ms) (setMb (bal ms) who n)
end Go.Proofs.Ytmdacfgofilbdaa.Led

/- hold: the document's moves and purse, walked: nothing that was there is turned. -/
set_option linter.unusedSimpArgs false
set_option linter.unusedVariables false
namespace Go.Proofs.Ytmdacfgofilbdaa.Led
open Go.RowKit Go.Proofs.Ytmdacfgofilbdaa.TabL Go.Proofs.YtmdacfgofilbdaaW.PrintWords Go.Proofs.Ytmdacfgofilbdaa.PHoldPlays
open Go.Proofs.Ytmdacfgofilbdaa.TabB (ltI lin getV TMg)

abbrev tRM : TypeId := 90
theorem infoR : (Try.prog.info? 90).map (fun i => (i.zero, i.size, i.bytes)) = some (some (.agg #[.int .i64 0, .int .i64 0, .int .i64 0]), 3, 24) := by kernel_rfl
/-- the slice v reads as the moves ms -/
def PM (W : World) (v : Value) (ms : List Mv) : Prop := ∃ A c, v = .slice A ms.length c ∧ ms.length ≤ c ∧ Kd.C k90 W A ms.length (ms.map toV)
theorem PM.below {W W' : World} {v : Value} {l : List Mv} (h : PM W v l) (hb : Below W.heap.size W W') : PM W' v l := by
  obtain ⟨A, c, rfl, h1, h2⟩ := h
  exact ⟨A, c, rfl, h1, Kd.C_below h2 hb⟩
theorem pm_nil (W : World) : PM W (.slice none 0 0) [] := ⟨none, 0, rfl, Nat.le_refl _, rfl, by simp, fun h => absurd h (by simp)⟩
theorem addr_add (b off i : Nat) : (⟨b, off, none⟩ : Addr).add i = ⟨b, off + i, none⟩ := by
  unfold Addr.add
  by_cases h : i = 0 <;> simp [h]
theorem cell_spot {w : World} {a : Addr} {v : Value} (h : w.cell? a = some v) : a = ⟨a.block, a.off, none⟩ ∧ a.block < w.heap.size := by
  unfold World.cell? at h
  cases hb : w.heap[a.block]? with
  | none => rw [hb] at h; simp at h
  | some o =>
    refine ⟨?_, (Array.getElem?_eq_some_iff.1 hb).1⟩
    rw [hb] at h
    obtain ⟨b, off, s⟩ := a
    cases s with
    | none => rfl
    | some s => cases o <;> simp at h
theorem pm_own {W : World} {base : Nat} {v : Value} {zs : List Mv} (hl : zs.length ≤ 1099511627776) (h : W.ownsRow base tRM 3 v zs.length (cellsOf cM zs)) : PM W v zs := by
  have h0 := h
  rcases h0.2 with ⟨rfl, hz⟩ | ⟨g, cap, cur, rfl, hb, hg, hc, hlc, _⟩
  · obtain rfl := List.eq_nil_of_length_eq_zero hz
    exact pm_nil W
  · refine ⟨_, cap, rfl, own_le h, by simp, by omega, fun hpos => ⟨_, rfl, fun j x hx => ⟨[.int .i64 x.f0, .int .i64 x.f1, .int .i64 x.f2], rfl, k90_mk W x, fun i u hu => ?_⟩⟩⟩
    rw [List.getElem?_map] at hx
    cases hq : zs[j]? with
    | none => rw [hq] at hx; simp at hx
    | some q =>
      rw [hq] at hx
      have hj : j < zs.length := (List.getElem?_eq_some_iff.1 hq).1
      have hi : i < 3 := by have := (List.getElem?_eq_some_iff.1 hu).1; simpa using this
      rw [show j * k90.sz + i = j * 3 + i from rfl, addr_add, Nat.zero_add, h.cellAt (j * 3 + i) (by omega), cellsOf_at cM_length zs (0, 0, 0) hj hi, List.getD_eq_getElem?_getD, hq]
      obtain rfl : toV q = x := by simpa using hx
      exact hu
theorem PM.at {W : World} {v : Value} {l : List Mv} {j : Nat} {q : Mv} (h : PM W v l) (hj : l[j]? = some q) : ∃ b off c, v = .slice (some ⟨b, off, none⟩) l.length c ∧ W.cell? ⟨b, off + j * 3, none⟩ = some (.int .i64 q.1) ∧ W.cell? ⟨b, off + j * 3 + 1, none⟩ = some (.int .i64 q.2.1) ∧ W.cell? ⟨b, off + j * 3 + 2, none⟩ = some (.int .i64 q.2.2) := by
  obtain ⟨A, c, rfl, h1, h2⟩ := h
  have hlt := (List.getElem?_eq_some_iff.1 hj).1
  obtain ⟨a, rfl, hr⟩ := h2.2.2 (by omega)
  have hjq : (l.map toV)[j]? = some (toV q) := by rw [List.getElem?_map, hj]; rfl
  have hz : (l.map toV)[0]? = some (toV (l[0]'(by omega))) := by rw [List.getElem?_map, List.getElem?_eq_getElem (by omega)]; rfl
  obtain ⟨cs0, _, hk0, hc0⟩ := hr 0 _ hz
  obtain rfl := k90_open hk0
  have hsp := cell_spot (by simpa [Addr.add] using hc0 0 _ rfl)
  obtain ⟨b, off, s⟩ := a
  obtain rfl : s = none := by injection hsp.1
  obtain ⟨cs, _, hk, hc⟩ := hr j _ hjq
  obtain rfl := k90_open hk
  have h3 := hc 0 _ rfl
  have h4 := hc 1 _ rfl
  have h5 := hc 2 _ rfl
  rw [addr_add] at h3 h4 h5
  exact ⟨b, off, c, rfl, h3, h4, h5⟩
theorem rright_any (W : World) (a : Int) : Calls Try.prog 36 #[.int .i64 a] W fun e w' => e = .returned (.bool (rightA a)) ∧ Below W.heap.size W w' :=
  (saleroomref17_Right.calls a _ W (rright_f a)).mono fun _ _ ⟨x, y⟩ => ⟨x, y.below⟩
theorem rrightM_any (W : World) (n : Int) : Calls Try.prog 81 #[.int .i64 n] W fun e w' => e = .returned (.bool (rightM n)) ∧ Below W.heap.size W w' :=
  (saleroomref01_Right.calls n _ W (rrightM_f n)).mono fun _ _ ⟨x, y⟩ => ⟨x, y.below⟩
end Go.Proofs.Ytmdacfgofilbdaa.Led

/- hold: the document's Try. -/
set_option linter.unusedSimpArgs false
set_option linter.unusedVariables false
namespace Go.Proofs.Ytmdacfgofilbdaa.Led
open Go.RowKit Go.Proofs.Ytmdacfgofilbdaa.TabL Go.Proofs.YtmdacfgofilbdaaW.PrintWords Go.Proofs.Ytmdacfgofilbdaa.PHoldPlays
open Go.Proofs.Ytmdacfgofilbdaa.TabB (ltI lin getV TMg)

theorem bel_drewN {B : Nat} {W W1 : World} (h : Below B W W1) (n : Nat) : Below B W (W1.drewN n) := ⟨h.os, h.tape, h.output, h.size, h.block⟩
theorem rbal_q (W : World) (v : Value) (ms : List Mv) (a : Int) (h : PM W v ms) (hg : Good ms) (hl : ms.length ≤ 1099511627776) (n : Nat) : Calls Try.prog 38 #[v, .int .i64 a] (W.drewN n) fun e w' => e = .returned (.int .i64 (bal ms a)) ∧ ∃ m, w' = (W.drewN n).drewN m := by
  obtain ⟨A, c, rfl, h1, h2⟩ := h
  obtain ⟨k, hk⟩ := (bal_ev ms a hg hl).rounds
  have := saleroomref17_Balance.calls k A c (ms.map toV) a _ (W.drewN n) (by rw [List.length_map]; exact h2) (by rw [List.length_map]; exact h1) hk
  rw [List.length_map] at this
  exact this.mono fun _ _ ⟨x, y⟩ => ⟨x, y.out⟩
set_option maxRecDepth 100000 in
set_option maxHeartbeats 8000000 in
theorem try_good (W : World) (v : Value) (ms : List Mv) (f t n : Int) (h : PM W v ms) (hg : Good ms) (hl : ms.length ≤ 1000000)
    (h1 : rightA f = true) (h2 : rightA t = true) (h3 : f ≠ t) (h4 : rightM n = true) :
    Calls Try.prog 52 #[v, .agg #[.int .i64 f, .int .i64 t, .int .i64 n]] W fun e w' => ∃ v', e = .returned (.tuple #[v', .int .i64 (moveE (bal ms) (f, t, n))]) ∧ PM w' v' (tryL ms (f, t, n)) ∧ Below W.heap.size W w' := by
  have h0 := h
  obtain ⟨A, c, rfl, h1c, -⟩ := h0
  obtain ⟨i0, hi0, hiz0, hiz1, hiz2⟩ := info_parts infoR
  have b3 := Blk.new W [.int .i64 f, .int .i64 t, .int .i64 n] 90
  have hal : Below W.heap.size W (W.alloc (.cells #[.int .i64 f, .int .i64 t, .int .i64 n] 90)) := (Below.refl _ W).alloc (Nat.le_refl _) _
  have c30 := b3.cell (i := 0) rfl
  have c31 := b3.cell (i := 1) rfl
  have c32 := b3.cell (i := 2) rfl
  have hE := fun (e : Int) (he : moveE (bal ms) (f, t, n) = e) (hne : e ≠ 0) (w' : World) (hbw : Below W.heap.size W w') => (show ∃ v', Ending.returned (.tuple #[.slice A ms.length c, .int .i64 e]) = Ending.returned (.tuple #[v', .int .i64 (moveE (bal ms) (f, t, n))]) ∧ PM w' v' (tryL ms (f, t, n)) ∧ Below W.heap.size W w' from ⟨_, by rw [he], by unfold tryL; rw [he, if_neg hne]; exact h.below hbw, hbw⟩)
  have HE := Lib.hid hE
  clear hE
  have hn : 0 ≤ n ∧ n ≤ 1099511627776 := by unfold rightM at h4; simpa using h4
  have hc : ¬ (rightA f = false ∨ rightA t = false ∨ f = t ∨ rightM n = false) := by rw [h1, h2, h4]; simp [h3]
  have hmE : moveE (bal ms) (f, t, n) = if f ≠ 0 ∧ bal ms f - n < 0 then 40 else if bal ms f - n < -70368744177664 ∨ 70368744177664 < bal ms t + n then 2 else 0 := by unfold moveE; rw [if_neg hc]
  have hbf := hg.bnd f
  have hbt := hg.bnd t
  have BQ := fun w hw a k => rbal_q w (.slice A ms.length c) ms a hw hg (by omega) k
  obtain ⟨bb, hbb⟩ : ∃ bb, bal ms = bb := ⟨_, rfl⟩
  simp only [hbb] at BQ hbf hbt hmE
  have HBQ := Lib.hid BQ
  obtain ⟨bf, hbfe⟩ : ∃ bf, bb f = bf := ⟨_, rfl⟩
  obtain ⟨bt, hbte⟩ : ∃ bt, bb t = bt := ⟨_, rfl⟩
  rw [hbfe, hbte] at hmE
  rw [hbfe] at hbf
  rw [hbte] at hbt
  have HME := Lib.hid hmE
  have HBB := Lib.hid hbb
  clear hc hmE BQ hbb
  have q1 : -9223372036854775808 ≤ bf - n := by omega
  have q2 : bf - n ≤ 9223372036854775807 := by omega
  have q3 : -9223372036854775808 ≤ bt + n := by omega
  have q4 : bt + n ≤ 9223372036854775807 := by omega
  have e1 : IntKind.i64.wrap (bf - n) = bf - n := by rw [IntKind.wrap_i64]; omega
  have e2 : IntKind.i64.wrap (bt + n) = bt + n := by rw [IntKind.wrap_i64]; omega
  have e3 : wrap64 (bf - n) = bf - n := wrap_id q1 q2
  have e4 : wrap64 (bt + n) = bt + n := wrap_id q3 q4
  go_enter Try.func52, Try.ntmps52
  go_wp2_with fail
  refine (rright_any _ f).mono ?_; rintro e w1 ⟨rfl, hb1⟩
  rw [h1]
  have hB1 := hal.trans (hb1.mono hal.size)
  have b31 := b3.belowS hb1
  have c31' := b31.cell (i := 1) rfl
  clear hb1
  go_wp2_with fail
  refine (rright_any _ t).mono ?_; rintro e w2 ⟨rfl, hb2⟩
  rw [h2]
  have hB2 := hB1.trans (hb2.mono hB1.size)
  have b32 := b31.belowS hb2
  have c42 := b32.cell (i := 0) rfl
  have c43 := b32.cell (i := 1) rfl
  have c44 := b32.cell (i := 2) rfl
  clear hb2
  go_wp2_with fail
  refine (rrightM_any _ n).mono ?_; rintro e w3 ⟨rfl, hb3⟩
  rw [h4]
  have hB3 := hB2.trans (hb3.mono hB2.size)
  have b33 := b32.belowS hb3
  clear hb3 c42 c43 c44 c31'
  have c50 := b33.cell (i := 0) rfl
  have c51 := b33.cell (i := 1) rfl
  have c52 := b33.cell (i := 2) rfl
  have hP3 := h.below hB3
  have B3 := HBQ.out w3 hP3
  go_wp2_with fail
  go_quiet ((go_at_call 38; exact Calls.quiet_of (B3 _ _)))
  have HNX : ∀ x, moveE bb (f, t, n) = x → moveE (bal ms) (f, t, n) = x := fun x hx => by rw [HBB.out]; exact hx
  by_cases k1 : f ≠ 0 ∧ bf - n < 0
  · have he : moveE (bal ms) (f, t, n) = 40 := HNX _ (by have := HME.out; rw [if_pos k1] at this; exact this)
    have HEE := Lib.hid he
    clear he HNX HME HBB
    obtain ⟨k1a, k1b⟩ := k1
    go_wp2_with fail
    go_ret2
    exact HE.out 40 HEE.out (by decide) _ (bel_drewN hB3 _)
  · by_cases k2 : bf - n < -70368744177664 ∨ 70368744177664 < bt + n
    · have he : moveE (bal ms) (f, t, n) = 2 := HNX _ (by have := HME.out; rw [if_neg k1, if_pos k2] at this; exact this)
      have HEE := Lib.hid he
      clear he HNX HME HBB
      by_cases k0 : f = 0
      · subst k0
        by_cases k3 : bf - n < -70368744177664
        all_goals
          have k4 : bf - n < -70368744177664 ∨ ¬ bf - n < -70368744177664 ∧ 70368744177664 < bt + n := by omega
          go_wp2_with fail
          go_ret2
          exact HE.out 2 HEE.out (by decide) _ (bel_drewN hB3 _)
      · have k5 : ¬ bf - n < 0 := fun h => k1 ⟨k0, h⟩
        have k6 : ¬ bf - n < -70368744177664 := by omega
        have k7 : 70368744177664 < bt + n := by omega
        go_wp2_with fail
        go_ret2
        exact HE.out 2 HEE.out (by decide) _ (bel_drewN hB3 _)
    · have he : moveE (bal ms) (f, t, n) = 0 := HNX _ (by have := HME.out; rw [if_neg k1, if_neg k2] at this; exact this)
      have HEE := Lib.hid he
      have k6 : ¬ bf - n < -70368744177664 := by omega
      have k7 : ¬ 70368744177664 < bt + n := by omega
      have hz3 := hB3.size
      have HP3 := Lib.hid hP3; have HB3 := Lib.hid (bel_drewN hB3 nq)
      have b33q := b33.drewN nq
      clear he HNX HME HBB B3 k2 hP3 hB3 c50 c51 c52 b3 b31 b32 b33 hal c30 c31 c32 hB1 hB2 h HE
      have d0 := b33q.cell (i := 0) rfl
      have d1 := b33q.cell (i := 1) rfl
      have d2 := b33q.cell (i := 2) rfl
      have HK := Lib.hid (show w3.drewN nq = w3.drewN nq from rfl)
      obtain ⟨w4, hw4⟩ : ∃ w4, w3.drewN nq = w4 := ⟨_, rfl⟩
      have hz4 : W.heap.size + 1 ≤ w4.heap.size := by have := b33q.lt; rw [hw4] at this; omega
      have HP4 : Hid (PM w4 (.slice A ms.length c) ms) := by rw [← hw4]; exact Lib.hid (HP3.out.below (bel_drewN (Below.refl _ w3) nq))
      rw [hw4] at HB3 d0 d1 d2 b33q ⊢
      clear hw4 HP3 HK hz3
      have kk : f = 0 ∨ f ≠ 0 ∧ ¬ bf - n < 0 := by omega
      have kk' : (f != 0) = false ∨ f ≠ 0 ∧ ¬ bf - n < 0 := kk.imp (fun h => by simp [h]) id
      clear kk
      rcases kk' with kk1 | ⟨kk1, kk2⟩
      all_goals
        go_wp2_with fail
        go_loopw [8, 9] (fun v i wr => ∃ k : Nat, i = .int .i64 (k : Int) ∧ k ≤ ms.length ∧ wr.ownsRow w4.heap.size 90 3 v k (cellsOf cM (ms.take k)) ∧ Below w4.heap.size w4 wr)
          (fun _ i _ => ms.length - (match i with | .int _ n => n.toNat | _ => 0))
        case atStart => exact ⟨0, rfl, Nat.zero_le _, World.ownsRow_lit (base := w4.heap.size) (e := 90) (size := 3) w4 #[] 0 (Nat.le_refl _) (by decide) rfl, (Below.refl _ _).alloc (Nat.le_refl _) _⟩
        case round =>
          obtain ⟨k, rfl, hk, hrow, hB⟩ := hrel
          have hzr := hB.size
          by_cases hlt : k < ms.length
          · obtain ⟨⟨x, y, z⟩, hget⟩ : ∃ o, ms[k]? = some o := ⟨_, List.getElem?_eq_getElem hlt⟩
            obtain ⟨b, off, c1, e1, q0, q1, q2⟩ := (HP4.out.below hB).at hget
            obtain ⟨rfl, rfl⟩ : A = some ⟨b, off, none⟩ ∧ c = c1 := by injection e1 with e1 e2 e3; exact ⟨e1, e3⟩
            have htk : ms.take (k + 1) = ms.take k ++ [(x, y, z)] := by
              rw [List.take_succ_eq_append_getElem hlt, (List.getElem?_eq_some_iff.1 hget).2]
            have HTK := Lib.hid htk
            simp only at q0 q1 q2
            clear htk hget e1
            go_wp2_with (at_builtin; refine wpList_append_own _ rfl _ _ 33 rfl w4.heap.size 90 i0 _ 3 24 Try.underlying33 hi0 hiz0 hiz1 hiz2 rfl (by decide) _ k _ rfl (hrow.alloc _) ⟨wr.heap.size, 0, none⟩ 1 1 [.int .i64 x, .int .i64 y, .int .i64 z] rfl rfl (news_blk (Blk.new wr [.int .i64 x, .int .i64 y, .int .i64 z] 90)) (by simp [Value.oneCell']) (by unfold maxLen; omega) (by omega) (by simp; omega) ?_; intro v' w5 hO5 hg5 _)
            have hB5 : Below w4.heap.size w4 w5 := (hB.alloc (by omega) (.cells #[.int .i64 x, .int .i64 y, .int .i64 z] 90)).grown hg5 (by simp; omega) (fun r e => (own_typ hrow r e).1)
            go_wp2_with fail
            go_roundw
            case rel => exact ⟨k + 1, by congr 1, by omega, by rw [HTK.out, cellsOf_append, cellsOf_one]; exact hO5, hB5⟩
            case measure => simp; omega
          · obtain rfl : k = ms.length := by omega
            rw [List.take_of_length_le (by omega)] at hrow
            have e0 := (b33q.belowS hB).cell (i := 0) rfl
            have e1 := (b33q.belowS hB).cell (i := 1) rfl
            have e2 := (b33q.belowS hB).cell (i := 2) rfl
            clear d0 d1 d2
            go_wp2_with (at_builtin; refine wpList_append_own _ rfl _ _ 33 rfl w4.heap.size 90 i0 _ 3 24 Try.underlying33 hi0 hiz0 hiz1 hiz2 rfl (by decide) _ ms.length _ rfl (hrow.alloc _) ⟨wr.heap.size, 0, none⟩ 1 1 [.int .i64 f, .int .i64 t, .int .i64 n] rfl rfl (news_blk (Blk.new wr [.int .i64 f, .int .i64 t, .int .i64 n] 90)) (by simp [Value.oneCell']) (by unfold maxLen; omega) (by omega) (by simp; omega) ?_; intro v' w5 hO5 hg5 _)
            have hB5 : Below w4.heap.size w4 w5 := (hB.alloc (by omega) (.cells #[.int .i64 f, .int .i64 t, .int .i64 n] 90)).grown hg5 (by simp; omega) (fun r e => (own_typ hrow r e).1)
            have htl : tryL ms (f, t, n) = ms ++ [(f, t, n)] := by unfold tryL; rw [HEE.out]; rfl
            have HTL := Lib.hid htl; have HB6 := Lib.hid (HB3.out.trans (hB5.mono (by omega)))
            clear htl hB5 hg5
            go_wp2_with fail
            go_ret2
            refine ⟨_, (by rw [HEE.out]; rfl), ?_, HB6.out⟩
            rw [HTL.out]
            refine pm_own (base := w4.heap.size) (by simp; omega) ?_
            rw [cellsOf_append, cellsOf_one, List.length_append]
            exact hO5

end Go.Proofs.Ytmdacfgofilbdaa.Led

/- hold: the document's Try. -/
set_option linter.unusedSimpArgs false
set_option linter.unusedVariables false
namespace Go.Proofs.Ytmdacfgofilbdaa.Led
open Go.RowKit Go.Proofs.Ytmdacfgofilbdaa.TabL Go.Proofs.YtmdacfgofilbdaaW.PrintWords Go.Proofs.Ytmdacfgofilbdaa.PHoldPlays
open Go.Proofs.Ytmdacfgofilbdaa.TabB (ltI lin getV TMg)

set_option maxRecDepth 100000 in
set_option maxHeartbeats 8000000 in
theorem try_any (W : World) (v : Value) (ms : List Mv) (f t n : Int) (h : PM W v ms) (hg : Good ms) (hl : ms.length ≤ 1000000) :
    Calls Try.prog 52 #[v, .agg #[.int .i64 f, .int .i64 t, .int .i64 n]] W fun e w' => ∃ v', e = .returned (.tuple #[v', .int .i64 (moveE (bal ms) (f, t, n))]) ∧ PM w' v' (tryL ms (f, t, n)) ∧ Below W.heap.size W w' := by
  have h0 := h
  obtain ⟨A, c, rfl, h1c, -⟩ := h0
  have b3 := Blk.new W [.int .i64 f, .int .i64 t, .int .i64 n] 90
  have hal : Below W.heap.size W (W.alloc (.cells #[.int .i64 f, .int .i64 t, .int .i64 n] 90)) := (Below.refl _ W).alloc (Nat.le_refl _) _
  have c30 := b3.cell (i := 0) rfl
  have c31 := b3.cell (i := 1) rfl
  have c32 := b3.cell (i := 2) rfl
  have hE := fun (e : Int) (he : moveE (bal ms) (f, t, n) = e) (hne : e ≠ 0) (w' : World) (hbw : Below W.heap.size W w') => (show ∃ v', Ending.returned (.tuple #[.slice A ms.length c, .int .i64 e]) = Ending.returned (.tuple #[v', .int .i64 (moveE (bal ms) (f, t, n))]) ∧ PM w' v' (tryL ms (f, t, n)) ∧ Below W.heap.size W w' from ⟨_, by rw [he], by unfold tryL; rw [he, if_neg hne]; exact h.below hbw, hbw⟩)
  have HE := Lib.hid hE
  clear hE
  obtain ⟨w0, hw0⟩ : ∃ w0, W.alloc (.cells #[.int .i64 f, .int .i64 t, .int .i64 n] 90) = w0 := ⟨_, rfl⟩
  cases h1 : rightA f with
  | false =>
    have he : moveE (bal ms) (f, t, n) = 1 := by unfold moveE; rw [if_pos (.inl h1)]
    clear hw0
    go_enter Try.func52, Try.ntmps52
    go_wp2_with fail
    refine (rright_any _ f).mono ?_; rintro e w1 ⟨rfl, hb1⟩
    rw [h1]
    have hB1 := hal.trans (hb1.mono hal.size)
    go_wp2_with fail
    go_ret2
    exact HE.out 1 he (by decide) _ hB1
  | true =>
    cases h2 : rightA t with
    | false =>
      have he : moveE (bal ms) (f, t, n) = 1 := by unfold moveE; rw [if_pos (.inr (.inl h2))]
      clear hw0
      go_enter Try.func52, Try.ntmps52
      go_wp2_with fail
      refine (rright_any _ f).mono ?_; rintro e w1 ⟨rfl, hb1⟩
      rw [h1]
      have hB1 := hal.trans (hb1.mono hal.size)
      have c31' := (b3.belowS hb1).cell (i := 1) rfl
      clear hb1
      go_wp2_with fail
      refine (rright_any _ t).mono ?_; rintro e w2 ⟨rfl, hb2⟩
      rw [h2]
      have hB2 := hB1.trans (hb2.mono hB1.size)
      go_wp2_with fail
      go_ret2
      exact HE.out 1 he (by decide) _ hB2
    | true =>
      by_cases h3 : f = t
      · have he : moveE (bal ms) (f, t, n) = 1 := by unfold moveE; rw [if_pos (.inr (.inr (.inl h3)))]
        clear hw0
        subst h3
        go_enter Try.func52, Try.ntmps52
        go_wp2_with fail
        refine (rright_any _ f).mono ?_; rintro e w1 ⟨rfl, hb1⟩
        rw [h1]
        have hB1 := hal.trans (hb1.mono hal.size)
        have b31 := b3.belowS hb1
        have c31' := b31.cell (i := 1) rfl
        clear hb1
        go_wp2_with fail
        refine (rright_any _ f).mono ?_; rintro e w2 ⟨rfl, hb2⟩
        rw [h1]
        have hB2 := hB1.trans (hb2.mono hB1.size)
        have b32 := b31.belowS hb2
        have c42 := b32.cell (i := 0) rfl
        have c43 := b32.cell (i := 1) rfl
        clear hb2
        go_wp2_with fail
        go_ret2
        exact HE.out 1 he (by decide) _ hB2
      · cases h4 : rightM n with
        | false =>
          have he : moveE (bal ms) (f, t, n) = 1 := by unfold moveE; rw [if_pos (.inr (.inr (.inr h4)))]
          clear hw0
          go_enter Try.func52, Try.ntmps52
          go_wp2_with fail
          refine (rright_any _ f).mono ?_; rintro e w1 ⟨rfl, hb1⟩
          rw [h1]
          have hB1 := hal.trans (hb1.mono hal.size)
          have b31 := b3.belowS hb1
          have c31' := b31.cell (i := 1) rfl
          clear hb1
          go_wp2_with fail
          refine (rright_any _ t).mono ?_; rintro e w2 ⟨rfl, hb2⟩
          rw [h2]
          have hB2 := hB1.trans (hb2.mono hB1.size)
          have b32 := b31.belowS hb2
          have c42 := b32.cell (i := 0) rfl
          have c43 := b32.cell (i := 1) rfl
          have c44 := b32.cell (i := 2) rfl
          clear hb2
          go_wp2_with fail
          refine (rrightM_any _ n).mono ?_; rintro e w3 ⟨rfl, hb3⟩
          rw [h4]
          have hB3 := hB2.trans (hb3.mono hB2.size)
          clear hb3
          go_wp2_with fail
          go_ret2
          exact HE.out 1 he (by decide) _ hB3
        | true => exact try_good W _ ms f t n h hg hl h1 h2 h3 h4

end Go.Proofs.Ytmdacfgofilbdaa.Led
