/- ledger: the document's List, Same and Write in plain words. -/
import Derived.Test.YtmdacfgofilbdaaLedPp
import Derived.Test.YtmdacfgofilbdaaCodP
import Derived.Test.YtmdacfgofilbdaaPLedgerPlaysx6
import Derived.Test.YtmdacfgofilbdaaPLedgerPlaysx7
set_option linter.unusedSimpArgs false
set_option linter.unusedVariables false
namespace Go.Proofs.Ytmdacfgofilbdaa.LedR
open Go.RowKit Go.Proofs.Ytmdacfgofilbdaa.TabL Go.Proofs.YtmdacfgofilbdaaW.PrintWords Go.Proofs.Ytmdacfgofilbdaa.PLedgerPlays Go.Proofs.Ytmdacfgofilbdaa.CodL Go.Proofs.Ytmdacfgofilbdaa.Led
open Go.Proofs.Ytmdacfgofilbdaa.TabB (ltI lin getV TMg)

theorem wrap_succ {i : Nat} (h : i < 9223372036854775807) : wrap64 ((i : Int) + 1) = ((i + 1 : Nat) : Int) := by unfold wrap64; omega
def toW (m : Mv) : S90 := ⟨m.1, m.2.1, m.2.2⟩
def toO (q : Int × Int) : S115 := ⟨q.1, q.2⟩
theorem rdW (l : List Mv) {i : Nat} (hi : i < l.length) : rd_T90 (l.map toW) (i : Int) = toW l[i] := by simp [rd_T90, hi]
theorem bal_ev (ms : List Mv) (a : Int) (hg : Led.Good ms) (hl : ms.length ≤ 1099511627776) : Ev (fun n => saleroomref17_Balance.f n (ms.map toW) a) (bal ms a) := by
  have key : ∀ e i, i + e = ms.length → Ev (fun n => saleroomref17_Balance.l0 n (ms.map toW) a (bal (ms.take i) a) (i : Int)) (bal ms a) := by
    intro e
    induction e with
    | zero =>
      intro i hi
      rw [List.take_of_length_le (by omega)]
      refine Ev.step (f := fun _ => some (bal ms a)) (fun n => ?_) (Ev.now _)
      simp only [saleroomref17_Balance.l0, List.length_map]
      rw [if_neg (by omega)]
    | succ e ih =>
      intro i hi
      have hil : i < ms.length := by omega
      refine Ev.step (f := fun n => saleroomref17_Balance.l0 n (ms.map toW) a (bal (ms.take (i + 1)) a) ((i + 1 : Nat) : Int)) (fun n => ?_) (ih (i + 1) (by omega))
      have hs : bal (ms.take (i + 1)) a = bal (ms.take i) a + Led.part ms[i] a := by rw [List.take_succ_eq_append_getElem hil, bal_snoc]
      have hb := (hg.take (i + 1)).bnd a
      have hne := hg.ne ms[i] (List.getElem_mem hil)
      simp only [saleroomref17_Balance.l0, List.length_map]
      rw [if_pos (by omega), if_pos (by omega), rdW ms hil, wrap_id (i := (i : Int) + 1) (by omega) (by omega)]
      unfold Led.part at hs
      unfold toW
      dsimp only
      by_cases h1 : ms[i].1 = a
      · have h2 : ms[i].2.1 ≠ a := fun e => hne (h1.trans e.symm)
        rw [if_pos h1, if_neg h2] at hs
        rw [if_pos h1, if_neg h2, wrap_id (by omega) (by omega)]
        congr 1
        omega
      · rw [if_neg h1] at hs
        rw [if_neg h1]
        by_cases h2 : ms[i].2.1 = a
        · rw [if_pos h2] at hs
          rw [if_pos h2, wrap_id (by omega) (by omega)]
          congr 1
          omega
        · rw [if_neg h2] at hs
          rw [if_neg h2]
          congr 1
          omega
  have h2 : Ev (fun n => saleroomref17_Balance.l0 n (ms.map toW) a 0 0) (bal ms a) := by simpa [bal] using key ms.length 0 (by omega)
  exact h2

/-- is an account named by moves? -/
def usedA (ms : List Mv) (a : Int) : Bool := ms.any (fun m => m.1 == a || m.2.1 == a)
theorem bal_unused {ms : List Mv} (h : Led.Good ms) (a : Int) (hu : usedA ms a = false) : bal ms a = 0 := by
  induction h with
  | nil => rfl
  | snoc hg he ih =>
    rename_i ms m
    unfold usedA at hu
    rw [List.any_append, Bool.or_eq_false_iff] at hu
    have h2 := hu.2
    simp only [List.any_cons, List.any_nil, Bool.or_false, Bool.or_eq_false_iff, beq_eq_false_iff_ne] at h2
    rw [bal_snoc, ih hu.1]
    unfold Led.part
    rw [if_neg h2.1, if_neg h2.2]
    rfl
def pre (xs : Bs) (a : Int) : Bs := xs.filter (fun q => decide (q.1 < a))
theorem pre_none {xs : Bs} {a : Int} (h : ∀ q ∈ xs, a ≤ q.1) : pre xs a = [] := List.filter_eq_nil_iff.2 (fun q hq => by have := h q hq; simp; omega)
theorem pre_all {xs : Bs} {a : Int} (h : ∀ q ∈ xs, q.1 < a) : pre xs a = xs := List.filter_eq_self.2 (fun q hq => by have := h q hq; simp; omega)
theorem pre_succ {a : Int} : ∀ {xs : Bs}, Sd ltI xs → NZ xs → pre xs (a + 1) = pre xs a ++ (if getV xs a = 0 then [] else [(a, getV xs a)])
  | [], _, _ => by simp [pre, getV, getL]
  | q :: r, hs, hn => by
    have ih := pre_succ (a := a) (Sd.tail hs) (fun x hx => hn x (List.mem_cons_of_mem _ hx))
    have hh := fun x hx => Sd.head hs x hx
    have hq := hn q (List.mem_cons_self ..)
    rw [getV_cons]
    rcases Int.lt_trichotomy q.1 a with h | h | h
    · rw [if_neg (show ¬ a = q.1 from by omega)]
      unfold pre at ih ⊢
      rw [List.filter_cons_of_pos (by simp; omega), List.filter_cons_of_pos (by simp; omega), ih, List.cons_append]
    · subst h
      rw [if_pos (rfl : q.1 = q.1), if_neg hq]
      rw [pre_none (xs := q :: r) (a := q.1) (fun x hx => by rcases List.mem_cons.1 hx with rfl | hx; exact Int.le_refl _; have := hh x hx; omega)]
      have : pre r (q.1 + 1) = [] := pre_none (fun x hx => by have := hh x hx; omega)
      have e : pre (q :: r) (q.1 + 1) = q :: pre r (q.1 + 1) := by unfold pre; exact List.filter_cons_of_pos (by simp; omega)
      rw [e, this]
      rfl
    · rw [if_neg (show ¬ a = q.1 from by omega), getV_above (xs := r) (fun x hx => by have := hh x hx; omega), if_pos rfl, List.append_nil]
      rw [pre_none (xs := q :: r) (a := a + 1) (fun x hx => by rcases List.mem_cons.1 hx with rfl | hx; omega; have := hh x hx; omega), pre_none (xs := q :: r) (a := a) (fun x hx => by rcases List.mem_cons.1 hx with rfl | hx; omega; have := hh x hx; omega)]
theorem list_used (ms : List Mv) (hl : ms.length ≤ 1099511627776) (out : List S115) (a : Int) (r : List S115) : ∀ e i (u : Bool), i + e = ms.length →
    Ev (fun k => saleroomref17_List.j2 k (ms.map toW) out a (u || usedA (ms.drop i) a)) r → Ev (fun k => saleroomref17_List.l1 k (ms.map toW) out a u (i : Int)) r := by
  intro e
  induction e with
  | zero =>
    intro i u hi h
    rw [List.drop_eq_nil_of_le (by omega)] at h
    rw [show (u || usedA [] a) = u from by simp [usedA]] at h
    refine Ev.step (f := fun k => saleroomref17_List.j2 k (ms.map toW) out a u) (fun k => ?_) h
    simp only [saleroomref17_List.l1, List.length_map]
    rw [if_neg (by omega)]
  | succ e ih =>
    intro i u hi h
    have hil : i < ms.length := by omega
    have e1 : ms.drop i = ms[i] :: ms.drop (i + 1) := (List.getElem_cons_drop ..).symm
    cases u with
    | true =>
      rw [Bool.true_or] at h
      refine Ev.step (f := fun k => saleroomref17_List.j2 k (ms.map toW) out a true) (fun k => ?_) h
      simp only [saleroomref17_List.l1, List.length_map]
      rw [if_pos (by omega), if_pos trivial]
    | false =>
      rw [Bool.false_or, e1] at h
      have e2 : usedA (ms[i] :: ms.drop (i + 1)) a = ((ms[i].1 == a || ms[i].2.1 == a) || usedA (ms.drop (i + 1)) a) := by unfold usedA; rw [List.any_cons]
      rw [e2] at h
      refine Ev.step (f := fun k => saleroomref17_List.l1 k (ms.map toW) out a (ms[i].1 == a || ms[i].2.1 == a) ((i + 1 : Nat) : Int)) (fun k => ?_) (ih (i + 1) _ (by omega) h)
      simp only [saleroomref17_List.l1, List.length_map]
      rw [if_pos (by omega), if_neg (by decide), if_pos (by omega), rdW ms hil, wrap_succ (by omega)]
      rw [show (toW ms[i]).f0 = ms[i].1 from rfl, show (toW ms[i]).f1 = ms[i].2.1 from rfl]
      by_cases h1 : ms[i].1 = a
      · rw [if_pos h1, show (ms[i].1 == a) = true from by simp [h1], Bool.true_or]
      · rw [if_neg h1, show (ms[i].1 == a) = false from by simp [h1], Bool.false_or]
theorem list_ev (xs : Bs) (ms : List Mv) (hR : Rel xs ms) (hF : Fine xs) (hl : ms.length ≤ 1099511627776) : Ev (fun k => saleroomref17_List.f k (ms.map toW)) (xs.map toO) := by
  have hkey := fun q hq => rightA_rng (hF.key q hq)
  have key : ∀ e a : Nat, a + e = 2002 → Ev (fun k => saleroomref17_List.l0 k (ms.map toW) ((pre xs (a : Int)).map toO) (a : Int)) (xs.map toO) := by
    intro e
    induction e with
    | zero =>
      intro a ha
      rw [pre_all (fun q hq => by have := hkey q hq; omega)]
      refine Ev.step (f := fun _ => some (xs.map toO)) (fun k => ?_) (Ev.now _)
      simp only [saleroomref17_List.l0]
      rw [if_neg (by omega)]
    | succ e ih =>
      intro a ha
      have ih2 := ih (a + 1) (by omega)
      have hps := pre_succ (a := (a : Int)) hF.cl.sd hF.cl.nz
      rw [hR.get] at hps
      rw [show ((a + 1 : Nat) : Int) = (a : Int) + 1 from by omega, hps] at ih2
      have hpl : (pre xs (a : Int)).length ≤ 2002 := Nat.le_trans (List.length_filter_le ..) hF.len
      have hb := bal_ev ms (a : Int) hR.good hl
      refine Ev.step (f := fun k => saleroomref17_List.l1 k (ms.map toW) ((pre xs (a : Int)).map toO) (a : Int) false 0) (fun k => ?_) ?_
      · simp only [saleroomref17_List.l0]
        rw [if_pos (by omega)]
      · refine list_used ms hl _ _ _ ms.length 0 false (by omega) ?_
        rw [Bool.false_or, List.drop_zero]
        cases hu : usedA ms (a : Int) with
        | false =>
          rw [bal_unused hR.good _ hu, if_pos rfl, List.append_nil] at ih2
          refine Ev.step (f := fun k => saleroomref17_List.l0 k (ms.map toW) ((pre xs (a : Int)).map toO) ((a : Int) + 1)) (fun k => ?_) ih2
          simp only [saleroomref17_List.j2]
          rw [if_neg (by decide), wrap_id (by omega) (by omega)]
        | true =>
          refine Ev.step (f := fun k => (saleroomref17_Balance.f k (ms.map toW) (a : Int)).bind fun t => if t = 0 then saleroomref17_List.l0 k (ms.map toW) ((pre xs (a : Int)).map toO) (wrap64 ((a : Int) + 1)) else (saleroomref17_Balance.f k (ms.map toW) (a : Int)).bind fun u => if ((pre xs (a : Int)).map toO).length < 8796093022208 then saleroomref17_List.l0 k (ms.map toW) ((pre xs (a : Int)).map toO ++ [(⟨(a : Int), u⟩ : S115)]) (wrap64 ((a : Int) + 1)) else none) (fun k => ?_) (Ev.bind hb ?_)
          · simp only [saleroomref17_List.j2]
            rw [if_pos trivial]
          · by_cases h0 : bal ms (a : Int) = 0
            · rw [if_pos h0, List.append_nil] at ih2
              simp only [if_pos h0]
              rw [wrap_id (by omega) (by omega)]
              exact ih2
            · rw [if_neg h0, List.map_append] at ih2
              simp only [if_neg h0]
              refine Ev.bind hb ?_
              simp only [if_pos (show ((pre xs (a : Int)).map toO).length < 8796093022208 from by rw [List.length_map]; omega)]
              rw [wrap_id (by omega) (by omega)]
              exact ih2
  have h := key 2002 0 (by omega)
  rw [show pre xs ((0 : Nat) : Int) = [] from pre_none (fun q hq => by have := hkey q hq; omega)] at h
  exact h
theorem osame_l0 (xs : Bs) (hl : xs.length ≤ 1099511627776) : ∀ d i, i + d = xs.length → Ev (fun k => saleroomref17_Same.l0 k (xs.map toO) (xs.map toO) (i : Int)) true := by
  intro d
  induction d with
  | zero =>
    intro i hi
    refine Ev.step (f := fun _ => some true) (fun k => ?_) (Ev.now _)
    simp only [saleroomref17_Same.l0, List.length_map]
    rw [if_neg (by omega)]
  | succ d ih =>
    intro i hi
    refine Ev.step (f := fun k => saleroomref17_Same.l0 k (xs.map toO) (xs.map toO) ((i + 1 : Nat) : Int)) (fun k => ?_) (ih (i + 1) (by omega))
    simp only [saleroomref17_Same.l0, List.length_map]
    rw [if_pos (by omega), if_pos (by omega), if_pos (by omega), if_neg (by simp), wrap_succ (by omega)]
theorem osame_ev (xs : Bs) (hl : xs.length ≤ 1099511627776) : Ev (fun k => saleroomref17_Same.f k (xs.map toO) (xs.map toO)) true := by
  refine Ev.congr (fun k => ?_) (osame_l0 xs hl xs.length 0 (by omega))
  simp only [saleroomref17_Same.f]
  rw [if_pos trivial]
  rfl

open Go.Proofs.Ytmdacfgofilbdaa.Cod (wrB goodB)
theorem C_90' {w : World} {A : Option Addr} {ms : List Mv} (h : Kd.C PHoldPlays.k90 w A ms.length (ms.map toV)) : Kd.C k90 w A (ms.map toW).length (ms.map toW) := by
  refine ⟨rfl, by rw [List.length_map]; exact h.2.1, fun hn => ?_⟩
  rw [List.length_map] at hn
  obtain ⟨ad, e, hc⟩ := h.2.2 hn
  refine ⟨ad, e, fun j x hx => ?_⟩
  rw [List.getElem?_map] at hx
  cases hq : ms[j]? with
  | none => rw [hq] at hx; simp at hx
  | some y =>
    rw [hq] at hx
    obtain rfl : toW y = x := by simpa using hx
    obtain ⟨cs, hl, hk, hcell⟩ := hc j (toV y) (by rw [List.getElem?_map, hq]; rfl)
    obtain rfl := PHoldPlays.k90_open hk
    exact ⟨_, rfl, k90_mk w _, hcell⟩
/-- the slice v reads as the balances xs -/
def PO (W : World) (v : Value) (xs : Bs) : Prop := ∃ A c, v = .slice A (xs.map toO).length c ∧ (xs.map toO).length ≤ c ∧ Kd.C k115 W A (xs.map toO).length (xs.map toO)
theorem PO.below {W W' : World} {v : Value} {l : Bs} (h : PO W v l) (hb : Below W.heap.size W W') : PO W' v l := by
  obtain ⟨A, c, rfl, h1, h2⟩ := h
  exact ⟨A, c, rfl, h1, Kd.C_below h2 hb⟩
theorem po_nil (W : World) : PO W (.slice none 0 0) [] := ⟨none, 0, rfl, Nat.le_refl _, rfl, by simp, fun h => absurd h (by simp)⟩
theorem po_own {W : World} {base : Nat} {v : Value} {zs : Bs} (hl : zs.length ≤ 1099511627776) (h : W.ownsRow base tOne 2 v zs.length (cellsOf cP2 zs)) : PO W v zs := by
  have h0 := h
  rcases h0.2 with ⟨rfl, hz⟩ | ⟨g, cap, cur, rfl, hb, hg, hc, hlc, _⟩
  · obtain rfl := List.eq_nil_of_length_eq_zero hz
    exact po_nil W
  · refine ⟨some ⟨g, 0, none⟩, cap, by rw [List.length_map], by rw [List.length_map]; exact own_le h, rfl, by rw [List.length_map]; omega, fun hpos => ⟨_, rfl, fun j x hx => ⟨[.int .i64 x.f0, .int .i64 x.f1], rfl, k115_mk W x, fun i u hu => ?_⟩⟩⟩
    rw [List.getElem?_map] at hx
    cases hq : zs[j]? with
    | none => rw [hq] at hx; simp at hx
    | some q =>
      rw [hq] at hx
      have hj : j < zs.length := (List.getElem?_eq_some_iff.1 hq).1
      have hi : i < 2 := by have := (List.getElem?_eq_some_iff.1 hu).1; simpa using this
      rw [show j * k115.sz + i = j * 2 + i from rfl, addr_add, Nat.zero_add, h.cellAt (j * 2 + i) (by omega), cellsOf_at cP2_length zs (0, 0) hj hi, List.getD_eq_getElem?_getD, hq]
      obtain rfl : toO q = x := by simpa using hx
      exact hu
theorem rlist_any (W : World) (v : Value) (xs : Bs) (ms : List Mv) (h : PM W v ms) (hR : Rel xs ms) (hF : Fine xs) (hl : ms.length ≤ 1099511627776) :
    Calls Try.prog 32 #[v] W fun e w' => ∃ v2, e = .returned v2 ∧ PO w' v2 xs ∧ Below W.heap.size W w' := by
  obtain ⟨A, c, rfl, h1, h2⟩ := h
  obtain ⟨k, hk⟩ := (list_ev xs ms hR hF hl).rounds
  have := saleroomref17_List.calls k A c (ms.map toW) _ W (C_90' h2) (by rw [List.length_map]; exact h1) hk
  rw [List.length_map] at this
  refine this.mono ?_
  rintro e w' ⟨v2, rfl, hK, hB⟩
  obtain ⟨A', c', rfl, hl', hr⟩ := Kd.R_reads hK
  exact ⟨_, rfl, ⟨A', c', rfl, hl', (Kd.R_reads' hK).2.2⟩, hB⟩
theorem osame_any (W : World) (v1 v2 : Value) (xs : Bs) (h : PO W v1 xs) (k : PO W v2 xs) (hl : xs.length ≤ 1099511627776) :
    Calls Try.prog 33 #[v1, v2] W fun e w' => e = .returned (.bool true) ∧ Below W.heap.size W w' := by
  obtain ⟨A, c, rfl, h1, h2⟩ := h
  obtain ⟨B, d, rfl, k1, k2⟩ := k
  obtain ⟨n, hn⟩ := (osame_ev xs hl).rounds
  exact (saleroomref17_Same.calls n A c _ B d _ true W h2 h1 k2 k1 hn).mono fun e w' ⟨x, y⟩ => ⟨x, y.below⟩
end Go.Proofs.Ytmdacfgofilbdaa.LedR
