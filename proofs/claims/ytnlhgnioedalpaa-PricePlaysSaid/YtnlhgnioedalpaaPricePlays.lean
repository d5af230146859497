/- PricePlays: of each row of puts and rises every answer, and what is asked behind it, is as the document says. -/
import Derived.Test.YtnlhgnioedalpaaPriX
set_option linter.unusedSimpArgs false
set_option linter.unusedVariables false
namespace Go.Proofs.Ytnlhgnioedalpaa.Pri
open Go.RowKit Go.Proofs.YtnlhgnioedalpaaW.PrintWords Go.Proofs.Ytnlhgnioedalpaa.PPricePlays
attribute [local go_sem] Oper.semAt_some

set_option maxHeartbeats 8000000 in
set_option maxRecDepth 100000 in
theorem plays_core (W : World) (v : Value) (es : List En) (h : PE W v es) (hU : UE es) (A : Option Addr) (c : Nat) (xs : List Int) (hC : (Kd.int .u64).C W A xs.length xs) (hxs : ∀ x ∈ xs, U x) (n : Int) (B : Option Addr) (d : Nat) (ys : List Int) (hD : (Kd.int .u64).C W B ys.length ys) (hys : ∀ x ∈ ys, U x) :
    Calls Try.prog 3 #[v, .slice A xs.length c, .int .i64 n, .slice B ys.length d] W fun e w' => e = .returned (.bool true) ∧ Below W.heap.size W w' := by
  have H := Lib.hid h; have HC := Lib.hid hC; have HD := Lib.hid hD
  obtain ⟨A1, c1, rfl, -⟩ := h
  clear hC hD
  by_cases hlong : 60 < es.length ∨ 60 < xs.length ∨ 60 < ys.length
  · have d1 : (60 : Int) < (es.length : Int) ∨ ¬ (60 : Int) < (es.length : Int) := by omega
    have d2 : (60 : Int) < (xs.length : Int) ∨ ¬ (60 : Int) < (xs.length : Int) := by omega
    have d3 : (60 : Int) < (ys.length : Int) ∨ ¬ (60 : Int) < (ys.length : Int) := by omega
    go_enter Try.func3, Try.ntmps3
    go_wp2_with fail
    refine (alive_any _).mono ?_; rintro e w1 ⟨rfl, hb1⟩
    have HB1 := Lib.hid hb1
    clear hb1
    rcases d1 with g1 | g1
    · go_wp2_with fail
      go_ret
      exact ⟨rfl, HB1.out⟩
    · rcases d2 with g2 | g2
      · go_wp2_with fail
        go_ret
        exact ⟨rfl, HB1.out⟩
      · rcases d3 with g3 | g3
        · go_wp2_with fail
          go_ret
          exact ⟨rfl, HB1.out⟩
        · omega
  · have g1 : ¬ (60 : Int) < (es.length : Int) := by omega
    have g2 : ¬ (60 : Int) < (xs.length : Int) := by omega
    have g3 : ¬ (60 : Int) < (ys.length : Int) := by omega
    have l1 : es.length ≤ 60 := by omega
    have l2 : xs.length ≤ 60 := by omega
    go_enter Try.func3, Try.ntmps3
    go_wp2_with fail
    refine (alive_any _).mono ?_; rintro e w1 ⟨rfl, hb1⟩
    have HB1 := Lib.hid hb1
    have HE := Lib.hid (H.out.below hb1); have HC1 := Lib.hid (Kd.C_below HC.out hb1)
    clear hb1
    go_wp2_with fail
    refine (play_any w1 _ es HE.out hU l1 A c xs HC1.out hxs l2 n).mono ?_; rintro e w2 ⟨p, vx, rfl, hP2, hln⟩
    obtain ⟨L, hL⟩ : ∃ L, plL es xs n (max es.length xs.length) = L := ⟨_, rfl⟩
    rw [hL] at hP2 hln
    have HP2 := Lib.hid hP2
    have hts := hP2.s.ti.of_self
    have HTS := Lib.hid hts
    obtain ⟨Ax, cx, rfl⟩ := Kd.R_slice hP2.x
    rw [List.length_map] at HP2 ⊢
    clear hL hP2 hts
    go_wp2_with fail
    refine (list_any w2 p L HP2.out.s.pr (by omega)).mono ?_; rintro e w3 ⟨v3, rfl, ho3, hb3⟩
    have HV3 := Lib.hid (pe_own (by omega) ho3); have HP3 := Lib.hid (HP2.out.below hb3)
    clear ho3 hb3
    go_wp2_with fail
    refine (rsame_any w3 v3 _ L L HV3.out HP3.out.x.pe (by omega)).mono ?_; rintro e w4 ⟨rfl, hb4⟩
    rw [decide_eq_true (rfl : L = L)]
    have HP4 := Lib.hid (HP3.out.below hb4)
    clear hb4
    go_wp2_with fail
    refine (len_any w4 p L HP4.out.s.pr).mono ?_; rintro e w5 ⟨rfl, rfl⟩
    go_wp2_with fail
    refine (rtight_any w4 _ L HP4.out.x.pe HP4.out.s.ue (by omega)).mono ?_; rintro e w5 ⟨rfl, hb5⟩
    rw [HTS.out, decide_eq_true (rfl : L = L)]
    have HP5 := Lib.hid (HP4.out.below hb5)
    clear hb5
    go_wp2_with fail
    refine (list_any w5 p L HP5.out.s.pr (by omega)).mono ?_; rintro e w6 ⟨v6, rfl, ho6, hb6⟩
    have HV6 := Lib.hid (pe_own (by omega) ho6); have HP6 := Lib.hid (HP5.out.below hb6)
    clear ho6 hb6
    go_wp2_with fail
    refine (tight_any w6 v6 L HV6.out HP6.out.s.ue (by omega)).mono ?_; rintro e w7 ⟨rfl, hb7⟩
    rw [HTS.out, decide_eq_true (rfl : L = L)]
    have HP7 := Lib.hid (HP6.out.below hb7)
    clear hb7
    go_wp2_with fail
    go_loopw [66] (fun i wr => ∃ k : Nat, k ≤ ys.length ∧ i = .int .i64 (k : Int) ∧ PX w1 p L L (.slice Ax L.length cx) wr) (fun i _ => ys.length - (intOf i).toNat)
    case atStart => exact ⟨0, Nat.zero_le _, rfl, HP7.out⟩
    case round =>
      clear HP7
      obtain ⟨k, hk, rfl, hI⟩ := hrel
      have HI := Lib.hid hI
      clear hI
      by_cases hlt : k < ys.length
      · obtain ⟨x, hx⟩ : ∃ x, ys[k] = x := ⟨_, rfl⟩
        have hx2 : ys[k]? = some x := by rw [List.getElem?_eq_getElem hlt, hx]
        have hux : U x := hys _ (List.mem_of_getElem? hx2)
        obtain ⟨b9, off9, rfl, hb9, hc9⟩ := C_row HD.out (by omega)
        have r0 := ((HB1.out.trans (HI.out.bel.mono HB1.out.size)).cell (p := ⟨b9, off9 + k, none⟩) hb9).trans (hc9 k x hx2)
        obtain ⟨a, ha⟩ : ∃ a, askL L x = a := ⟨_, rfl⟩
        have HA := Lib.hid ha
        clear hx hx2 hc9 ha
        go_wp2_with fail
        refine (ask_c wr p L x a HI.out.s hux HA.out).mono ?_; rintro e wa ⟨rfl, hb⟩
        have HIa := Lib.hid (HI.out.below hb)
        clear hb
        go_wp2_with fail
        refine (rask_any wa _ L x HIa.out.x.pe HIa.out.s.ue hux (by omega)).mono ?_; rintro e wb ⟨rfl, hb⟩
        rw [HA.out]
        have HIb := Lib.hid (HIa.out.below hb)
        clear hb
        go_wp2_with fail
        refine (ask_c wb p L x a HIb.out.s hux HA.out).mono ?_; rintro e wc ⟨rfl, hb⟩
        have HIc := Lib.hid (HIb.out.below hb)
        clear hb
        go_wp2_with fail
        refine (list_any wc p L HIc.out.s.pr (by omega)).mono ?_; rintro e wd ⟨vd, rfl, hod, hb⟩
        have HVd := Lib.hid (pe_own (by omega) hod); have HId := Lib.hid (HIc.out.below hb)
        clear hb hod
        go_wp2_with fail
        refine (rask_any wd vd L x HVd.out HId.out.s.ue hux (by omega)).mono ?_; rintro e we ⟨rfl, hb⟩
        rw [HA.out]
        have HIe := Lib.hid (HId.out.below hb)
        clear hb
        go_wp2_with fail
        go_roundw
        case rel => exact ⟨k + 1, by omega, by simp, HIe.out⟩
        case measure => simp [intOf]; omega
      · obtain rfl : k = ys.length := by omega
        obtain ⟨o, ho⟩ : ∃ o, decide (ofL es = es) = o := ⟨_, rfl⟩
        have HO := Lib.hid ho
        have HEa := Lib.hid (HE.out.below HI.out.bel)
        have HBa := Lib.hid (HB1.out.trans (HI.out.bel.mono HB1.out.size))
        clear ho
        go_wp2_with fail
        refine (tight_any wr _ es HEa.out hU (by omega)).mono ?_; rintro e wa ⟨rfl, hb⟩
        rw [HO.out]
        have HEb := Lib.hid (HEa.out.below hb); have HBb := Lib.hid (HBa.out.trans (hb.mono HBa.out.size))
        clear hb
        go_wp2_with fail
        refine (rtight_any wa _ es HEb.out hU (by omega)).mono ?_; rintro e wb ⟨rfl, hb⟩
        rw [HO.out]
        have HEc := Lib.hid (HEb.out.below hb); have HBc := Lib.hid (HBb.out.trans (hb.mono HBb.out.size))
        clear hb
        go_wp2_with fail
        refine (of_any wb _ es HEc.out hU (by omega)).mono ?_; rintro e wc ⟨rfl, hS, hSl, hb⟩
        obtain ⟨q, hq⟩ : ∃ q, wb.heap.size = q := ⟨_, rfl⟩
        rw [hq] at hS ⊢
        have HS := Lib.hid hS; have HEd := Lib.hid (HEc.out.below hb); have HBd := Lib.hid (HBc.out.trans (hb.mono HBc.out.size))
        clear hb hS hq
        go_wp2_with fail
        refine (list_any wc q (ofL es) HS.out.pr (by omega)).mono ?_; rintro e wd ⟨vd, rfl, hod, hb⟩
        have HVd := Lib.hid (pe_own (by omega) hod); have HEe := Lib.hid (HEd.out.below hb); have HBe := Lib.hid (HBd.out.trans (hb.mono HBd.out.size))
        clear hb hod
        go_wp2_with fail
        refine (rof_any wd _ es HEe.out hU (by omega)).mono ?_; rintro e we ⟨ve, rfl, hpe, hb⟩
        have HVe := Lib.hid hpe; have HVf := Lib.hid (HVd.out.below hb); have HBf := Lib.hid (HBe.out.trans (hb.mono HBe.out.size))
        clear hb hpe
        go_wp2_with fail
        refine (rsame_any we vd ve (ofL es) (ofL es) HVf.out HVe.out (by omega)).mono ?_; rintro e wf ⟨rfl, hb⟩
        rw [decide_eq_true (rfl : ofL es = ofL es)]
        have HBg := Lib.hid (HBf.out.trans (hb.mono HBf.out.size))
        clear hb
        go_wp2_with fail
        go_ret
        exact ⟨rfl, HBg.out⟩

theorem plays_row (W : World) (z : List S41) (A : Option Addr) (c : Nat) (hc : z.length ≤ c) (hA : A = none → c = 0) (hC : k41.C W A z.length z) (_ : z.length ≤ maxLen) (hG : ∀ x ∈ z, (Lit.int .u64 x.f0).wf = true ∧ (Lit.int .i64 x.f1).wf = true)
    (z1 : List Int) (A1 : Option Addr) (c1 : Nat) (hc1 : z1.length ≤ c1) (hA1 : A1 = none → c1 = 0) (hC1 : (Kd.int .u64).C W A1 z1.length z1) (_ : z1.length ≤ maxLen) (hG1 : ∀ x ∈ z1, (Lit.int .u64 x).wf = true)
    (n : Int) (_ : (Lit.int .i64 n).wf = true)
    (z2 : List Int) (A2 : Option Addr) (c2 : Nat) (hc2 : z2.length ≤ c2) (hA2 : A2 = none → c2 = 0) (hC2 : (Kd.int .u64).C W A2 z2.length z2) (_ : z2.length ≤ maxLen) (hG2 : ∀ x ∈ z2, (Lit.int .u64 x).wf = true) :
    Calls Try.prog 3 #[.slice A z.length c, .slice A1 z1.length c1, .int .i64 n, .slice A2 z2.length c2] W fun e w' => e = .returned (.bool true) ∧ Below W.heap.size W w' :=
  plays_core W _ (z.map frE) (pe_row hc hA hC) (ue_row hG) A1 c1 z1 hC1 (fun x hx => U_wf (hG1 x hx)) n A2 c2 z2 hC2 (fun x hx => U_wf (hG2 x hx))

end Go.Proofs.Ytnlhgnioedalpaa.Pri
