/- HoldSets. -/
import Derived.Test.YtmdacfgofilbdaaHoldSp
import Derived.Test.YtmdacfgofilbdaaLed4
set_option linter.unusedSimpArgs false
set_option linter.unusedVariables false
namespace Go.Proofs.Ytmdacfgofilbdaa.Led
open Go.RowKit Go.Proofs.Ytmdacfgofilbdaa.TabL Go.Proofs.YtmdacfgofilbdaaW.PrintWords Go.Proofs.Ytmdacfgofilbdaa.PHoldPlays
open Go.Proofs.Ytmdacfgofilbdaa.TabB (ltI lin getV TMg)
attribute [local go_sem] Oper.semAt_some

set_option maxHeartbeats 8000000 in
set_option maxRecDepth 100000 in
theorem sets_walk (W : World) (ops : List S38) (A : Option Addr) (c : Nat) (hc : ops.length ≤ c) (_ : A = none → c = 0) (hC : k38.C W A ops.length ops) (hL : ops.length ≤ maxLen) (_ : ∀ o ∈ ops, True) (party : Int) (_ : (Lit.int .i64 party).wf = true) (amount : Int) (_ : (Lit.int .i64 amount).wf = true) :
    Calls Try.prog 4 #[.slice A ops.length c, .int .i64 party, .int .i64 amount] W fun e w' => e = .returned (.bool true) ∧ Below W.heap.size W w' := by
  have HC := Lib.hid hC
  unfold maxLen at hL
  clear hC
  cases hs : smallB ops with
  | false =>
    go_enter Try.func4, Try.ntmps4
    go_wp2_with fail
    refine (alive_any _).mono ?_; rintro e w1 ⟨rfl, hb1⟩
    go_wp2_with fail
    refine (small_any w1 A c ops (Kd.C_below HC.out hb1) hc (by omega)).mono ?_; rintro e w2 ⟨rfl, hb2⟩
    rw [hs]
    have HB2 := Lib.hid (hb1.trans (hb2.mono hb1.size))
    clear hb1 hb2
    go_wp2_with fail
    go_ret
    exact ⟨rfl, HB2.out⟩
  | true =>
    obtain ⟨h40, h8⟩ := smallB_true hs
    have H8 := Lib.hid h8
    clear h8
    go_enter Try.func4, Try.ntmps4
    go_wp2_with fail
    refine (alive_any _).mono ?_; rintro e w1 ⟨rfl, hb1⟩
    go_wp2_with fail
    refine (small_any w1 A c ops (Kd.C_below HC.out hb1) hc (by omega)).mono ?_; rintro e w2 ⟨rfl, hb2⟩
    rw [hs]
    have HB2 := Lib.hid (hb1.trans (hb2.mono hb1.size))
    have hz2 := HB2.out.size
    clear hb1 hb2 hs
    go_wp2_with fail
    go_loopw [27] (fun i wr => ∃ (k : Nat) (xs : Bs) (ms : List Mv) (v : Value), i = .int .i64 (k : Int) ∧ k ≤ ops.length ∧ TMg tP wr w2.heap.size xs ∧ PM wr v ms ∧ Rel xs ms ∧ HeldOk xs ∧ xs.length ≤ 16 * k ∧ ms.length ≤ 8 * k ∧ Blk wr (w2.heap.size + 1) 35 [v] ∧ Below W.heap.size W wr)
      (fun i _ => ops.length - (match i with | .int _ n => n.toNat | _ => 0))
    case atStart =>
      refine ⟨0, [], [], .slice none 0 0, rfl, Nat.zero_le _, ⟨none, .leaf, (Blk.new w2 [.pointer none] _).alloc _, rfl, rfl⟩, pm_nil _, Rel.nil, HeldOk.nil, by simp, by simp, Blk.new2 w2 _ _ _, ((HB2.out.alloc hz2 _).alloc (by simp; omega) _)⟩
    case round =>
      obtain ⟨k, xs, ms, v, rfl, hk, hT, hP, hR, hH, hx, hm, hBx, hB⟩ := hrel
      by_cases hlt : k < ops.length
      · obtain ⟨o, hget⟩ : ∃ o, ops[k]? = some o := ⟨_, List.getElem?_eq_getElem hlt⟩
        obtain ⟨b, off, A3, c3, rfl, hbl, q0, q1, q2, q3, hRb⟩ := op_at HC.out hget
        have hbz := hB.size
        have h8o := H8.out o (List.mem_of_getElem? hget)
        have r0 := (hB.cell (p := ⟨b, off + k * 4, none⟩) hbl).trans q0
        have r1 := (hB.cell (p := ⟨b, off + k * 4 + 1, none⟩) hbl).trans q1
        have r2 := (hB.cell (p := ⟨b, off + k * 4 + 2, none⟩) hbl).trans q2
        have r3 := (hB.cell (p := ⟨b, off + k * 4 + 3, none⟩) hbl).trans q3
        obtain ⟨kd, hkd⟩ : ∃ kd, o.f0 = kd := ⟨_, rfl⟩
        obtain ⟨who, hwho⟩ : ∃ who, o.f1 = who := ⟨_, rfl⟩
        obtain ⟨am, ham⟩ : ∃ am, o.f2 = am := ⟨_, rfl⟩
        rw [hkd] at r0
        rw [hwho] at r1
        rw [ham] at r2
        have hbs : (bl o).length ≤ 8 := by rw [bl_len]; exact h8o
        obtain ⟨bs, hbse⟩ : ∃ bs, bl o = bs := ⟨_, rfl⟩
        rw [hbse] at r3 hRb hbs
        obtain ⟨Av, cv, rfl, hlv, -⟩ := id hP
        have cx := hBx.cell (i := 0) rfl
        have hal : Below wr.heap.size wr (wr.alloc (.cells #[.int .i64 kd, .int .i64 who, .int .i64 am, .slice A3 bs.length c3] 38)) := (Below.refl _ wr).alloc (Nat.le_refl _) _
        have hOp := Blk.new wr [.int .i64 kd, .int .i64 who, .int .i64 am, .slice A3 bs.length c3] 38
        have hBal := hB.trans (hal.mono hbz)
        have hRb' := (hRb.below hBal).mono hBal.size
        have hpz := hT.lt
        have hxz := hBx.lt
        have HD := Lib.hid (do_any _ w2.heap.size xs ms (.slice Av ms.length cv) kd who am A3 c3 bs (by decide) (hT.below hal) (hP.below hal) hR (by omega) (by omega) hbs hRb')
        have HBx := Lib.hid (hBx.belowS hal); have HOp := Lib.hid hOp; have HBal := Lib.hid hBal; have HR := Lib.hid hR; have HH := Lib.hid hH
        clear hH hkd hwho ham hbse hget q0 q1 q2 q3 hRb hRb' hT hP hR hBx hB hal hOp hBal
        go_wp2_with fail
        refine HD.out.mono ?_; rintro e w3 ⟨v', xs', ms', rfl, hpost⟩
        obtain ⟨hT3, hP3, hR3, hH3, hlx, hlm, hg3⟩ := hpost
        have HH3 := Lib.hid (hH3 HH.out)
        clear hH3
        have hBx3 := HBx.out.kept hg3 (by first | omega | (simp; done) | (simp; omega))
        have hOp3 := HOp.out.kept hg3 (by first | omega | (simp; done) | (simp; omega))
        have hB3 := HBal.out.grown hg3 HBal.out.size (fun r e => by cases e; exact hz2)
        obtain ⟨Av', cv', rfl, -⟩ := id hP3
        have hz3 := hg3.size
        rw [World.size_alloc] at hz3
        have hxx : w2.heap.size + 1 < w3.heap.size := by omega
        have hrz : wr.heap.size < w3.heap.size := by omega
        have cx3 := hBx3.cell (i := 0) rfl
        have fx3 := hBx3.frozen 0
        have o1 := hOp3.cell (i := 1) rfl
        have hput := hP3.put hBx3 (.slice Av' ms'.length cv')
        have hTo := hT3.other (grownBy_setAt w3 (w2.heap.size + 1) 0 (.slice Av' ms'.length cv')) hBx3 (by omega) (by decide)
        have hBs := hB3.setCell (p := ⟨w2.heap.size + 1, 0, none⟩) (by first | omega | (simp; omega)) (.slice Av' ms'.length cv')
        have hXs := hBx3.set 0 (.slice Av' ms'.length cv')
        have hOs := hOp3.other (p := ⟨w2.heap.size + 1, 0, none⟩) (by first | omega | (simp; omega)) (.slice Av' ms'.length cv')
        have HS := Lib.hid (And.intro hTo (And.intro hput (And.intro hR3 (And.intro hBs hXs))))
        have HOs := Lib.hid hOs
        clear hT3 hP3 hR3 hg3 hBx3 hOp3 hB3 hput hTo hBs hXs hOs HD HBx HOp HBal cx r0 r1 r2 r3
        go_wp2_with fail
        go_roundw
        case rel => exact ⟨k + 1, xs', ms', _, by congr 1, by omega, HS.out.1, HS.out.2.1, HS.out.2.2.1, HH3.out, by omega, by omega, HS.out.2.2.2.2, HS.out.2.2.2.1⟩
        case measure => simp; omega
      · have hpz := hT.lt
        have hrb := hR.bnd
        have hfb := hrb (freeA party)
        have hhb := hrb (holdA party)
        have hsd := hR.sd
        have hxl : xs.length ≤ 1000 := by omega
        have HCL := Lib.hid (ledger_any wr w2.heap.size xs hT)
        have CH := fun w (c : Nat) (hT : TMg tP w c xs) => has_any w c xs party (by decide) hT hsd
        have CE := fun w (c : Nat) (hT : TMg tP w c xs) => held_any w c xs party (by decide) hT hsd
        have CS := fun w (c : Nat) (hT : TMg tP w c xs) => hset_any w c xs party amount (by decide) hT hsd (by omega) hrb
        obtain ⟨f, hf⟩ : ∃ f, getV xs (freeA party) = f := ⟨_, rfl⟩
        obtain ⟨h, hh⟩ : ∃ h, getV xs (holdA party) = h := ⟨_, rfl⟩
        rw [hf] at hfb
        rw [hh] at hhb
        simp only [hf] at CH
        simp only [hh] at CE
        have HCH := Lib.hid CH; have HCE := Lib.hid CE
        have HT := Lib.hid hT; have HR := Lib.hid hR; have HH := Lib.hid hH; have HB := Lib.hid hB; have HF := Lib.hid hf; have HHH := Lib.hid hh; have HSD := Lib.hid hsd; have HRB := Lib.hid hrb
        have l1 := hfb.1
        have l2 := hfb.2
        have l3 := hhb.1
        have l4 := hhb.2
        clear CH CE hf hh hT hP hR hH hBx hB hx hm hsd hrb hfb hhb
        have hcase : ((party < 2 ∨ ¬ party < 2 ∧ 1000 < party ∨ ¬ party < 2 ∧ ¬ 1000 < party ∧ amount < 0 ∨ ¬ party < 2 ∧ ¬ 1000 < party ∧ ¬ amount < 0 ∧ 1099511627776 < amount ∨ ¬ party < 2 ∧ ¬ 1000 < party ∧ ¬ amount < 0 ∧ ¬ 1099511627776 < amount ∧ decide (amount ≤ f + h) = false) ∧ ∃ E, E ≠ 0 ∧ setE xs party amount = E ∧ setB xs party amount = xs) ∨
            (¬ party < 2 ∧ ¬ 1000 < party ∧ ¬ amount < 0 ∧ ¬ 1099511627776 < amount ∧ ¬ f + h < amount ∧ partyA party = true) := by
          cases hp : partyA party with
          | false =>
            left
            refine ⟨?_, 1, by decide, set_no (.inl hp)⟩
            unfold partyA at hp
            simp at hp
            omega
          | true =>
            have hpb := party_bnd hp
            cases hm : rightM amount with
            | false =>
              left
              refine ⟨?_, 1, by decide, set_no (.inr hm)⟩
              unfold rightM at hm
              simp at hm
              omega
            | true =>
              have hmb := rightM_le hm
              have ef : freeA party = 2 * party := by unfold freeA; rw [hp]; rfl
              have eh : holdA party = 2 * party + 1 := by unfold holdA; rw [hp]; rfl
              have s1 := HF.out
              have s2 := HHH.out
              rw [ef] at s1
              rw [eh] at s2
              by_cases hlt : f + h < amount
              · left
                refine ⟨.inr (.inr (.inr (.inr ⟨by omega, by omega, by omega, by omega, decide_eq_false (by omega)⟩))), 40, by decide, ?_⟩
                exact (set_ok HR.out HH.out hp hm).1 (by rw [s1, s2]; exact hlt)
              · right
                exact ⟨by omega, by omega, by omega, by omega, hlt, rfl⟩
        rcases hcase with ⟨hor, E, hE0, hEE, hEB⟩ | ⟨k1, k2, k3, k4, k5, hp⟩
        · have hE1 : (E == 0) = false := by simpa using hE0
          rw [hEE, hEB] at CS
          have HCS := Lib.hid CS
          clear CS hEE hEB
          rcases hor with k1 | ⟨k1, k2⟩ | ⟨k1, k2, k3⟩ | ⟨k1, k2, k3, k4⟩ | ⟨k1, k2, k3, k4, k5⟩
          all_goals
            go_wp2_with fail
            refine HCL.out.mono ?_; rintro e w4 ⟨cl, rfl, hcl, hL, hb4⟩
            have HB4 := Lib.hid (HB.out.trans (hb4.mono HB.out.size))
            have HL := Lib.hid hL
            have hclz := hL.lt
            clear hb4 hL
            go_wp2_with fail
            refine (of_any w4 cl xs HL.out).mono ?_; rintro e w5 ⟨cq, rfl, hcq, hQ, hb5⟩
            have HB5 := Lib.hid (HB4.out.trans (hb5.mono HB4.out.size))
            have HL5 := Lib.hid (HL.out.below hb5)
            have HQ5 := Lib.hid hQ
            clear hb5 hQ
            go_wp2_with fail
            refine (HCH.out w5 cq HQ5.out).mono ?_; rintro e w6 ⟨rfl, hb6⟩
            have HB6 := Lib.hid (HB5.out.trans (hb6.mono HB5.out.size)); have HL6 := Lib.hid (HL5.out.below hb6); have HQ6 := Lib.hid (HQ5.out.below hb6)
            clear hb6
            go_wp2_with fail
            refine (HCE.out w6 cq HQ6.out).mono ?_; rintro e w7 ⟨rfl, hb7⟩
            have HB7 := Lib.hid (HB6.out.trans (hb7.mono HB6.out.size)); have HL7 := Lib.hid (HL6.out.below hb7); have HQ7 := Lib.hid (HQ6.out.below hb7)
            clear hb7
            go_wp2_with fail
            refine (HCE.out w7 cq HQ7.out).mono ?_; rintro e w8 ⟨rfl, hb8⟩
            have HB8 := Lib.hid (HB7.out.trans (hb8.mono HB7.out.size)); have HL8 := Lib.hid (HL7.out.below hb8); have HQ8 := Lib.hid (HQ7.out.below hb8)
            have hz8 := HB8.out.size
            clear hb8
            go_wp2_with fail
            refine (HCS.out w8 cq HQ8.out).mono ?_; rintro e w9 ⟨rfl, hQ9, hg9⟩
            have HL9 := Lib.hid (tm_other (by decide) HL8.out HQ8.out hg9 (by omega))
            have HB9 := Lib.hid (HB8.out.grown hg9 HB8.out.size (fun r e => by cases e; have := HB4.out.size; omega))
            have HQ9 := Lib.hid hQ9
            clear hQ9 hg9
            go_wp2_with fail
            refine (ledger_any w9 cq xs HQ9.out).mono ?_; rintro e w10 ⟨c3, rfl, hc3, hL3, hb10⟩
            have HB10 := Lib.hid (HB9.out.trans (hb10.mono HB9.out.size))
            have HSM := Lib.hid (lsame_refl w10 c3 cl xs hL3 (HL9.out.below hb10) (by omega))
            clear hL3 hb10
            go_wp2_with fail
            refine HSM.out.mono ?_; rintro e w11 ⟨rfl, hb11⟩
            have HB11 := Lib.hid (HB10.out.trans (hb11.mono HB10.out.size))
            clear hb11
            go_wp2_with fail
            go_ret
            exact ⟨rfl, HB11.out⟩
        · have hm : rightM amount = true := rightM_mk (by omega) (by omega)
          have ef : freeA party = 2 * party := by unfold freeA; rw [hp]; rfl
          have eh : holdA party = 2 * party + 1 := by unfold holdA; rw [hp]; rfl
          have s1 := HF.out
          have s2 := HHH.out
          rw [ef] at s1
          rw [eh] at s2
          have hle : amount ≤ getV xs (2 * party) + getV xs (2 * party + 1) := by rw [s1, s2]; omega
          have hE0 := ((set_ok HR.out HH.out hp hm).2 hle).1
          obtain ⟨g1, g2, g3, g4⟩ := set_back HR.out HH.out hp hm hle
          have hho := HH.out.1 party hp
          have hR1 := (HR.out.set party amount).2
          have hxl1 := setB_len xs party amount
          rw [hE0] at CS
          rw [s1, s2] at g2
          rw [s2] at g3 g4 hho
          obtain ⟨ys, hys⟩ : ∃ ys, setB xs party amount = ys := ⟨_, rfl⟩
          rw [hys] at CS g1 g2 g3 g4 hR1 hxl1
          have hsd1 := hR1.sd
          have hrb1 := hR1.bnd
          have DE := fun w (c : Nat) (hT : TMg tP w c ys) => held_any w c ys party (by decide) hT hsd1
          have DH := fun w (c : Nat) (hT : TMg tP w c ys) => has_any w c ys party (by decide) hT hsd1
          have DS := fun w (c : Nat) (hT : TMg tP w c ys) => hset_any w c ys party h (by decide) hT hsd1 (by omega) hrb1
          rw [eh, g1] at DE
          rw [ef, g2] at DH
          rw [g3, g4] at DS
          have HCS := Lib.hid CS; have HDE := Lib.hid DE; have HDH := Lib.hid DH; have HDS := Lib.hid DS
          have n1 : -9223372036854775808 ≤ f + h - amount := by omega
          have n2 : f + h - amount ≤ 9223372036854775807 := by omega
          have k5' : decide (amount ≤ f + h) = true := decide_eq_true (by omega)
          clear CS DE DH DS hE0 g1 g2 g3 g4 hR1 hys hsd1 hrb1 ef eh s1 s2 hle hp hm
          go_wp2_with fail
          refine HCL.out.mono ?_; rintro e w4 ⟨cl, rfl, hcl, hL, hb4⟩
          have HB4 := Lib.hid (HB.out.trans (hb4.mono HB.out.size))
          have HL := Lib.hid hL
          have HT4 := Lib.hid (HT.out.below hb4)
          have hclz := hL.lt
          clear hb4 hL
          go_wp2_with fail
          refine (of_any w4 cl xs HL.out).mono ?_; rintro e w5 ⟨cq, rfl, hcq, hQ, hb5⟩
          have HB5 := Lib.hid (HB4.out.trans (hb5.mono HB4.out.size))
          have HL5 := Lib.hid (HL.out.below hb5)
          have HT5 := Lib.hid (HT4.out.below hb5)
          have HQ5 := Lib.hid hQ
          clear hb5 hQ
          go_wp2_with fail
          refine (HCH.out w5 cq HQ5.out).mono ?_; rintro e w6 ⟨rfl, hb6⟩
          have HB6 := Lib.hid (HB5.out.trans (hb6.mono HB5.out.size)); have HL6 := Lib.hid (HL5.out.below hb6); have HT6 := Lib.hid (HT5.out.below hb6); have HQ6 := Lib.hid (HQ5.out.below hb6)
          clear hb6
          go_wp2_with fail
          refine (HCE.out w6 cq HQ6.out).mono ?_; rintro e w7 ⟨rfl, hb7⟩
          have HB7 := Lib.hid (HB6.out.trans (hb7.mono HB6.out.size)); have HL7 := Lib.hid (HL6.out.below hb7); have HT7 := Lib.hid (HT6.out.below hb7); have HQ7 := Lib.hid (HQ6.out.below hb7)
          clear hb7
          go_wp2_with fail
          refine (HCE.out w7 cq HQ7.out).mono ?_; rintro e w8 ⟨rfl, hb8⟩
          have HB8 := Lib.hid (HB7.out.trans (hb8.mono HB7.out.size)); have HL8 := Lib.hid (HL7.out.below hb8); have HT8 := Lib.hid (HT7.out.below hb8); have HQ8 := Lib.hid (HQ7.out.below hb8)
          clear hb8
          go_wp2_with fail
          refine (HCS.out w8 cq HQ8.out).mono ?_; rintro e w9 ⟨rfl, hQ9, hg9⟩
          have HL9 := Lib.hid (tm_other (by decide) HL8.out HQ8.out hg9 (by omega))
          have HT9 := Lib.hid (tm_other (by decide) HT8.out HQ8.out hg9 (by omega))
          have HB9 := Lib.hid (HB8.out.grown hg9 HB8.out.size (fun r e => by cases e; have := HB4.out.size; omega))
          have HQ9 := Lib.hid hQ9
          clear hQ9 hg9
          go_wp2_with fail
          refine (HDE.out w9 cq HQ9.out).mono ?_; rintro e w10 ⟨rfl, hb10⟩
          have HB10 := Lib.hid (HB9.out.trans (hb10.mono HB9.out.size)); have HL10 := Lib.hid (HL9.out.below hb10); have HT10 := Lib.hid (HT9.out.below hb10); have HQ10 := Lib.hid (HQ9.out.below hb10)
          clear hb10
          go_wp2_with fail
          refine (HDH.out w10 cq HQ10.out).mono ?_; rintro e w11 ⟨rfl, hb11⟩
          have HB11 := Lib.hid (HB10.out.trans (hb11.mono HB10.out.size)); have HL11 := Lib.hid (HL10.out.below hb11); have HT11 := Lib.hid (HT10.out.below hb11); have HQ11 := Lib.hid (HQ10.out.below hb11)
          clear hb11
          go_wp2_with fail
          refine (HDS.out w11 cq HQ11.out).mono ?_; rintro e w12 ⟨rfl, hQ12, hg12⟩
          have HL12 := Lib.hid (tm_other (by decide) HL11.out HQ11.out hg12 (by omega))
          have HT12 := Lib.hid (tm_other (by decide) HT11.out HQ11.out hg12 (by omega))
          have HB12 := Lib.hid (HB11.out.grown hg12 HB11.out.size (fun r e => by cases e; have := HB4.out.size; omega))
          have HQ12 := Lib.hid hQ12
          clear hQ12 hg12
          go_wp2_with fail
          refine (ledger_any w12 cq xs HQ12.out).mono ?_; rintro e w13 ⟨c3, rfl, hc3, hL3, hb13⟩
          have HB13 := Lib.hid (HB12.out.trans (hb13.mono HB12.out.size)); have HL13 := Lib.hid (HL12.out.below hb13); have HT13 := Lib.hid (HT12.out.below hb13)
          have HSM := Lib.hid (lsame_refl w13 c3 cl xs hL3 HL13.out (by omega))
          clear hL3 hb13
          go_wp2_with fail
          refine HSM.out.mono ?_; rintro e w14 ⟨rfl, hb14⟩
          have HB14 := Lib.hid (HB13.out.trans (hb14.mono HB13.out.size)); have HL14 := Lib.hid (HL13.out.below hb14); have HT14 := Lib.hid (HT13.out.below hb14)
          clear hb14
          go_wp2_with fail
          refine (ledger_any w14 w2.heap.size xs HT14.out).mono ?_; rintro e w15 ⟨c5, rfl, hc5, hL5, hb15⟩
          have HB15 := Lib.hid (HB14.out.trans (hb15.mono HB14.out.size)); have HL15 := Lib.hid (HL14.out.below hb15)
          have HSM2 := Lib.hid (lsame_refl w15 c5 cl xs hL5 HL15.out (by omega))
          clear hL5 hb15
          go_wp2_with fail
          refine HSM2.out.mono ?_; rintro e w16 ⟨rfl, hb16⟩
          have HB16 := Lib.hid (HB15.out.trans (hb16.mono HB15.out.size))
          clear hb16
          go_wp2_with fail
          go_ret
          exact ⟨rfl, HB16.out⟩

end Go.Proofs.Ytmdacfgofilbdaa.Led
