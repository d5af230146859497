/- HoldKeeps. -/
import Derived.Test.YtmdacfgofilbdaaHoldKp
import Derived.Deep.RegionHeld3
import Derived.Test.YtmdacfgofilbdaaLed4
set_option linter.unusedSimpArgs false
set_option linter.unusedVariables false
namespace Go.Proofs.Ytmdacfgofilbdaa.Led
open Go.RowKit Go.Proofs.Ytmdacfgofilbdaa.TabL Go.Proofs.YtmdacfgofilbdaaW.PrintWords Go.Proofs.Ytmdacfgofilbdaa.PHoldPlays
open Go.Proofs.Ytmdacfgofilbdaa.TabB (ltI lin getV TMg)
attribute [local go_sem] Oper.semAt_some

set_option maxHeartbeats 16000000 in
set_option maxRecDepth 100000 in
theorem keeps_walk (W : World) (ops : List S38) (A : Option Addr) (c : Nat) (hc : ops.length ≤ c) (_ : A = none → c = 0) (hC : k38.C W A ops.length ops) (hL : ops.length ≤ maxLen) (_ : ∀ o ∈ ops, True) :
    Calls Try.prog 5 #[.slice A ops.length c] W fun e w' => e = .returned (.bool true) ∧ Below W.heap.size W w' := by
  have HC := Lib.hid hC
  unfold maxLen at hL
  clear hC
  cases hs : smallB ops with
  | false =>
    go_enter Try.func5, Try.ntmps5
    go_wp2_with fail
    refine (alive_any _).mono ?_; rintro e w1 ⟨rfl, hb1⟩
    go_wp2_with fail
    refine (small_any w1 A c ops (Kd.C_below HC.out hb1) hc (by omega)).mono ?_; rintro e w2 ⟨rfl, hb2⟩
    rw [hs]
    have HB2 := Lib.hid (hb1.trans (hb2.mono hb1.size))
    clear hb1 hb2
    go_wp2_with fail
    go_ret
    exact ⟨rfl, HB2.out⟩
  | true =>
    obtain ⟨h40, h8⟩ := smallB_true hs
    have H8 := Lib.hid h8
    clear h8
    go_enter Try.func5, Try.ntmps5
    go_wp2_with fail
    refine (alive_any _).mono ?_; rintro e w1 ⟨rfl, hb1⟩
    go_wp2_with fail
    refine (small_any w1 A c ops (Kd.C_below HC.out hb1) hc (by omega)).mono ?_; rintro e w2 ⟨rfl, hb2⟩
    rw [hs]
    have HB2 := Lib.hid (hb1.trans (hb2.mono hb1.size))
    have hz2 := HB2.out.size
    clear hb1 hb2 hs
    go_wp2_with fail
    go_loopw [4, 25] (fun wv i wr => ∃ (k : Nat) (xs : Bs) (ms : List Mv), i = .int .i64 (k : Int) ∧ wv = .int .i64 (-(getV xs 0)) ∧ k ≤ ops.length ∧ TMg tP wr w2.heap.size xs ∧ Rel xs ms ∧ HeldOk xs ∧ xs.length ≤ 16 * k ∧ Below W.heap.size W wr)
      (fun _ i _ => ops.length - (match i with | .int _ n => n.toNat | _ => 0))
    case atStart => exact ⟨0, [], [], rfl, rfl, Nat.zero_le _, ⟨none, .leaf, Blk.new w2 [.pointer none] _, rfl, rfl⟩, Rel.nil, HeldOk.nil, by simp, HB2.out.alloc hz2 _⟩
    case round =>
      obtain ⟨k, xs, ms, rfl, rfl, hk, hT, hR, hH, hx, hB⟩ := hrel
      have hxl : xs.length ≤ 1000 := by omega
      have hpz := hT.lt
      by_cases hlt : k < ops.length
      · obtain ⟨o, hget⟩ : ∃ o, ops[k]? = some o := ⟨_, List.getElem?_eq_getElem hlt⟩
        obtain ⟨b, off, A3, c3, rfl, hbl, q0, q1, q2, q3, hRb⟩ := op_at HC.out hget
        have hbz := hB.size
        have h8o := H8.out o (List.mem_of_getElem? hget)
        have r0 := (hB.cell (p := ⟨b, off + k * 4, none⟩) hbl).trans q0
        have r1 := (hB.cell (p := ⟨b, off + k * 4 + 1, none⟩) hbl).trans q1
        have r2 := (hB.cell (p := ⟨b, off + k * 4 + 2, none⟩) hbl).trans q2
        have r3 := (hB.cell (p := ⟨b, off + k * 4 + 3, none⟩) hbl).trans q3
        obtain ⟨kd, hkd⟩ : ∃ kd, o.f0 = kd := ⟨_, rfl⟩
        obtain ⟨who, hwho⟩ : ∃ who, o.f1 = who := ⟨_, rfl⟩
        obtain ⟨am, ham⟩ : ∃ am, o.f2 = am := ⟨_, rfl⟩
        rw [hkd] at r0
        rw [hwho] at r1
        rw [ham] at r2
        have hbs : (bl o).length ≤ 8 := by rw [bl_len]; exact h8o
        obtain ⟨bs, hbse⟩ : ∃ bs, bl o = bs := ⟨_, rfl⟩
        rw [hbse] at r3 hRb hbs
        have hal : Below wr.heap.size wr (wr.alloc (.cells #[.int .i64 kd, .int .i64 who, .int .i64 am, .slice A3 bs.length c3] 38)) := (Below.refl _ wr).alloc (Nat.le_refl _) _
        have hOp := Blk.new wr [.int .i64 kd, .int .i64 who, .int .i64 am, .slice A3 bs.length c3] 38
        have HB3 := Lib.hid (hB.trans (hal.mono hbz)); have HT3 := Lib.hid (hT.below hal); have HO3 := Lib.hid hOp; have HRB := Lib.hid hRb
        have HR := Lib.hid hR; have HH := Lib.hid hH
        have b0 := hR.bnd 0
        have b1 := hR.bnd 1
        have bF := hR.bnd (freeA who)
        have bH := hR.bnd (holdA who)
        have CH := fun w (hT : TMg tP w w2.heap.size xs) => has_any w w2.heap.size xs who (by decide) hT hR.sd
        have CE := fun w (hT : TMg tP w w2.heap.size xs) => held_any w w2.heap.size xs who (by decide) hT hR.sd
        have CS := fun w (hT : TMg tP w w2.heap.size xs) => sold_any w w2.heap.size xs (by decide) hT hR.sd
        obtain ⟨z0, hz0⟩ : ∃ z, getV xs 0 = z := ⟨_, rfl⟩
        obtain ⟨z1, hz1⟩ : ∃ z, getV xs 1 = z := ⟨_, rfl⟩
        obtain ⟨f, hf⟩ : ∃ z, getV xs (freeA who) = z := ⟨_, rfl⟩
        obtain ⟨h, hh⟩ : ∃ z, getV xs (holdA who) = z := ⟨_, rfl⟩
        rw [hz0] at b0 ⊢
        rw [hz1] at b1
        rw [hf] at bF
        rw [hh] at bH
        simp only [hf] at CH
        simp only [hh] at CE
        simp only [hz1] at CS
        have HCH := Lib.hid CH; have HCE := Lib.hid CE; have HCS := Lib.hid CS
        have HZ0 := Lib.hid hz0; have HZ1 := Lib.hid hz1; have HFF := Lib.hid hf; have HHF := Lib.hid hh
        obtain ⟨b01, b02⟩ := b0
        obtain ⟨b11, b12⟩ := b1
        obtain ⟨bF1, bF2⟩ := bF
        obtain ⟨bH1, bH2⟩ := bH
        clear CH CE CS hz0 hz1 hf hh hkd hwho ham hbse hget q0 q1 q2 q3 hRb hT hR hH hB hOp
        go_wp2_with fail
        obtain ⟨w3, hw3⟩ : ∃ w3, wr.alloc (.cells #[.int .i64 kd, .int .i64 who, .int .i64 am, .slice A3 bs.length c3] 38) = w3 := ⟨_, rfl⟩
        obtain ⟨z, hz⟩ : ∃ z, wr.heap.size = z := ⟨_, rfl⟩
        rw [hw3] at HB3 HT3 HO3 ⊢
        rw [hz] at HO3 hpz hbz ⊢
        clear hw3 hal hz r0 r1 r2 r3
        refine (ledger_any w3 w2.heap.size xs HT3.out).mono ?_; rintro e w4 ⟨cl, rfl, hcl, hL, hb4⟩
        have HB4 := Lib.hid (HB3.out.trans (hb4.mono HB3.out.size)); have HT4 := Lib.hid (HT3.out.below hb4); have HO4 := Lib.hid (HO3.out.belowS hb4); have HL4 := Lib.hid hL
        have hclz := hL.lt
        have hz3 := HO3.out.lt
        have c1 := HO4.out.cell (i := 1) rfl
        have F : ∀ w, Below w4.heap.size w4 w → TMg tP w w2.heap.size xs ∧ w.cell? ⟨z, 1, none⟩ = some (.int .i64 who) ∧ Blk w z 38 [.int .i64 kd, .int .i64 who, .int .i64 am, .slice A3 bs.length c3] ∧ TMg tL w cl xs ∧ Below W.heap.size W w := fun w hw => ⟨HT4.out.below hw, (HO4.out.belowS hw).cell (i := 1) rfl, HO4.out.belowS hw, HL4.out.below hw, HB4.out.trans (hw.mono HB4.out.size)⟩
        have hbd : Below w4.heap.size w4 w4.drew := (Below.refl _ w4).drew
        have c1d := (F _ hbd).2.1
        have HF := Lib.hid F; have HBD := Lib.hid hbd
        clear hb4 hL F hbd
        go_wp2_with fail
        go_region_held3 (fun w' => w'.cell? ⟨z, 1, none⟩ = some (.int .i64 who)) (first | exact c1 | exact c1d | exact c15 | exact c16) ((first
          | (go_at_call 21; refine (HCS.out w6 (HF.out _ hB6.out).1).mono ?_; rintro e wx ⟨rfl, rfl⟩)
          | (go_at_call 18; refine (HCE.out w5 (HF.out _ hB5.out).1).mono ?_; rintro e w6 ⟨rfl, hb6⟩; have hB6 := Lib.hid (hB5.out.trans (hb6.mono hB5.out.size)); have c16 := (HF.out _ hB6.out).2.1; clear hb6)
          | (go_at_call 17; refine (HCH.out w4.drew (HF.out _ HBD.out).1).mono ?_; rintro e w5 ⟨rfl, hb5⟩; have hB5 := Lib.hid (HBD.out.trans (hb5.mono HBD.out.size)); have c15 := (HF.out _ hB5.out).2.1; clear hb5)))
        have hfin := HF.out _ hB6.out
        obtain ⟨hT6, -, hO6, hL6, hB6'⟩ := hfin
        have HT6 := Lib.hid hT6; have HO6 := Lib.hid hO6; have HL6 := Lib.hid hL6; have HB6 := Lib.hid hB6'
        have d0 := hO6.cell (i := 0) rfl
        clear c1 c1d c15 c16 hB5 hB6 hT6 hO6 hL6 hB6' HF HBD HB3 HT3 HO3 HB4 HT4 HO4 HL4
        have d1 := HO6.out.cell (i := 1) rfl
        have d2 := HO6.out.cell (i := 2) rfl
        have d3 := HO6.out.cell (i := 3) rfl
        have HLX := Lib.hid hx
        have CWx := fun w (hT : TMg tP w w2.heap.size xs) => worth_any w w2.heap.size xs (by decide) hT HR.out.sd HR.out.bnd
        rw [HZ0.out] at CWx
        have TOx := fun w (c : Nat) (hT : TMg tL w c xs) => total_any w c xs hT (inB_of HR.out.sd HR.out.bnd) (by omega)
        rw [HH.out.2.sum] at TOx
        have HCWx := Lib.hid CWx; have HTOx := Lib.hid TOx
        clear CWx TOx hx
        by_cases h0 : kd = 0
        · subst h0
          as_aux_lemma =>
            have CC := fun w (hT : TMg tP w w2.heap.size xs) => deposit_any w w2.heap.size xs who am (by decide) hT HR.out.sd (by omega) HR.out.bnd
            obtain ⟨E, hE⟩ : ∃ E, moveE (getV xs) (0, freeA who, am) = E := ⟨_, rfl⟩
            rw [hE] at CC
            by_cases hE0 : E = 0
            · subst hE0
              have hRy : Rel (moveL xs (0, freeA who, am)) (tryL ms (0, freeA who, am)) := HR.out.step _
              have hHy : HeldOk (moveL xs (0, freeA who, am)) := HH.out.move (fun w hw => free_ne w hw)
              have hly : (moveL xs (0, freeA who, am)).length ≤ xs.length + 16 := by have := moveL_len xs (0, freeA who, am); omega
              obtain ⟨g1, g2, g3, g4, g5⟩ := dep_ok hE
              obtain ⟨ys, hys⟩ : ∃ ys, moveL xs (0, freeA who, am) = ys := ⟨_, rfl⟩
              rw [hys] at hRy hHy hly CC g1 g2 g3
              have hsdy := hRy.sd
              have hrby := hRy.bnd
              have hWV : -(getV ys 0) = -z0 + am := by rw [g3]; rw [HZ0.out]; omega
              have CW := fun w (hT : TMg tP w w2.heap.size ys) => worth_any w w2.heap.size ys (by decide) hT hsdy hrby
              rw [hWV] at CW
              have TO := fun w (c : Nat) (hT : TMg tL w c ys) => total_any w c ys hT (inB_of hsdy hrby) (by omega)
              rw [hHy.2.sum] at TO
              have HCW := Lib.hid CW; have HTO := Lib.hid TO; have HRy := Lib.hid hRy; have HHy := Lib.hid hHy; have HLY := Lib.hid (show ys.length ≤ 16 * (k + 1) by have := HLX.out; omega); have HWV := Lib.hid hWV.symm; have HCC := Lib.hid CC
              rw [HFF.out] at g1
              rw [HHF.out] at g2
              have DH := fun w (hT : TMg tP w w2.heap.size ys) => has_any w w2.heap.size ys who (by decide) hT hsdy
              simp only [g1] at DH
              have HDH := Lib.hid DH
              have DE := fun w (hT : TMg tP w w2.heap.size ys) => held_any w w2.heap.size ys who (by decide) hT hsdy
              simp only [g2] at DE
              have HDE := Lib.hid DE
              have n1 : -9223372036854775808 ≤ -z0 + am := by omega
              have n2 : -z0 + am ≤ 9223372036854775807 := by omega
              have n3 : -9223372036854775808 ≤ f + am := by omega
              have n4 : f + am ≤ 9223372036854775807 := by omega
              have n5 : IntKind.i64.wrap (f + am) = f + am := by rw [IntKind.wrap_i64]; omega
              clear CW TO hRy hHy hly hWV CC DH DE hys hsdy hrby g1 g2 g3 hE
              go_wp2_with fail
              refine (HCC.out w6 HT6.out).mono ?_; rintro e w7 ⟨rfl, hT7, hg7⟩
              have hO7 := HO6.out.kept hg7 (by simp; omega)
              have HT7 := Lib.hid hT7
              have HL7 := Lib.hid (tm_other (by decide) HL6.out HT6.out hg7 (by omega))
              have HB7 := Lib.hid (HB6.out.grown hg7 HB6.out.size (fun r e => by cases e; exact hz2))
              have HO7 := Lib.hid hO7
              have e1 := hO7.cell (i := 1) rfl
              have e2 := hO7.cell (i := 2) rfl
              have e3 := hO7.cell (i := 3) rfl
              clear hO7 hg7 hT7
              clear d0 d1 d2 d3
              go_wp2_with fail
              have Fw : ∀ w, Below w7.heap.size w7 w → TMg tP w w2.heap.size ys ∧ (w.cell? ⟨z, 1, none⟩ = some (.int .i64 who) ∧ w.cell? ⟨z, 2, none⟩ = some (.int .i64 am)) ∧ TMg tL w cl xs ∧ Below W.heap.size W w := fun w hw => ⟨HT7.out.below hw, ⟨(HO7.out.belowS hw).cell (i := 1) rfl, (HO7.out.belowS hw).cell (i := 2) rfl⟩, HL7.out.below hw, HB7.out.trans (hw.mono HB7.out.size)⟩
              have hbd : Below w7.heap.size w7 w7.drew := (Below.refl _ w7).drew
              have S7 := (Fw _ (Below.refl _ w7)).2.1
              have S7d := (Fw _ hbd).2.1
              have HFw := Lib.hid Fw; have HBD := Lib.hid hbd
              clear Fw hbd e1 e2 e3
              go_region_held3 (fun w' => w'.cell? ⟨z, 1, none⟩ = some (.int .i64 who) ∧ w'.cell? ⟨z, 2, none⟩ = some (.int .i64 am)) (first | exact S7 | exact S7d | exact SR0 | exact SR1) ((first | (go_at_call 18; refine (HDE.out wr0 (HFw.out _ HBR0.out).1).mono ?_; rintro e wr1 ⟨rfl, hbr1⟩; have HBR1 := Lib.hid (HBR0.out.trans (hbr1.mono HBR0.out.size)); have SR1 := (HFw.out _ HBR1.out).2.1; clear hbr1) | (go_at_call 17; refine (HDH.out w7.drew (HFw.out _ HBD.out).1).mono ?_; rintro e wr0 ⟨rfl, hbr0⟩; have HBR0 := Lib.hid (HBD.out.trans (hbr0.mono HBD.out.size)); have SR0 := (HFw.out _ HBR0.out).2.1; clear hbr0)))
              have hft := HFw.out _ HBR1.out
              obtain ⟨hTt, -, hLt, hBt⟩ := hft
              have HTt := Lib.hid hTt; have HLt := Lib.hid hLt; have HBt := Lib.hid hBt
              obtain ⟨wt, hwt⟩ : ∃ wt, wr1 = wt := ⟨_, rfl⟩
              rw [hwt] at HTt HLt HBt ⊢
              clear hTt hLt hBt HFw S7 S7d hwt
              go_wp2_with fail
              refine (HCW.out wt HTt.out).mono ?_; rintro e wx ⟨rfl, rfl⟩
              go_wp2_with fail
              refine (ledger_any wt w2.heap.size ys HTt.out).mono ?_; rintro e wu ⟨c5, rfl, hc5, hL5, hbu⟩
              have HTO5 := Lib.hid (HTO.out wu c5 hL5)
              have HTu := Lib.hid (HTt.out.below hbu); have HBu := Lib.hid (HBt.out.trans (hbu.mono HBt.out.size))
              clear hL5 hbu
              go_wp2_with fail
              refine HTO5.out.mono ?_; rintro e wv ⟨rfl, hbv⟩
              have HTv := Lib.hid (HTu.out.below hbv); have HBv := Lib.hid (HBu.out.trans (hbv.mono HBu.out.size))
              clear hbv HTO5
              go_wp2_with fail
              go_roundw
              case rel => exact ⟨k + 1, _, _, by congr 1, by rw [HWV.out], by omega, HTv.out, HRy.out, HHy.out, by have := HLY.out; omega, HBv.out⟩
              case measure => simp; omega
            · have hE1 : (E == 0) = false := by simpa using hE0
              rw [moveL_no (by rw [hE]; exact hE0)] at CC
              have HCC := Lib.hid CC
              clear CC hE
              go_wp2_with fail
              refine (HCC.out w6 HT6.out).mono ?_; rintro e w7 ⟨rfl, hT7, hg7⟩
              have hO7 := HO6.out.kept hg7 (by simp; omega)
              have HT7 := Lib.hid hT7
              have HL7 := Lib.hid (tm_other (by decide) HL6.out HT6.out hg7 (by omega))
              have HB7 := Lib.hid (HB6.out.grown hg7 HB6.out.size (fun r e => by cases e; exact hz2))
              have HO7 := Lib.hid hO7
              have e1 := hO7.cell (i := 1) rfl
              have e2 := hO7.cell (i := 2) rfl
              have e3 := hO7.cell (i := 3) rfl
              clear hO7 hg7 hT7
              clear d0 d1 d2 d3
              obtain ⟨wt, hwt⟩ : ∃ wt, w7 = wt := ⟨_, rfl⟩
              have HTt : Hid (TMg tP wt w2.heap.size xs) := by rw [← hwt]; exact HT7
              have HLt : Hid (TMg tL wt cl xs) := by rw [← hwt]; exact HL7
              have HBt : Hid (Below W.heap.size W wt) := by rw [← hwt]; exact HB7
              rw [hwt]
              rw [hwt] at e1 e2 e3
              clear hwt HT7 HL7 HB7 HO7
              go_wp2_with fail
              refine (ledger_any wt w2.heap.size xs HTt.out).mono ?_; rintro e wu ⟨c5, rfl, hc5, hL5, hbu⟩
              have HSM := Lib.hid (lsame_refl wu c5 cl xs hL5 (HLt.out.below hbu) (by omega))
              have HTu := Lib.hid (HTt.out.below hbu); have HBu := Lib.hid (HBt.out.trans (hbu.mono HBt.out.size))
              clear hL5 hbu
              go_wp2_with fail
              refine HSM.out.mono ?_; rintro e wv ⟨rfl, hbv⟩
              have HTv := Lib.hid (HTu.out.below hbv); have HBv := Lib.hid (HBu.out.trans (hbv.mono HBu.out.size))
              clear hbv HSM
              go_wp2_with fail
              refine (HCWx.out wv HTv.out).mono ?_; rintro e wx ⟨rfl, rfl⟩
              go_wp2_with fail
              refine (ledger_any wv w2.heap.size xs HTv.out).mono ?_; rintro e wy ⟨c6, rfl, hc6, hL6, hby⟩
              have HTO5 := Lib.hid (HTOx.out wy c6 hL6)
              have HTy := Lib.hid (HTv.out.below hby); have HBy := Lib.hid (HBv.out.trans (hby.mono HBv.out.size))
              clear hL6 hby
              go_wp2_with fail
              refine HTO5.out.mono ?_; rintro e wq ⟨rfl, hbq⟩
              have HTq := Lib.hid (HTy.out.below hbq); have HBq := Lib.hid (HBy.out.trans (hbq.mono HBy.out.size))
              clear hbq HTO5
              go_wp2_with fail
              go_roundw
              case rel => exact ⟨k + 1, xs, ms, by congr 1, by rw [HZ0.out], by omega, HTq.out, HR.out, HH.out, by have := HLX.out; omega, HBq.out⟩
              case measure => simp; omega
        by_cases h1 : kd = 1
        · subst h1
          as_aux_lemma =>
            have CC := fun w (hT : TMg tP w w2.heap.size xs) => deposit_any w w2.heap.size xs who am (by decide) hT HR.out.sd (by omega) HR.out.bnd
            obtain ⟨E, hE⟩ : ∃ E, moveE (getV xs) (0, freeA who, am) = E := ⟨_, rfl⟩
            rw [hE] at CC
            by_cases hE0 : E = 0
            · subst hE0
              have hRy : Rel (moveL xs (0, freeA who, am)) (tryL ms (0, freeA who, am)) := HR.out.step _
              have hHy : HeldOk (moveL xs (0, freeA who, am)) := HH.out.move (fun w hw => free_ne w hw)
              have hly : (moveL xs (0, freeA who, am)).length ≤ xs.length + 16 := by have := moveL_len xs (0, freeA who, am); omega
              obtain ⟨g1, g2, g3, g4, g5⟩ := dep_ok hE
              obtain ⟨ys, hys⟩ : ∃ ys, moveL xs (0, freeA who, am) = ys := ⟨_, rfl⟩
              rw [hys] at hRy hHy hly CC g1 g2 g3
              have hsdy := hRy.sd
              have hrby := hRy.bnd
              have hWV : -(getV ys 0) = -z0 + am := by rw [g3]; rw [HZ0.out]; omega
              have CW := fun w (hT : TMg tP w w2.heap.size ys) => worth_any w w2.heap.size ys (by decide) hT hsdy hrby
              rw [hWV] at CW
              have TO := fun w (c : Nat) (hT : TMg tL w c ys) => total_any w c ys hT (inB_of hsdy hrby) (by omega)
              rw [hHy.2.sum] at TO
              have HCW := Lib.hid CW; have HTO := Lib.hid TO; have HRy := Lib.hid hRy; have HHy := Lib.hid hHy; have HLY := Lib.hid (show ys.length ≤ 16 * (k + 1) by have := HLX.out; omega); have HWV := Lib.hid hWV.symm; have HCC := Lib.hid CC
              rw [HFF.out] at g1
              rw [HHF.out] at g2
              have DH := fun w (hT : TMg tP w w2.heap.size ys) => has_any w w2.heap.size ys who (by decide) hT hsdy
              simp only [g1] at DH
              have HDH := Lib.hid DH
              have DE := fun w (hT : TMg tP w w2.heap.size ys) => held_any w w2.heap.size ys who (by decide) hT hsdy
              simp only [g2] at DE
              have HDE := Lib.hid DE
              have n1 : -9223372036854775808 ≤ -z0 + am := by omega
              have n2 : -z0 + am ≤ 9223372036854775807 := by omega
              have n3 : -9223372036854775808 ≤ f + am := by omega
              have n4 : f + am ≤ 9223372036854775807 := by omega
              have n5 : IntKind.i64.wrap (f + am) = f + am := by rw [IntKind.wrap_i64]; omega
              clear CW TO hRy hHy hly hWV CC DH DE hys hsdy hrby g1 g2 g3 hE
              go_wp2_with fail
              refine (HCC.out w6 HT6.out).mono ?_; rintro e w7 ⟨rfl, hT7, hg7⟩
              have hO7 := HO6.out.kept hg7 (by simp; omega)
              have HT7 := Lib.hid hT7
              have HL7 := Lib.hid (tm_other (by decide) HL6.out HT6.out hg7 (by omega))
              have HB7 := Lib.hid (HB6.out.grown hg7 HB6.out.size (fun r e => by cases e; exact hz2))
              have HO7 := Lib.hid hO7
              have e1 := hO7.cell (i := 1) rfl
              have e2 := hO7.cell (i := 2) rfl
              have e3 := hO7.cell (i := 3) rfl
              clear hO7 hg7 hT7
              clear d0 d1 d2 d3
              go_wp2_with fail
              have Fw : ∀ w, Below w7.heap.size w7 w → TMg tP w w2.heap.size ys ∧ (w.cell? ⟨z, 1, none⟩ = some (.int .i64 who) ∧ w.cell? ⟨z, 2, none⟩ = some (.int .i64 am)) ∧ TMg tL w cl xs ∧ Below W.heap.size W w := fun w hw => ⟨HT7.out.below hw, ⟨(HO7.out.belowS hw).cell (i := 1) rfl, (HO7.out.belowS hw).cell (i := 2) rfl⟩, HL7.out.below hw, HB7.out.trans (hw.mono HB7.out.size)⟩
              have hbd : Below w7.heap.size w7 w7.drew := (Below.refl _ w7).drew
              have S7 := (Fw _ (Below.refl _ w7)).2.1
              have S7d := (Fw _ hbd).2.1
              have HFw := Lib.hid Fw; have HBD := Lib.hid hbd
              clear Fw hbd e1 e2 e3
              go_region_held3 (fun w' => w'.cell? ⟨z, 1, none⟩ = some (.int .i64 who) ∧ w'.cell? ⟨z, 2, none⟩ = some (.int .i64 am)) (first | exact S7 | exact S7d | exact SR0 | exact SR1) ((first | (go_at_call 18; refine (HDE.out wr0 (HFw.out _ HBR0.out).1).mono ?_; rintro e wr1 ⟨rfl, hbr1⟩; have HBR1 := Lib.hid (HBR0.out.trans (hbr1.mono HBR0.out.size)); have SR1 := (HFw.out _ HBR1.out).2.1; clear hbr1) | (go_at_call 17; refine (HDH.out w7.drew (HFw.out _ HBD.out).1).mono ?_; rintro e wr0 ⟨rfl, hbr0⟩; have HBR0 := Lib.hid (HBD.out.trans (hbr0.mono HBD.out.size)); have SR0 := (HFw.out _ HBR0.out).2.1; clear hbr0)))
              have hft := HFw.out _ HBR1.out
              obtain ⟨hTt, -, hLt, hBt⟩ := hft
              have HTt := Lib.hid hTt; have HLt := Lib.hid hLt; have HBt := Lib.hid hBt
              obtain ⟨wt, hwt⟩ : ∃ wt, wr1 = wt := ⟨_, rfl⟩
              rw [hwt] at HTt HLt HBt ⊢
              clear hTt hLt hBt HFw S7 S7d hwt
              go_wp2_with fail
              refine (HCW.out wt HTt.out).mono ?_; rintro e wx ⟨rfl, rfl⟩
              go_wp2_with fail
              refine (ledger_any wt w2.heap.size ys HTt.out).mono ?_; rintro e wu ⟨c5, rfl, hc5, hL5, hbu⟩
              have HTO5 := Lib.hid (HTO.out wu c5 hL5)
              have HTu := Lib.hid (HTt.out.below hbu); have HBu := Lib.hid (HBt.out.trans (hbu.mono HBt.out.size))
              clear hL5 hbu
              go_wp2_with fail
              refine HTO5.out.mono ?_; rintro e wv ⟨rfl, hbv⟩
              have HTv := Lib.hid (HTu.out.below hbv); have HBv := Lib.hid (HBu.out.trans (hbv.mono HBu.out.size))
              clear hbv HTO5
              go_wp2_with fail
              go_roundw
              case rel => exact ⟨k + 1, _, _, by congr 1, by rw [HWV.out], by omega, HTv.out, HRy.out, HHy.out, by have := HLY.out; omega, HBv.out⟩
              case measure => simp; omega
            · have hE1 : (E == 0) = false := by simpa using hE0
              rw [moveL_no (by rw [hE]; exact hE0)] at CC
              have HCC := Lib.hid CC
              clear CC hE
              go_wp2_with fail
              refine (HCC.out w6 HT6.out).mono ?_; rintro e w7 ⟨rfl, hT7, hg7⟩
              have hO7 := HO6.out.kept hg7 (by simp; omega)
              have HT7 := Lib.hid hT7
              have HL7 := Lib.hid (tm_other (by decide) HL6.out HT6.out hg7 (by omega))
              have HB7 := Lib.hid (HB6.out.grown hg7 HB6.out.size (fun r e => by cases e; exact hz2))
              have HO7 := Lib.hid hO7
              have e1 := hO7.cell (i := 1) rfl
              have e2 := hO7.cell (i := 2) rfl
              have e3 := hO7.cell (i := 3) rfl
              clear hO7 hg7 hT7
              clear d0 d1 d2 d3
              obtain ⟨wt, hwt⟩ : ∃ wt, w7 = wt := ⟨_, rfl⟩
              have HTt : Hid (TMg tP wt w2.heap.size xs) := by rw [← hwt]; exact HT7
              have HLt : Hid (TMg tL wt cl xs) := by rw [← hwt]; exact HL7
              have HBt : Hid (Below W.heap.size W wt) := by rw [← hwt]; exact HB7
              rw [hwt]
              rw [hwt] at e1 e2 e3
              clear hwt HT7 HL7 HB7 HO7
              go_wp2_with fail
              refine (ledger_any wt w2.heap.size xs HTt.out).mono ?_; rintro e wu ⟨c5, rfl, hc5, hL5, hbu⟩
              have HSM := Lib.hid (lsame_refl wu c5 cl xs hL5 (HLt.out.below hbu) (by omega))
              have HTu := Lib.hid (HTt.out.below hbu); have HBu := Lib.hid (HBt.out.trans (hbu.mono HBt.out.size))
              clear hL5 hbu
              go_wp2_with fail
              refine HSM.out.mono ?_; rintro e wv ⟨rfl, hbv⟩
              have HTv := Lib.hid (HTu.out.below hbv); have HBv := Lib.hid (HBu.out.trans (hbv.mono HBu.out.size))
              clear hbv HSM
              go_wp2_with fail
              refine (HCWx.out wv HTv.out).mono ?_; rintro e wx ⟨rfl, rfl⟩
              go_wp2_with fail
              refine (ledger_any wv w2.heap.size xs HTv.out).mono ?_; rintro e wy ⟨c6, rfl, hc6, hL6, hby⟩
              have HTO5 := Lib.hid (HTOx.out wy c6 hL6)
              have HTy := Lib.hid (HTv.out.below hby); have HBy := Lib.hid (HBv.out.trans (hby.mono HBv.out.size))
              clear hL6 hby
              go_wp2_with fail
              refine HTO5.out.mono ?_; rintro e wq ⟨rfl, hbq⟩
              have HTq := Lib.hid (HTy.out.below hbq); have HBq := Lib.hid (HBy.out.trans (hbq.mono HBy.out.size))
              clear hbq HTO5
              go_wp2_with fail
              go_roundw
              case rel => exact ⟨k + 1, xs, ms, by congr 1, by rw [HZ0.out], by omega, HTq.out, HR.out, HH.out, by have := HLX.out; omega, HBq.out⟩
              case measure => simp; omega
        by_cases h2 : kd = 2
        · subst h2
          as_aux_lemma =>
            have CC := fun w (hT : TMg tP w w2.heap.size xs) => withdraw_any w w2.heap.size xs who am (by decide) hT HR.out.sd (by omega) HR.out.bnd
            obtain ⟨E, hE⟩ : ∃ E, moveE (getV xs) (freeA who, 0, am) = E := ⟨_, rfl⟩
            rw [hE] at CC
            by_cases hE0 : E = 0
            · subst hE0
              have hRy : Rel (moveL xs (freeA who, 0, am)) (tryL ms (freeA who, 0, am)) := HR.out.step _
              have hHy : HeldOk (moveL xs (freeA who, 0, am)) := HH.out.move (fun w hw => by have := party_bnd hw; dsimp only; omega)
              have hly : (moveL xs (freeA who, 0, am)).length ≤ xs.length + 16 := by have := moveL_len xs (freeA who, 0, am); omega
              obtain ⟨g1, g2, g3, g4, g5⟩ := wit_ok hE
              obtain ⟨ys, hys⟩ : ∃ ys, moveL xs (freeA who, 0, am) = ys := ⟨_, rfl⟩
              rw [hys] at hRy hHy hly CC g1 g2 g3
              have hsdy := hRy.sd
              have hrby := hRy.bnd
              have hWV : -(getV ys 0) = -z0 - am := by rw [g3]; rw [HZ0.out]; omega
              have CW := fun w (hT : TMg tP w w2.heap.size ys) => worth_any w w2.heap.size ys (by decide) hT hsdy hrby
              rw [hWV] at CW
              have TO := fun w (c : Nat) (hT : TMg tL w c ys) => total_any w c ys hT (inB_of hsdy hrby) (by omega)
              rw [hHy.2.sum] at TO
              have HCW := Lib.hid CW; have HTO := Lib.hid TO; have HRy := Lib.hid hRy; have HHy := Lib.hid hHy; have HLY := Lib.hid (show ys.length ≤ 16 * (k + 1) by have := HLX.out; omega); have HWV := Lib.hid hWV.symm; have HCC := Lib.hid CC
              rw [HFF.out] at g1
              rw [HHF.out] at g2
              have DH := fun w (hT : TMg tP w w2.heap.size ys) => has_any w w2.heap.size ys who (by decide) hT hsdy
              simp only [g1] at DH
              have HDH := Lib.hid DH
              have DE := fun w (hT : TMg tP w w2.heap.size ys) => held_any w w2.heap.size ys who (by decide) hT hsdy
              simp only [g2] at DE
              have HDE := Lib.hid DE
              have n1 : -9223372036854775808 ≤ -z0 - am := by omega
              have n2 : -z0 - am ≤ 9223372036854775807 := by omega
              have n3 : -9223372036854775808 ≤ f - am := by omega
              have n4 : f - am ≤ 9223372036854775807 := by omega
              have n5 : IntKind.i64.wrap (f - am) = f - am := by rw [IntKind.wrap_i64]; omega
              clear CW TO hRy hHy hly hWV CC DH DE hys hsdy hrby g1 g2 g3 hE
              go_wp2_with fail
              refine (HCC.out w6 HT6.out).mono ?_; rintro e w7 ⟨rfl, hT7, hg7⟩
              have hO7 := HO6.out.kept hg7 (by simp; omega)
              have HT7 := Lib.hid hT7
              have HL7 := Lib.hid (tm_other (by decide) HL6.out HT6.out hg7 (by omega))
              have HB7 := Lib.hid (HB6.out.grown hg7 HB6.out.size (fun r e => by cases e; exact hz2))
              have HO7 := Lib.hid hO7
              have e1 := hO7.cell (i := 1) rfl
              have e2 := hO7.cell (i := 2) rfl
              have e3 := hO7.cell (i := 3) rfl
              clear hO7 hg7 hT7
              clear d0 d1 d2 d3
              go_wp2_with fail
              have Fw : ∀ w, Below w7.heap.size w7 w → TMg tP w w2.heap.size ys ∧ (w.cell? ⟨z, 1, none⟩ = some (.int .i64 who) ∧ w.cell? ⟨z, 2, none⟩ = some (.int .i64 am)) ∧ TMg tL w cl xs ∧ Below W.heap.size W w := fun w hw => ⟨HT7.out.below hw, ⟨(HO7.out.belowS hw).cell (i := 1) rfl, (HO7.out.belowS hw).cell (i := 2) rfl⟩, HL7.out.below hw, HB7.out.trans (hw.mono HB7.out.size)⟩
              have hbd : Below w7.heap.size w7 w7.drew := (Below.refl _ w7).drew
              have S7 := (Fw _ (Below.refl _ w7)).2.1
              have S7d := (Fw _ hbd).2.1
              have HFw := Lib.hid Fw; have HBD := Lib.hid hbd
              clear Fw hbd e1 e2 e3
              go_region_held3 (fun w' => w'.cell? ⟨z, 1, none⟩ = some (.int .i64 who) ∧ w'.cell? ⟨z, 2, none⟩ = some (.int .i64 am)) (first | exact S7 | exact S7d | exact SR0 | exact SR1) ((first | (go_at_call 18; refine (HDE.out wr0 (HFw.out _ HBR0.out).1).mono ?_; rintro e wr1 ⟨rfl, hbr1⟩; have HBR1 := Lib.hid (HBR0.out.trans (hbr1.mono HBR0.out.size)); have SR1 := (HFw.out _ HBR1.out).2.1; clear hbr1) | (go_at_call 17; refine (HDH.out w7.drew (HFw.out _ HBD.out).1).mono ?_; rintro e wr0 ⟨rfl, hbr0⟩; have HBR0 := Lib.hid (HBD.out.trans (hbr0.mono HBD.out.size)); have SR0 := (HFw.out _ HBR0.out).2.1; clear hbr0)))
              have hft := HFw.out _ HBR1.out
              obtain ⟨hTt, -, hLt, hBt⟩ := hft
              have HTt := Lib.hid hTt; have HLt := Lib.hid hLt; have HBt := Lib.hid hBt
              obtain ⟨wt, hwt⟩ : ∃ wt, wr1 = wt := ⟨_, rfl⟩
              rw [hwt] at HTt HLt HBt ⊢
              clear hTt hLt hBt HFw S7 S7d hwt
              go_wp2_with fail
              refine (HCW.out wt HTt.out).mono ?_; rintro e wx ⟨rfl, rfl⟩
              go_wp2_with fail
              refine (ledger_any wt w2.heap.size ys HTt.out).mono ?_; rintro e wu ⟨c5, rfl, hc5, hL5, hbu⟩
              have HTO5 := Lib.hid (HTO.out wu c5 hL5)
              have HTu := Lib.hid (HTt.out.below hbu); have HBu := Lib.hid (HBt.out.trans (hbu.mono HBt.out.size))
              clear hL5 hbu
              go_wp2_with fail
              refine HTO5.out.mono ?_; rintro e wv ⟨rfl, hbv⟩
              have HTv := Lib.hid (HTu.out.below hbv); have HBv := Lib.hid (HBu.out.trans (hbv.mono HBu.out.size))
              clear hbv HTO5
              go_wp2_with fail
              go_roundw
              case rel => exact ⟨k + 1, _, _, by congr 1, by rw [HWV.out], by omega, HTv.out, HRy.out, HHy.out, by have := HLY.out; omega, HBv.out⟩
              case measure => simp; omega
            · have hE1 : (E == 0) = false := by simpa using hE0
              rw [moveL_no (by rw [hE]; exact hE0)] at CC
              have HCC := Lib.hid CC
              clear CC hE
              go_wp2_with fail
              refine (HCC.out w6 HT6.out).mono ?_; rintro e w7 ⟨rfl, hT7, hg7⟩
              have hO7 := HO6.out.kept hg7 (by simp; omega)
              have HT7 := Lib.hid hT7
              have HL7 := Lib.hid (tm_other (by decide) HL6.out HT6.out hg7 (by omega))
              have HB7 := Lib.hid (HB6.out.grown hg7 HB6.out.size (fun r e => by cases e; exact hz2))
              have HO7 := Lib.hid hO7
              have e1 := hO7.cell (i := 1) rfl
              have e2 := hO7.cell (i := 2) rfl
              have e3 := hO7.cell (i := 3) rfl
              clear hO7 hg7 hT7
              clear d0 d1 d2 d3
              obtain ⟨wt, hwt⟩ : ∃ wt, w7 = wt := ⟨_, rfl⟩
              have HTt : Hid (TMg tP wt w2.heap.size xs) := by rw [← hwt]; exact HT7
              have HLt : Hid (TMg tL wt cl xs) := by rw [← hwt]; exact HL7
              have HBt : Hid (Below W.heap.size W wt) := by rw [← hwt]; exact HB7
              rw [hwt]
              rw [hwt] at e1 e2 e3
              clear hwt HT7 HL7 HB7 HO7
              go_wp2_with fail
              refine (ledger_any wt w2.heap.size xs HTt.out).mono ?_; rintro e wu ⟨c5, rfl, hc5, hL5, hbu⟩
              have HSM := Lib.hid (lsame_refl wu c5 cl xs hL5 (HLt.out.below hbu) (by omega))
              have HTu := Lib.hid (HTt.out.below hbu); have HBu := Lib.hid (HBt.out.trans (hbu.mono HBt.out.size))
              clear hL5 hbu
              go_wp2_with fail
              refine HSM.out.mono ?_; rintro e wv ⟨rfl, hbv⟩
              have HTv := Lib.hid (HTu.out.below hbv); have HBv := Lib.hid (HBu.out.trans (hbv.mono HBu.out.size))
              clear hbv HSM
              go_wp2_with fail
              refine (HCWx.out wv HTv.out).mono ?_; rintro e wx ⟨rfl, rfl⟩
              go_wp2_with fail
              refine (ledger_any wv w2.heap.size xs HTv.out).mono ?_; rintro e wy ⟨c6, rfl, hc6, hL6, hby⟩
              have HTO5 := Lib.hid (HTOx.out wy c6 hL6)
              have HTy := Lib.hid (HTv.out.below hby); have HBy := Lib.hid (HBv.out.trans (hby.mono HBv.out.size))
              clear hL6 hby
              go_wp2_with fail
              refine HTO5.out.mono ?_; rintro e wq ⟨rfl, hbq⟩
              have HTq := Lib.hid (HTy.out.below hbq); have HBq := Lib.hid (HBy.out.trans (hbq.mono HBy.out.size))
              clear hbq HTO5
              go_wp2_with fail
              go_roundw
              case rel => exact ⟨k + 1, xs, ms, by congr 1, by rw [HZ0.out], by omega, HTq.out, HR.out, HH.out, by have := HLX.out; omega, HBq.out⟩
              case measure => simp; omega
        by_cases h3 : kd = 3
        · subst h3
          as_aux_lemma =>
            have CC := fun w (hT : TMg tP w w2.heap.size xs) => hset_any w w2.heap.size xs who am (by decide) hT HR.out.sd (by omega) HR.out.bnd
            obtain ⟨E, hE⟩ : ∃ E, setE xs who am = E := ⟨_, rfl⟩
            rw [hE] at CC
            by_cases hE0 : E = 0
            · subst hE0
              have hRy : Rel (setB xs who am) (rsetL ms who am) := (HR.out.set _ _).2
              have hHy : HeldOk (setB xs who am) := HH.out.set _ _
              have hly : (setB xs who am).length ≤ xs.length + 16 := by have := setB_len xs who am; omega
              obtain ⟨g1, g2, g3, g4, g5⟩ := setF_ok HR.out HH.out hE
              obtain ⟨ys, hys⟩ : ∃ ys, setB xs who am = ys := ⟨_, rfl⟩
              rw [hys] at hRy hHy hly CC g1 g2 g3
              have hsdy := hRy.sd
              have hrby := hRy.bnd
              have hWV : -(getV ys 0) = -z0 := by rw [g3]; exact congrArg _ HZ0.out
              have CW := fun w (hT : TMg tP w w2.heap.size ys) => worth_any w w2.heap.size ys (by decide) hT hsdy hrby
              rw [hWV] at CW
              have TO := fun w (c : Nat) (hT : TMg tL w c ys) => total_any w c ys hT (inB_of hsdy hrby) (by omega)
              rw [hHy.2.sum] at TO
              have HCW := Lib.hid CW; have HTO := Lib.hid TO; have HRy := Lib.hid hRy; have HHy := Lib.hid hHy; have HLY := Lib.hid (show ys.length ≤ 16 * (k + 1) by have := HLX.out; omega); have HWV := Lib.hid hWV.symm; have HCC := Lib.hid CC
              rw [HFF.out, HHF.out] at g2
              have DE := fun w (hT : TMg tP w w2.heap.size ys) => held_any w w2.heap.size ys who (by decide) hT hsdy
              simp only [g1] at DE
              have HDE := Lib.hid DE
              have DH := fun w (hT : TMg tP w w2.heap.size ys) => has_any w w2.heap.size ys who (by decide) hT hsdy
              simp only [g2] at DH
              have HDH := Lib.hid DH
              have n3 : -9223372036854775808 ≤ f + h := by omega
              have n4 : f + h ≤ 9223372036854775807 := by omega
              have n5 : IntKind.i64.wrap (f + h) = f + h := by rw [IntKind.wrap_i64]; omega
              have n6 : IntKind.i64.wrap (f + h - am) = f + h - am := by rw [IntKind.wrap_i64]; omega
              clear CW TO hRy hHy hly hWV CC DH DE hys hsdy hrby g1 g2 g3 hE
              go_wp2_with fail
              refine (HCC.out w6 HT6.out).mono ?_; rintro e w7 ⟨rfl, hT7, hg7⟩
              have hO7 := HO6.out.kept hg7 (by simp; omega)
              have HT7 := Lib.hid hT7
              have HL7 := Lib.hid (tm_other (by decide) HL6.out HT6.out hg7 (by omega))
              have HB7 := Lib.hid (HB6.out.grown hg7 HB6.out.size (fun r e => by cases e; exact hz2))
              have HO7 := Lib.hid hO7
              have e1 := hO7.cell (i := 1) rfl
              have e2 := hO7.cell (i := 2) rfl
              have e3 := hO7.cell (i := 3) rfl
              clear hO7 hg7 hT7
              clear d0 d1 d2 d3
              go_wp2_with fail
              have Fw : ∀ w, Below w7.heap.size w7 w → TMg tP w w2.heap.size ys ∧ (w.cell? ⟨z, 1, none⟩ = some (.int .i64 who) ∧ w.cell? ⟨z, 2, none⟩ = some (.int .i64 am)) ∧ TMg tL w cl xs ∧ Below W.heap.size W w := fun w hw => ⟨HT7.out.below hw, ⟨(HO7.out.belowS hw).cell (i := 1) rfl, (HO7.out.belowS hw).cell (i := 2) rfl⟩, HL7.out.below hw, HB7.out.trans (hw.mono HB7.out.size)⟩
              have hbd : Below w7.heap.size w7 w7.drew := (Below.refl _ w7).drew
              have S7 := (Fw _ (Below.refl _ w7)).2.1
              have S7d := (Fw _ hbd).2.1
              have HFw := Lib.hid Fw; have HBD := Lib.hid hbd
              clear Fw hbd e1 e2 e3
              go_region_held3 (fun w' => w'.cell? ⟨z, 1, none⟩ = some (.int .i64 who) ∧ w'.cell? ⟨z, 2, none⟩ = some (.int .i64 am)) (first | exact S7 | exact S7d | exact SR0 | exact SR1) ((first | (go_at_call 17; refine (HDH.out wr0 (HFw.out _ HBR0.out).1).mono ?_; rintro e wr1 ⟨rfl, hbr1⟩; have HBR1 := Lib.hid (HBR0.out.trans (hbr1.mono HBR0.out.size)); have SR1 := (HFw.out _ HBR1.out).2.1; clear hbr1) | (go_at_call 18; refine (HDE.out w7.drew (HFw.out _ HBD.out).1).mono ?_; rintro e wr0 ⟨rfl, hbr0⟩; have HBR0 := Lib.hid (HBD.out.trans (hbr0.mono HBD.out.size)); have SR0 := (HFw.out _ HBR0.out).2.1; clear hbr0)))
              have hft := HFw.out _ HBR1.out
              obtain ⟨hTt, -, hLt, hBt⟩ := hft
              have HTt := Lib.hid hTt; have HLt := Lib.hid hLt; have HBt := Lib.hid hBt
              obtain ⟨wt, hwt⟩ : ∃ wt, wr1 = wt := ⟨_, rfl⟩
              rw [hwt] at HTt HLt HBt ⊢
              clear hTt hLt hBt HFw S7 S7d hwt
              go_wp2_with fail
              refine (HCW.out wt HTt.out).mono ?_; rintro e wx ⟨rfl, rfl⟩
              go_wp2_with fail
              refine (ledger_any wt w2.heap.size ys HTt.out).mono ?_; rintro e wu ⟨c5, rfl, hc5, hL5, hbu⟩
              have HTO5 := Lib.hid (HTO.out wu c5 hL5)
              have HTu := Lib.hid (HTt.out.below hbu); have HBu := Lib.hid (HBt.out.trans (hbu.mono HBt.out.size))
              clear hL5 hbu
              go_wp2_with fail
              refine HTO5.out.mono ?_; rintro e wv ⟨rfl, hbv⟩
              have HTv := Lib.hid (HTu.out.below hbv); have HBv := Lib.hid (HBu.out.trans (hbv.mono HBu.out.size))
              clear hbv HTO5
              go_wp2_with fail
              go_roundw
              case rel => exact ⟨k + 1, _, _, by congr 1, by rw [HWV.out], by omega, HTv.out, HRy.out, HHy.out, by have := HLY.out; omega, HBv.out⟩
              case measure => simp; omega
            · have hE1 : (E == 0) = false := by simpa using hE0
              rw [setF_no (by rw [hE]; exact hE0)] at CC
              have HCC := Lib.hid CC
              clear CC hE
              go_wp2_with fail
              refine (HCC.out w6 HT6.out).mono ?_; rintro e w7 ⟨rfl, hT7, hg7⟩
              have hO7 := HO6.out.kept hg7 (by simp; omega)
              have HT7 := Lib.hid hT7
              have HL7 := Lib.hid (tm_other (by decide) HL6.out HT6.out hg7 (by omega))
              have HB7 := Lib.hid (HB6.out.grown hg7 HB6.out.size (fun r e => by cases e; exact hz2))
              have HO7 := Lib.hid hO7
              have e1 := hO7.cell (i := 1) rfl
              have e2 := hO7.cell (i := 2) rfl
              have e3 := hO7.cell (i := 3) rfl
              clear hO7 hg7 hT7
              clear d0 d1 d2 d3
              obtain ⟨wt, hwt⟩ : ∃ wt, w7 = wt := ⟨_, rfl⟩
              have HTt : Hid (TMg tP wt w2.heap.size xs) := by rw [← hwt]; exact HT7
              have HLt : Hid (TMg tL wt cl xs) := by rw [← hwt]; exact HL7
              have HBt : Hid (Below W.heap.size W wt) := by rw [← hwt]; exact HB7
              rw [hwt]
              rw [hwt] at e1 e2 e3
              clear hwt HT7 HL7 HB7 HO7
              go_wp2_with fail
              go_quiet (fail)
              replace HTt := Lib.hid (HTt.out.below (bel_drewN (Below.refl _ wt) nq)); replace HLt := Lib.hid (HLt.out.below (bel_drewN (Below.refl _ wt) nq)); replace HBt := Lib.hid (bel_drewN HBt.out nq)
              go_wp2_with fail
              refine (ledger_any (wt.drewN nq) w2.heap.size xs HTt.out).mono ?_; rintro e wu ⟨c5, rfl, hc5, hL5, hbu⟩
              have HSM := Lib.hid (lsame_refl wu c5 cl xs hL5 (HLt.out.below hbu) (by omega))
              have HTu := Lib.hid (HTt.out.below hbu); have HBu := Lib.hid (HBt.out.trans (hbu.mono HBt.out.size))
              clear hL5 hbu
              go_wp2_with fail
              refine HSM.out.mono ?_; rintro e wv ⟨rfl, hbv⟩
              have HTv := Lib.hid (HTu.out.below hbv); have HBv := Lib.hid (HBu.out.trans (hbv.mono HBu.out.size))
              clear hbv HSM
              go_wp2_with fail
              refine (HCWx.out wv HTv.out).mono ?_; rintro e wx ⟨rfl, rfl⟩
              go_wp2_with fail
              refine (ledger_any wv w2.heap.size xs HTv.out).mono ?_; rintro e wy ⟨c6, rfl, hc6, hL6, hby⟩
              have HTO5 := Lib.hid (HTOx.out wy c6 hL6)
              have HTy := Lib.hid (HTv.out.below hby); have HBy := Lib.hid (HBv.out.trans (hby.mono HBv.out.size))
              clear hL6 hby
              go_wp2_with fail
              refine HTO5.out.mono ?_; rintro e wq ⟨rfl, hbq⟩
              have HTq := Lib.hid (HTy.out.below hbq); have HBq := Lib.hid (HBy.out.trans (hbq.mono HBy.out.size))
              clear hbq HTO5
              go_wp2_with fail
              go_roundw
              case rel => exact ⟨k + 1, xs, ms, by congr 1, by rw [HZ0.out], by omega, HTq.out, HR.out, HH.out, by have := HLX.out; omega, HBq.out⟩
              case measure => simp; omega
        by_cases h4 : kd = 4
        · subst h4
          as_aux_lemma =>
            have CC := fun w (hT : TMg tP w w2.heap.size xs) => pay_any w w2.heap.size xs who am (by decide) hT HR.out.sd (by omega) HR.out.bnd
            obtain ⟨E, hE⟩ : ∃ E, moveE (getV xs) (holdA who, 1, am) = E := ⟨_, rfl⟩
            rw [hE] at CC
            by_cases hE0 : E = 0
            · subst hE0
              have hRy : Rel (moveL xs (holdA who, 1, am)) (tryL ms (holdA who, 1, am)) := HR.out.step _
              have hHy : HeldOk (moveL xs (holdA who, 1, am)) := HH.out.move (fun w hw => by have := party_bnd hw; dsimp only; omega)
              have hly : (moveL xs (holdA who, 1, am)).length ≤ xs.length + 16 := by have := moveL_len xs (holdA who, 1, am); omega
              obtain ⟨g1, g2, g6, g3, g4, g5⟩ := pay_ok hE
              obtain ⟨ys, hys⟩ : ∃ ys, moveL xs (holdA who, 1, am) = ys := ⟨_, rfl⟩
              rw [hys] at hRy hHy hly CC g1 g2 g6 g3
              have hsdy := hRy.sd
              have hrby := hRy.bnd
              have hWV : -(getV ys 0) = -z0 := by rw [g3]; exact congrArg _ HZ0.out
              have CW := fun w (hT : TMg tP w w2.heap.size ys) => worth_any w w2.heap.size ys (by decide) hT hsdy hrby
              rw [hWV] at CW
              have TO := fun w (c : Nat) (hT : TMg tL w c ys) => total_any w c ys hT (inB_of hsdy hrby) (by omega)
              rw [hHy.2.sum] at TO
              have HCW := Lib.hid CW; have HTO := Lib.hid TO; have HRy := Lib.hid hRy; have HHy := Lib.hid hHy; have HLY := Lib.hid (show ys.length ≤ 16 * (k + 1) by have := HLX.out; omega); have HWV := Lib.hid hWV.symm; have HCC := Lib.hid CC
              rw [HHF.out] at g1
              rw [HFF.out] at g2
              rw [HZ1.out] at g6
              have DE := fun w (hT : TMg tP w w2.heap.size ys) => held_any w w2.heap.size ys who (by decide) hT hsdy
              simp only [g1] at DE
              have HDE := Lib.hid DE
              have DH := fun w (hT : TMg tP w w2.heap.size ys) => has_any w w2.heap.size ys who (by decide) hT hsdy
              simp only [g2] at DH
              have HDH := Lib.hid DH
              have DS := fun w (hT : TMg tP w w2.heap.size ys) => sold_any w w2.heap.size ys (by decide) hT hsdy
              simp only [g6] at DS
              have HDS := Lib.hid DS
              have n5 : IntKind.i64.wrap (h - am) = h - am := by rw [IntKind.wrap_i64]; omega
              have n6 : IntKind.i64.wrap (z1 + am) = z1 + am := by rw [IntKind.wrap_i64]; omega
              clear CW TO hRy hHy hly hWV CC DH DE DS hys hsdy hrby g1 g2 g3 g6 hE
              go_wp2_with fail
              refine (HCC.out w6 HT6.out).mono ?_; rintro e w7 ⟨rfl, hT7, hg7⟩
              have hO7 := HO6.out.kept hg7 (by simp; omega)
              have HT7 := Lib.hid hT7
              have HL7 := Lib.hid (tm_other (by decide) HL6.out HT6.out hg7 (by omega))
              have HB7 := Lib.hid (HB6.out.grown hg7 HB6.out.size (fun r e => by cases e; exact hz2))
              have HO7 := Lib.hid hO7
              have e1 := hO7.cell (i := 1) rfl
              have e2 := hO7.cell (i := 2) rfl
              have e3 := hO7.cell (i := 3) rfl
              clear hO7 hg7 hT7
              clear d0 d1 d2 d3
              go_wp2_with fail
              have Fw : ∀ w, Below w7.heap.size w7 w → TMg tP w w2.heap.size ys ∧ (w.cell? ⟨z, 1, none⟩ = some (.int .i64 who) ∧ w.cell? ⟨z, 2, none⟩ = some (.int .i64 am)) ∧ TMg tL w cl xs ∧ Below W.heap.size W w := fun w hw => ⟨HT7.out.below hw, ⟨(HO7.out.belowS hw).cell (i := 1) rfl, (HO7.out.belowS hw).cell (i := 2) rfl⟩, HL7.out.below hw, HB7.out.trans (hw.mono HB7.out.size)⟩
              have hbd : Below w7.heap.size w7 w7.drew := (Below.refl _ w7).drew
              have S7 := (Fw _ (Below.refl _ w7)).2.1
              have S7d := (Fw _ hbd).2.1
              have HFw := Lib.hid Fw; have HBD := Lib.hid hbd
              clear Fw hbd e1 e2 e3
              go_region_held3 (fun w' => w'.cell? ⟨z, 1, none⟩ = some (.int .i64 who) ∧ w'.cell? ⟨z, 2, none⟩ = some (.int .i64 am)) (first | exact S7 | exact S7d | exact SR0 | exact SR1) ((first | (go_at_call 21; refine (HDS.out _ (HFw.out _ HBR1.out).1).mono ?_; rintro e wx2 ⟨rfl, rfl⟩) | (go_at_call 17; refine (HDH.out wr0 (HFw.out _ HBR0.out).1).mono ?_; rintro e wr1 ⟨rfl, hbr1⟩; have HBR1 := Lib.hid (HBR0.out.trans (hbr1.mono HBR0.out.size)); have SR1 := (HFw.out _ HBR1.out).2.1; clear hbr1) | (go_at_call 18; refine (HDE.out w7.drew (HFw.out _ HBD.out).1).mono ?_; rintro e wr0 ⟨rfl, hbr0⟩; have HBR0 := Lib.hid (HBD.out.trans (hbr0.mono HBD.out.size)); have SR0 := (HFw.out _ HBR0.out).2.1; clear hbr0)))
              have hft := HFw.out _ HBR1.out
              obtain ⟨hTt, -, hLt, hBt⟩ := hft
              have HTt := Lib.hid hTt; have HLt := Lib.hid hLt; have HBt := Lib.hid hBt
              obtain ⟨wt, hwt⟩ : ∃ wt, wr1 = wt := ⟨_, rfl⟩
              rw [hwt] at HTt HLt HBt ⊢
              clear hTt hLt hBt HFw S7 S7d hwt
              go_wp2_with fail
              refine (HCW.out wt HTt.out).mono ?_; rintro e wx ⟨rfl, rfl⟩
              go_wp2_with fail
              refine (ledger_any wt w2.heap.size ys HTt.out).mono ?_; rintro e wu ⟨c5, rfl, hc5, hL5, hbu⟩
              have HTO5 := Lib.hid (HTO.out wu c5 hL5)
              have HTu := Lib.hid (HTt.out.below hbu); have HBu := Lib.hid (HBt.out.trans (hbu.mono HBt.out.size))
              clear hL5 hbu
              go_wp2_with fail
              refine HTO5.out.mono ?_; rintro e wv ⟨rfl, hbv⟩
              have HTv := Lib.hid (HTu.out.below hbv); have HBv := Lib.hid (HBu.out.trans (hbv.mono HBu.out.size))
              clear hbv HTO5
              go_wp2_with fail
              go_roundw
              case rel => exact ⟨k + 1, _, _, by congr 1, by rw [HWV.out], by omega, HTv.out, HRy.out, HHy.out, by have := HLY.out; omega, HBv.out⟩
              case measure => simp; omega
            · have hE1 : (E == 0) = false := by simpa using hE0
              rw [moveL_no (by rw [hE]; exact hE0)] at CC
              have HCC := Lib.hid CC
              clear CC hE
              go_wp2_with fail
              refine (HCC.out w6 HT6.out).mono ?_; rintro e w7 ⟨rfl, hT7, hg7⟩
              have hO7 := HO6.out.kept hg7 (by simp; omega)
              have HT7 := Lib.hid hT7
              have HL7 := Lib.hid (tm_other (by decide) HL6.out HT6.out hg7 (by omega))
              have HB7 := Lib.hid (HB6.out.grown hg7 HB6.out.size (fun r e => by cases e; exact hz2))
              have HO7 := Lib.hid hO7
              have e1 := hO7.cell (i := 1) rfl
              have e2 := hO7.cell (i := 2) rfl
              have e3 := hO7.cell (i := 3) rfl
              clear hO7 hg7 hT7
              clear d0 d1 d2 d3
              obtain ⟨wt, hwt⟩ : ∃ wt, w7 = wt := ⟨_, rfl⟩
              have HTt : Hid (TMg tP wt w2.heap.size xs) := by rw [← hwt]; exact HT7
              have HLt : Hid (TMg tL wt cl xs) := by rw [← hwt]; exact HL7
              have HBt : Hid (Below W.heap.size W wt) := by rw [← hwt]; exact HB7
              rw [hwt]
              rw [hwt] at e1 e2 e3
              clear hwt HT7 HL7 HB7 HO7
              go_wp2_with fail
              go_quiet (fail)
              replace HTt := Lib.hid (HTt.out.below (bel_drewN (Below.refl _ wt) nq)); replace HLt := Lib.hid (HLt.out.below (bel_drewN (Below.refl _ wt) nq)); replace HBt := Lib.hid (bel_drewN HBt.out nq)
              go_wp2_with fail
              refine (ledger_any (wt.drewN nq) w2.heap.size xs HTt.out).mono ?_; rintro e wu ⟨c5, rfl, hc5, hL5, hbu⟩
              have HSM := Lib.hid (lsame_refl wu c5 cl xs hL5 (HLt.out.below hbu) (by omega))
              have HTu := Lib.hid (HTt.out.below hbu); have HBu := Lib.hid (HBt.out.trans (hbu.mono HBt.out.size))
              clear hL5 hbu
              go_wp2_with fail
              refine HSM.out.mono ?_; rintro e wv ⟨rfl, hbv⟩
              have HTv := Lib.hid (HTu.out.below hbv); have HBv := Lib.hid (HBu.out.trans (hbv.mono HBu.out.size))
              clear hbv HSM
              go_wp2_with fail
              refine (HCWx.out wv HTv.out).mono ?_; rintro e wx ⟨rfl, rfl⟩
              go_wp2_with fail
              refine (ledger_any wv w2.heap.size xs HTv.out).mono ?_; rintro e wy ⟨c6, rfl, hc6, hL6, hby⟩
              have HTO5 := Lib.hid (HTOx.out wy c6 hL6)
              have HTy := Lib.hid (HTv.out.below hby); have HBy := Lib.hid (HBv.out.trans (hby.mono HBv.out.size))
              clear hL6 hby
              go_wp2_with fail
              refine HTO5.out.mono ?_; rintro e wq ⟨rfl, hbq⟩
              have HTq := Lib.hid (HTy.out.below hbq); have HBq := Lib.hid (HBy.out.trans (hbq.mono HBy.out.size))
              clear hbq HTO5
              go_wp2_with fail
              go_roundw
              case rel => exact ⟨k + 1, xs, ms, by congr 1, by rw [HZ0.out], by omega, HTq.out, HR.out, HH.out, by have := HLX.out; omega, HBq.out⟩
              case measure => simp; omega
        by_cases h5 : kd = 5
        · subst h5
          as_aux_lemma =>
            have CC := fun w (hT : TMg tP w w2.heap.size xs) => refund_any w w2.heap.size xs who (by decide) hT HR.out.sd (by omega) HR.out.bnd
            obtain ⟨E, hE⟩ : ∃ E, moveE (getV xs) (refM xs who) = E := ⟨_, rfl⟩
            simp only [hE, HHF.out] at CC
            by_cases hE0 : E = 0
            · subst hE0
              simp only [if_true] at CC
              have hRy : Rel (moveL xs (refM xs who)) (tryL ms (refM xs who)) := HR.out.step _
              have hHy : HeldOk (moveL xs (refM xs who)) := HH.out.move (fun w hw => free_ne w hw)
              have hly : (moveL xs (refM xs who)).length ≤ xs.length + 16 := by have := moveL_len xs (refM xs who); omega
              obtain ⟨g1, g2, g3⟩ := ref_ok hE
              obtain ⟨ys, hys⟩ : ∃ ys, moveL xs (refM xs who) = ys := ⟨_, rfl⟩
              rw [hys] at hRy hHy hly CC g1 g2 g3
              have hsdy := hRy.sd
              have hrby := hRy.bnd
              have hWV : -(getV ys 0) = -z0 := by rw [g3]; exact congrArg _ HZ0.out
              have CW := fun w (hT : TMg tP w w2.heap.size ys) => worth_any w w2.heap.size ys (by decide) hT hsdy hrby
              rw [hWV] at CW
              have TO := fun w (c : Nat) (hT : TMg tL w c ys) => total_any w c ys hT (inB_of hsdy hrby) (by omega)
              rw [hHy.2.sum] at TO
              have HCW := Lib.hid CW; have HTO := Lib.hid TO; have HRy := Lib.hid hRy; have HHy := Lib.hid hHy; have HLY := Lib.hid (show ys.length ≤ 16 * (k + 1) by have := HLX.out; omega); have HWV := Lib.hid hWV.symm; have HCC := Lib.hid CC
              rw [HFF.out, HHF.out] at g2
              have DE := fun w (hT : TMg tP w w2.heap.size ys) => held_any w w2.heap.size ys who (by decide) hT hsdy
              simp only [g1] at DE
              have HDE := Lib.hid DE
              have DH := fun w (hT : TMg tP w w2.heap.size ys) => has_any w w2.heap.size ys who (by decide) hT hsdy
              simp only [g2] at DH
              have HDH := Lib.hid DH
              have n3 : -9223372036854775808 ≤ f + h := by omega
              have n4 : f + h ≤ 9223372036854775807 := by omega
              clear CW TO hRy hHy hly hWV CC DH DE hys hsdy hrby g1 g2 g3 hE
              go_wp2_with fail
              refine (HCC.out w6 HT6.out).mono ?_; rintro e w7 ⟨rfl, hT7, hg7⟩
              have hO7 := HO6.out.kept hg7 (by simp; omega)
              have HT7 := Lib.hid hT7
              have HL7 := Lib.hid (tm_other (by decide) HL6.out HT6.out hg7 (by omega))
              have HB7 := Lib.hid (HB6.out.grown hg7 HB6.out.size (fun r e => by cases e; exact hz2))
              have HO7 := Lib.hid hO7
              have e1 := hO7.cell (i := 1) rfl
              have e2 := hO7.cell (i := 2) rfl
              have e3 := hO7.cell (i := 3) rfl
              clear hO7 hg7 hT7
              clear d0 d1 d2 d3
              go_wp2_with fail
              refine (HDE.out w7 HT7.out).mono ?_; rintro e w8 ⟨rfl, hb8⟩
              have HT8 := Lib.hid (HT7.out.below hb8); have HL8 := Lib.hid (HL7.out.below hb8); have HB8 := Lib.hid (HB7.out.trans (hb8.mono HB7.out.size)); have HO8 := Lib.hid (HO7.out.belowS hb8)
              have e1' := HO8.out.cell (i := 1) rfl
              clear hb8 e1 e2 e3
              go_wp2_with fail
              refine (HDH.out w8 HT8.out).mono ?_; rintro e wt ⟨rfl, hbt⟩
              have HTt := Lib.hid (HT8.out.below hbt); have HLt := Lib.hid (HL8.out.below hbt); have HBt := Lib.hid (HB8.out.trans (hbt.mono HB8.out.size))
              clear hbt e1'
              go_wp2_with fail
              refine (HCW.out wt HTt.out).mono ?_; rintro e wx ⟨rfl, rfl⟩
              go_wp2_with fail
              refine (ledger_any wt w2.heap.size ys HTt.out).mono ?_; rintro e wu ⟨c5, rfl, hc5, hL5, hbu⟩
              have HTO5 := Lib.hid (HTO.out wu c5 hL5)
              have HTu := Lib.hid (HTt.out.below hbu); have HBu := Lib.hid (HBt.out.trans (hbu.mono HBt.out.size))
              clear hL5 hbu
              go_wp2_with fail
              refine HTO5.out.mono ?_; rintro e wv ⟨rfl, hbv⟩
              have HTv := Lib.hid (HTu.out.below hbv); have HBv := Lib.hid (HBu.out.trans (hbv.mono HBu.out.size))
              clear hbv HTO5
              go_wp2_with fail
              go_roundw
              case rel => exact ⟨k + 1, _, _, by congr 1, by rw [HWV.out], by omega, HTv.out, HRy.out, HHy.out, by have := HLY.out; omega, HBv.out⟩
              case measure => simp; omega
            · have hE1 : (E == 0) = false := by simpa using hE0
              rw [if_neg hE0, moveL_no (by rw [hE]; exact hE0)] at CC
              have HCC := Lib.hid CC
              clear CC hE
              go_wp2_with fail
              refine (HCC.out w6 HT6.out).mono ?_; rintro e w7 ⟨rfl, hT7, hg7⟩
              have hO7 := HO6.out.kept hg7 (by simp; omega)
              have HT7 := Lib.hid hT7
              have HL7 := Lib.hid (tm_other (by decide) HL6.out HT6.out hg7 (by omega))
              have HB7 := Lib.hid (HB6.out.grown hg7 HB6.out.size (fun r e => by cases e; exact hz2))
              have HO7 := Lib.hid hO7
              have e1 := hO7.cell (i := 1) rfl
              have e2 := hO7.cell (i := 2) rfl
              have e3 := hO7.cell (i := 3) rfl
              clear hO7 hg7 hT7
              clear d0 d1 d2 d3
              obtain ⟨wt, hwt⟩ : ∃ wt, w7 = wt := ⟨_, rfl⟩
              have HTt : Hid (TMg tP wt w2.heap.size xs) := by rw [← hwt]; exact HT7
              have HLt : Hid (TMg tL wt cl xs) := by rw [← hwt]; exact HL7
              have HBt : Hid (Below W.heap.size W wt) := by rw [← hwt]; exact HB7
              rw [hwt]
              rw [hwt] at e1 e2 e3
              clear hwt HT7 HL7 HB7 HO7
              go_wp2_with fail
              refine (ledger_any wt w2.heap.size xs HTt.out).mono ?_; rintro e wu ⟨c5, rfl, hc5, hL5, hbu⟩
              have HSM := Lib.hid (lsame_refl wu c5 cl xs hL5 (HLt.out.below hbu) (by omega))
              have HTu := Lib.hid (HTt.out.below hbu); have HBu := Lib.hid (HBt.out.trans (hbu.mono HBt.out.size))
              clear hL5 hbu
              go_wp2_with fail
              refine HSM.out.mono ?_; rintro e wv ⟨rfl, hbv⟩
              have HTv := Lib.hid (HTu.out.below hbv); have HBv := Lib.hid (HBu.out.trans (hbv.mono HBu.out.size))
              clear hbv HSM
              go_wp2_with fail
              refine (HCWx.out wv HTv.out).mono ?_; rintro e wx ⟨rfl, rfl⟩
              go_wp2_with fail
              refine (ledger_any wv w2.heap.size xs HTv.out).mono ?_; rintro e wy ⟨c6, rfl, hc6, hL6, hby⟩
              have HTO5 := Lib.hid (HTOx.out wy c6 hL6)
              have HTy := Lib.hid (HTv.out.below hby); have HBy := Lib.hid (HBv.out.trans (hby.mono HBv.out.size))
              clear hL6 hby
              go_wp2_with fail
              refine HTO5.out.mono ?_; rintro e wq ⟨rfl, hbq⟩
              have HTq := Lib.hid (HTy.out.below hbq); have HBq := Lib.hid (HBy.out.trans (hbq.mono HBy.out.size))
              clear hbq HTO5
              go_wp2_with fail
              go_roundw
              case rel => exact ⟨k + 1, xs, ms, by congr 1, by rw [HZ0.out], by omega, HTq.out, HR.out, HH.out, by have := HLX.out; omega, HBq.out⟩
              case measure => simp; omega
        by_cases h6 : kd = 6
        · subst h6
          as_aux_lemma =>
            have hRB6 := (HRB.out.below HB6.out).mono HB6.out.size
            have CC := settle_any w6 w2.heap.size xs A3 c3 bs (by decide) HT6.out HR.out.sd (by omega) (by omega) HR.out.bnd hRB6
            obtain ⟨E, hE⟩ : ∃ E, (movesL xs (bms bs)).1 = E := ⟨_, rfl⟩
            rw [hE] at CC
            by_cases hE0 : E = 0
            · subst hE0
              have hRy : Rel (allL xs (bms bs)) (allR ms (bms bs)) := HR.out.all _
              have hHy : HeldOk (allL xs (bms bs)) := HH.out.all _
              have hly : (allL xs (bms bs)).length ≤ xs.length + 16 := by have := allL_len xs (bms bs) ; have hbm : (bms bs).length = bs.length := (by unfold bms; simp); omega
              obtain ⟨g1, g3, g4⟩ := all_ok hE
              obtain ⟨ys, hys⟩ : ∃ ys, allL xs (bms bs) = ys := ⟨_, rfl⟩
              rw [hys] at hRy hHy hly CC g1 g3
              have hsdy := hRy.sd
              have hrby := hRy.bnd
              have hWV : -(getV ys 0) = -z0 := by rw [g3]; exact congrArg _ HZ0.out
              have CW := fun w (hT : TMg tP w w2.heap.size ys) => worth_any w w2.heap.size ys (by decide) hT hsdy hrby
              rw [hWV] at CW
              have TO := fun w (c : Nat) (hT : TMg tL w c ys) => total_any w c ys hT (inB_of hsdy hrby) (by omega)
              rw [hHy.2.sum] at TO
              have HCW := Lib.hid CW; have HTO := Lib.hid TO; have HRy := Lib.hid hRy; have HHy := Lib.hid hHy; have HLY := Lib.hid (show ys.length ≤ 16 * (k + 1) by have := HLX.out; omega); have HWV := Lib.hid hWV.symm; have HCC := Lib.hid CC
              rw [HZ1.out] at g1
              have DS := fun w (hT : TMg tP w w2.heap.size ys) => sold_any w w2.heap.size ys (by decide) hT hsdy
              simp only [g1] at DS
              have HDS := Lib.hid DS
              have sb := sumB_bnd g4
              have HSB := Lib.hid sb
              clear CW TO hRy hHy hly hWV CC DS hys hsdy hrby g1 g3 g4 hE sb hRB6
              go_wp2_with fail
              refine HCC.out.mono ?_; rintro e w7 ⟨rfl, hT7, hg7⟩
              have hO7 := HO6.out.kept hg7 (by simp; omega)
              have HT7 := Lib.hid hT7
              have HL7 := Lib.hid (tm_other (by decide) HL6.out HT6.out hg7 (by omega))
              have HB7 := Lib.hid (HB6.out.grown hg7 HB6.out.size (fun r e => by cases e; exact hz2))
              have HO7 := Lib.hid hO7
              have e1 := hO7.cell (i := 1) rfl
              have e2 := hO7.cell (i := 2) rfl
              have e3 := hO7.cell (i := 3) rfl
              clear hO7 hg7 hT7
              have HRB7 := Lib.hid ((HRB.out.below HB7.out).mono HB7.out.size)
              clear d0 d1 d2 d3
              go_wp2_with fail
              go_loopw [10, 221] (fun sv j wl => ∃ i : Nat, j = .int .i64 (i : Int) ∧ sv = .int .i64 (z1 + sumB (bs.take i)) ∧ i ≤ bs.length ∧ Below w7.heap.size w7 wl)
                (fun _ j _ => bs.length - (match j with | .int _ n => n.toNat | _ => 0))
              case atStart => exact ⟨0, rfl, by simp [sumB], Nat.zero_le _, Below.refl _ _⟩
              case round =>
                obtain ⟨i, rfl, rfl, hi, hBl⟩ := hrel
                have sb := HSB.out i hi
                by_cases hil : i < bs.length
                · obtain ⟨⟨bp, ba⟩, hgb⟩ : ∃ o, bs[i]? = some o := ⟨_, List.getElem?_eq_getElem hil⟩
                  obtain ⟨bb, boff, bc, eb, hlb, p0, p1⟩ := rd_bill (HRB7.out.below hBl) hgb
                  obtain ⟨rfl, rfl⟩ : A3 = some ⟨bb, boff, none⟩ ∧ c3 = bc := by injection eb with e1 e2 e3; exact ⟨e1, e3⟩
                  have hsn : sumB (bs.take (i + 1)) = sumB (bs.take i) + ba := by rw [List.take_succ_eq_append_getElem hil, sumB_snoc, (List.getElem?_eq_some_iff.1 hgb).2]
                  have sb2 := HSB.out (i + 1) hil
                  rw [hsn] at sb2
                  have HSN := Lib.hid hsn; have HBl := Lib.hid hBl
                  obtain ⟨sc, hsc⟩ : ∃ sc, sumB (bs.take i) = sc := ⟨_, rfl⟩
                  rw [hsc] at HSN sb sb2 ⊢
                  have u1 : -9223372036854775808 ≤ z1 + sc + ba := by omega
                  have u2 : z1 + sc + ba ≤ 9223372036854775807 := by omega
                  simp only at p0 p1
                  clear hsn eb hgb hBl hsc
                  go_wp2_with fail
                  go_roundw
                  case rel => exact ⟨i + 1, by congr 1, by rw [HSN.out]; congr 1; omega, by omega, HBl.out.alloc HBl.out.size _⟩
                  case measure => simp; omega
                · obtain rfl : i = bs.length := by omega
                  rw [List.take_length] at sb ⊢
                  obtain ⟨sc, hsc⟩ : ∃ sc, sumB bs = sc := ⟨_, rfl⟩
                  have DS' := HDS.out
                  simp only [hsc] at DS'
                  rw [hsc]
                  have HDS' := Lib.hid DS'
                  have HTt := Lib.hid (HT7.out.below hBl); have HLt := Lib.hid (HL7.out.below hBl); have HBt := Lib.hid (HB7.out.trans (hBl.mono HB7.out.size))
                  obtain ⟨wt, hwt⟩ : ∃ wt, wr = wt := ⟨_, rfl⟩
                  rw [hwt] at HTt HLt HBt ⊢
                  clear DS' hsc hBl hwt sb
                  go_wp2_with fail
                  refine (HDS'.out wt HTt.out).mono ?_; rintro e wx ⟨rfl, rfl⟩
                  go_wp2_with fail
                  refine (HCW.out wt HTt.out).mono ?_; rintro e wx ⟨rfl, rfl⟩
                  go_wp2_with fail
                  refine (ledger_any wt w2.heap.size ys HTt.out).mono ?_; rintro e wu ⟨c5, rfl, hc5, hL5, hbu⟩
                  have HTO5 := Lib.hid (HTO.out wu c5 hL5)
                  have HTu := Lib.hid (HTt.out.below hbu); have HBu := Lib.hid (HBt.out.trans (hbu.mono HBt.out.size))
                  clear hL5 hbu
                  go_wp2_with fail
                  refine HTO5.out.mono ?_; rintro e wv ⟨rfl, hbv⟩
                  have HTv := Lib.hid (HTu.out.below hbv); have HBv := Lib.hid (HBu.out.trans (hbv.mono HBu.out.size))
                  clear hbv HTO5
                  go_wp2_with fail
                  go_roundw
                  case rel => exact ⟨k + 1, _, _, by congr 1, by rw [HWV.out], by omega, HTv.out, HRy.out, HHy.out, by have := HLY.out; omega, HBv.out⟩
                  case measure => simp; omega
            · have hE1 : (E == 0) = false := by simpa using hE0
              rw [all_no (by rw [hE]; exact hE0)] at CC
              have HCC := Lib.hid CC
              clear CC hE hRB6
              go_wp2_with fail
              refine HCC.out.mono ?_; rintro e w7 ⟨rfl, hT7, hg7⟩
              have hO7 := HO6.out.kept hg7 (by simp; omega)
              have HT7 := Lib.hid hT7
              have HL7 := Lib.hid (tm_other (by decide) HL6.out HT6.out hg7 (by omega))
              have HB7 := Lib.hid (HB6.out.grown hg7 HB6.out.size (fun r e => by cases e; exact hz2))
              have HO7 := Lib.hid hO7
              have e1 := hO7.cell (i := 1) rfl
              have e2 := hO7.cell (i := 2) rfl
              have e3 := hO7.cell (i := 3) rfl
              clear hO7 hg7 hT7
              clear d0 d1 d2 d3
              obtain ⟨wt, hwt⟩ : ∃ wt, w7 = wt := ⟨_, rfl⟩
              have HTt : Hid (TMg tP wt w2.heap.size xs) := by rw [← hwt]; exact HT7
              have HLt : Hid (TMg tL wt cl xs) := by rw [← hwt]; exact HL7
              have HBt : Hid (Below W.heap.size W wt) := by rw [← hwt]; exact HB7
              rw [hwt]
              rw [hwt] at e1 e2 e3
              clear hwt HT7 HL7 HB7 HO7
              go_wp2_with fail
              refine (ledger_any wt w2.heap.size xs HTt.out).mono ?_; rintro e wu ⟨c5, rfl, hc5, hL5, hbu⟩
              have HSM := Lib.hid (lsame_refl wu c5 cl xs hL5 (HLt.out.below hbu) (by omega))
              have HTu := Lib.hid (HTt.out.below hbu); have HBu := Lib.hid (HBt.out.trans (hbu.mono HBt.out.size))
              clear hL5 hbu
              go_wp2_with fail
              refine HSM.out.mono ?_; rintro e wv ⟨rfl, hbv⟩
              have HTv := Lib.hid (HTu.out.below hbv); have HBv := Lib.hid (HBu.out.trans (hbv.mono HBu.out.size))
              clear hbv HSM
              go_wp2_with fail
              refine (HCWx.out wv HTv.out).mono ?_; rintro e wx ⟨rfl, rfl⟩
              go_wp2_with fail
              refine (ledger_any wv w2.heap.size xs HTv.out).mono ?_; rintro e wy ⟨c6, rfl, hc6, hL6, hby⟩
              have HTO5 := Lib.hid (HTOx.out wy c6 hL6)
              have HTy := Lib.hid (HTv.out.below hby); have HBy := Lib.hid (HBv.out.trans (hby.mono HBv.out.size))
              clear hL6 hby
              go_wp2_with fail
              refine HTO5.out.mono ?_; rintro e wq ⟨rfl, hbq⟩
              have HTq := Lib.hid (HTy.out.below hbq); have HBq := Lib.hid (HBy.out.trans (hbq.mono HBy.out.size))
              clear hbq HTO5
              go_wp2_with fail
              go_roundw
              case rel => exact ⟨k + 1, xs, ms, by congr 1, by rw [HZ0.out], by omega, HTq.out, HR.out, HH.out, by have := HLX.out; omega, HBq.out⟩
              case measure => simp; omega
        as_aux_lemma =>
          have HCW := HCWx; have HTO := HTOx; have HRy := HR; have HHy := HH; have HLY := Lib.hid (show xs.length ≤ 16 * (k + 1) by have := HLX.out; omega); have HWV := Lib.hid (show -z0 = -(getV xs 0) by rw [HZ0.out])
          obtain ⟨wt, hwt⟩ : ∃ wt, w6 = wt := ⟨_, rfl⟩
          have HTt : Hid (TMg tP wt w2.heap.size xs) := by rw [← hwt]; exact HT6
          have HLt : Hid (TMg tL wt cl xs) := by rw [← hwt]; exact HL6
          have HBt : Hid (Below W.heap.size W wt) := by rw [← hwt]; exact HB6
          rw [hwt]
          rw [hwt] at d0 d1 d2 d3
          clear hwt HT6 HL6 HB6 HO6
          go_wp2_with fail
          refine (HCW.out wt HTt.out).mono ?_; rintro e wx ⟨rfl, rfl⟩
          go_wp2_with fail
          refine (ledger_any wt w2.heap.size xs HTt.out).mono ?_; rintro e wu ⟨c5, rfl, hc5, hL5, hbu⟩
          have HTO5 := Lib.hid (HTO.out wu c5 hL5)
          have HTu := Lib.hid (HTt.out.below hbu); have HBu := Lib.hid (HBt.out.trans (hbu.mono HBt.out.size))
          clear hL5 hbu
          go_wp2_with fail
          refine HTO5.out.mono ?_; rintro e wv ⟨rfl, hbv⟩
          have HTv := Lib.hid (HTu.out.below hbv); have HBv := Lib.hid (HBu.out.trans (hbv.mono HBu.out.size))
          clear hbv HTO5
          go_wp2_with fail
          go_roundw
          case rel => exact ⟨k + 1, _, _, by congr 1, by rw [HWV.out], by omega, HTv.out, HRy.out, HHy.out, by have := HLY.out; omega, HBv.out⟩
          case measure => simp; omega
      · as_aux_lemma =>
          go_wp2_with fail
          refine (ledger_any wr w2.heap.size xs hT).mono ?_; rintro e w4 ⟨c4, rfl, hc4, hL4, hb4⟩
          have HT4 := Lib.hid (hT.below hb4); have HB4 := Lib.hid (hB.trans (hb4.mono hB.size)); have HL4 := Lib.hid hL4
          clear hb4 hL4 hT hB
          go_wp2_with fail
          refine (of_any w4 c4 xs HL4.out).mono ?_; rintro e w5 ⟨c5, rfl, hc5, hQ5, hb5⟩
          have HT5 := Lib.hid (HT4.out.below hb5); have HB5 := Lib.hid (HB4.out.trans (hb5.mono HB4.out.size)); have HQ5 := Lib.hid hQ5
          clear hb5 hQ5
          go_wp2_with fail
          refine (ledger_any w5 c5 xs HQ5.out).mono ?_; rintro e w6 ⟨c6, rfl, hc6, hL6, hb6⟩
          have HT6 := Lib.hid (HT5.out.below hb6); have HB6 := Lib.hid (HB5.out.trans (hb6.mono HB5.out.size)); have HL6 := Lib.hid hL6
          clear hb6 hL6
          go_wp2_with fail
          refine (ledger_any w6 w2.heap.size xs HT6.out).mono ?_; rintro e w7 ⟨c7, rfl, hc7, hL7, hb7⟩
          have HB7 := Lib.hid (HB6.out.trans (hb7.mono HB6.out.size)); have HSM := Lib.hid (lsame_refl w7 c6 c7 xs (HL6.out.below hb7) hL7 (by omega))
          clear hb7 hL7
          go_wp2_with fail
          refine HSM.out.mono ?_; rintro e w8 ⟨rfl, hb8⟩
          have HB8 := Lib.hid (HB7.out.trans (hb8.mono HB7.out.size))
          clear hb8
          go_wp2_with fail
          go_ret
          exact ⟨rfl, HB8.out⟩

end Go.Proofs.Ytmdacfgofilbdaa.Led
