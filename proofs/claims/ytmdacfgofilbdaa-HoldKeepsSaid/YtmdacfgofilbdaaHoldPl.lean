/- hold: the same purse, of some parties. -/
import Derived.Test.YtmdacfgofilbdaaHoldDo
import Derived.BigQuiet
import Derived.Test.YtmdacfgofilbdaaKd
set_option linter.unusedSimpArgs false
set_option linter.unusedVariables false
namespace Go.Proofs.Ytmdacfgofilbdaa.Led
open Go.RowKit Go.Proofs.Ytmdacfgofilbdaa.TabL Go.Proofs.YtmdacfgofilbdaaW.PrintWords Go.Proofs.Ytmdacfgofilbdaa.PHoldPlays
open Go.Proofs.Ytmdacfgofilbdaa.TabB (ltI lin getV TMg)
attribute [local go_sem] Oper.semAt_some

set_option maxHeartbeats 8000000 in
set_option maxRecDepth 100000 in
theorem same_any (W : World) (p : Nat) (xs : Bs) (ms : List Mv) (v : Value) (A : Option Addr) (c : Nat) (ps : List Int) {tt : TypeId} (htt : tt ≠ tN) (h : TMg tt W p xs) (hP : PM W v ms) (hR : Rel xs ms) (hlm : ms.length ≤ 100000) (hps : ps.length ≤ 1000) (hRp : Rd cI 1 W.heap.size W (.slice A ps.length c) ps) :
    Calls Try.prog 14 #[.pointer (some ⟨p, 0, none⟩), .agg #[v], .slice A ps.length c] W fun e w' => e = .returned (.bool true) ∧ Below W.heap.size W w' := by
  obtain ⟨Av, cv, rfl, hlv, -⟩ := id hP
  have hB0 : Below W.heap.size W (W.alloc (.cells #[.slice Av ms.length cv] 35)) := (Below.refl _ W).alloc (Nat.le_refl _) _
  have hBl := Blk.new W [.slice Av ms.length cv] 35
  have hb := hR.bnd
  have hs := hR.sd
  have hg := hR.good
  obtain ⟨bb, hbb⟩ : ∃ bb, bal ms = bb := ⟨_, rfl⟩
  have hfn : getV xs = bb := hR.fn.trans hbb
  have b0 := hb 0
  have CH := fun who w (hT : TMg tt w p xs) => has_any w p xs who htt hT hs
  have CE := fun who w (hT : TMg tt w p xs) => held_any w p xs who htt hT hs
  have CS := fun w (hT : TMg tt w p xs) => sold_any w p xs htt hT hs
  have CW := fun w (hT : TMg tt w p xs) => worth_any w p xs htt hT hs hb
  have RH := fun who w (hQ : PM w (.slice Av ms.length cv) ms) => rfree_any w (.slice Av ms.length cv) ms who hQ hg (by omega)
  have RE := fun who w (hQ : PM w (.slice Av ms.length cv) ms) => rheld_any w (.slice Av ms.length cv) ms who hQ hg (by omega)
  have RB := fun a w (hQ : PM w (.slice Av ms.length cv) ms) => rbal_any w (.slice Av ms.length cv) ms a hQ hg (by omega)
  rw [hfn] at b0
  simp only [hfn] at CH CE CS CW
  simp only [hbb] at RH RE RB
  have HCH := Lib.hid CH; have HCE := Lib.hid CE; have HCS := Lib.hid CS; have HCW := Lib.hid CW; have HRH := Lib.hid RH; have HRE := Lib.hid RE; have HRB := Lib.hid RB
  have HT := Lib.hid h; have HQ := Lib.hid hP; have HRP := Lib.hid hRp
  have hBl0 := Lib.hid hBl; have hB00 := Lib.hid hB0
  clear CH CE CS CW RH RE RB hfn hbb hb hs hg h hP hRp hR hBl hB0
  go_enter Try.func14, Try.ntmps14
  go_wp2_with fail
  go_loopw [11] (fun i wr => ∃ k : Nat, i = .int .i64 (k : Int) ∧ k ≤ ps.length ∧ Blk wr W.heap.size 35 [.slice Av ms.length cv] ∧ Below W.heap.size W wr)
    (fun i _ => ps.length - (match i with | .int _ n => n.toNat | _ => 0))
  case atStart => exact ⟨0, rfl, Nat.zero_le _, hBl0.out, hB00.out⟩
  case round =>
    obtain ⟨k, rfl, hk, hBl, hB⟩ := hrel
    have c4 := hBl.cell (i := 0) rfl
    have HBl := Lib.hid hBl; have HB := Lib.hid hB
    have hzw := hB.size
    have F : ∀ w, Below wr.heap.size wr w → TMg tt w p xs ∧ PM w (.slice Av ms.length cv) ms ∧ w.cell? ⟨W.heap.size, 0, none⟩ = some (.slice Av ms.length cv) := fun w hw => ⟨HT.out.below (HB.out.trans (hw.mono hzw)), HQ.out.below (HB.out.trans (hw.mono hzw)), (HBl.out.belowS hw).cell (i := 0) rfl⟩
    have T : ∀ (A B : World), Below wr.heap.size wr A → Below A.heap.size A B → Below wr.heap.size wr B := fun A B h1 h2 => h1.trans (h2.mono h1.size)
    have hbd : Below wr.heap.size wr wr.drew := (Below.refl _ wr).drew
    have HF := Lib.hid F; have HTT := Lib.hid T; have HBD := Lib.hid hbd
    have c40 := (F _ hbd).2.2
    clear F T hBl hB hbd
    by_cases hlt : k < ps.length
    · obtain ⟨who, hget⟩ : ∃ o, ps[k]? = some o := ⟨_, List.getElem?_eq_getElem hlt⟩
      obtain ⟨b, off, c1, e1, hlb, q0⟩ := rd_int (HRP.out.below HB.out) hget
      obtain ⟨rfl, rfl⟩ : A = some ⟨b, off, none⟩ ∧ c = c1 := by injection e1 with e1 e2 e3; exact ⟨e1, e3⟩
      clear hget e1
      go_wp2_with fail
      go_region_held3 (fun w' => w'.cell? ⟨W.heap.size, 0, none⟩ = some (.slice Av ms.length cv)) (first | exact c4 | exact c40 | exact c41 | exact c42 | exact c43 | exact c44) ((first
        | (go_at_call 61; refine (HRE.out who w3 (HF.out _ hB3.out).2.1).mono ?_; rintro e w4 ⟨rfl, hb4⟩; have hB4 := Lib.hid (HTT.out _ _ hB3.out hb4); have c44 := (HF.out _ hB4.out).2.2; clear hb4)
        | (go_at_call 18; refine (HCE.out who w2 (HF.out _ hB2.out).1).mono ?_; rintro e w3 ⟨rfl, hb3⟩; have hB3 := Lib.hid (HTT.out _ _ hB2.out hb3); have c43 := (HF.out _ hB3.out).2.2; clear hb3)
        | (go_at_call 60; refine (HRH.out who w1 (HF.out _ hB1.out).2.1).mono ?_; rintro e w2 ⟨rfl, hb2⟩; have hB2 := Lib.hid (HTT.out _ _ hB1.out hb2); have c42 := (HF.out _ hB2.out).2.2; clear hb2)
        | (go_at_call 17; refine (HCH.out who wr.drew (HF.out _ HBD.out).1).mono ?_; rintro e w1 ⟨rfl, hb1⟩; have hB1 := Lib.hid (HTT.out _ _ HBD.out hb1); have c41 := (HF.out _ hB1.out).2.2; clear hb1)))
      have HS2 := Lib.hid (And.intro (HBl.out.belowS hB4.out) (HB.out.trans (hB4.out.mono hzw)))
      clear c4 c40 c41 c42 c43 c44 hB1 hB2 hB3 hB4 q0
      go_wp2_with fail
      go_roundw
      case rel => exact ⟨k + 1, by congr 1, by omega, HS2.out.1, HS2.out.2⟩
      case measure => simp; omega
    · have b01 := b0.1
      have b02 := b0.2
      obtain ⟨z0, hz0⟩ : ∃ z0, bb 0 = z0 := ⟨_, rfl⟩
      obtain ⟨z1, hz1⟩ : ∃ z1, bb 1 = z1 := ⟨_, rfl⟩
      have RB0 := HRB.out 0
      have RB1 := HRB.out 1
      have CS1 := HCS.out
      have CW0 := HCW.out
      rw [hz0] at b01 b02 RB0
      rw [hz1] at RB1
      simp only [hz1] at CS1
      simp only [hz0] at CW0
      have n1 : -9223372036854775808 ≤ -z0 := by omega
      have n2 : -z0 ≤ 9223372036854775807 := by omega
      have en : IntKind.i64.wrap (-z0) = -z0 := by rw [IntKind.wrap_i64]; omega
      have HR0 := Lib.hid RB0; have HR1 := Lib.hid RB1; have HS1 := Lib.hid CS1; have HW0 := Lib.hid CW0
      clear b0 hz0 hz1 RB0 RB1 CS1 CW0 b01 b02
      go_wp2_with fail
      go_region_held3 (fun w' => w'.cell? ⟨W.heap.size, 0, none⟩ = some (.slice Av ms.length cv)) (first | exact c4 | exact c40 | exact c41 | exact c42) ((first
        | (go_at_call 38; refine (HR0.out w1 (HF.out _ hB1.out).2.1).mono ?_; rintro e w2 ⟨rfl, hb2⟩; have hB2 := Lib.hid (HTT.out _ _ hB1.out hb2); have c42 := (HF.out _ hB2.out).2.2; clear hb2)
        | (go_at_call 27; refine (HW0.out w1 (HF.out _ hB1.out).1).mono ?_; rintro e wx ⟨rfl, rfl⟩)
        | (go_at_call 38; refine (HR1.out wr.drew (HF.out _ HBD.out).2.1).mono ?_; rintro e w1 ⟨rfl, hb1⟩; have hB1 := Lib.hid (HTT.out _ _ HBD.out hb1); have c41 := (HF.out _ hB1.out).2.2; clear hb1)
        | (go_at_call 21; refine (HS1.out wr.drew (HF.out _ HBD.out).1).mono ?_; rintro e wx ⟨rfl, rfl⟩)))
      have HS2 := Lib.hid (HB.out.trans (hB2.out.mono hzw))
      clear c4 c40 c41 c42 hB1 hB2
      go_wp2_with fail
      go_ret
      exact ⟨rfl, HS2.out⟩

end Go.Proofs.Ytmdacfgofilbdaa.Led

/- hold: the document's example. -/
set_option linter.unusedSimpArgs false
set_option linter.unusedVariables false
namespace Go.Proofs.Ytmdacfgofilbdaa.Led
open Go.RowKit Go.Proofs.Ytmdacfgofilbdaa.TabL Go.Proofs.YtmdacfgofilbdaaW.PrintWords Go.Proofs.Ytmdacfgofilbdaa.PHoldPlays
open Go.Proofs.Ytmdacfgofilbdaa.TabB (ltI lin getV TMg)
attribute [local go_sem] Oper.semAt_some

abbrev x1 : Bs := [(0, -10), (4, 10)]
abbrev x2 : Bs := [(0, -10), (4, 4), (5, 6)]
abbrev x3 : Bs := [(0, -10), (1, 5), (4, 4), (5, 1)]
abbrev x4 : Bs := [(0, -10), (1, 5), (4, 5)]
theorem al_rel : ∃ m1 m2 m3 m4, Rel x1 m1 ∧ Rel x2 m2 ∧ Rel x3 m3 ∧ Rel x4 m4 := by
  have r1 := Rel.nil.step (0, freeA 2, 10)
  rw [show moveL [] (0, freeA 2, 10) = x1 from by decide +kernel] at r1
  have r2 := (r1.set 2 6).2
  rw [show setB x1 2 6 = x2 from by decide +kernel] at r2
  have r3 := r2.step (holdA 2, 1, 5)
  rw [show moveL x2 (holdA 2, 1, 5) = x3 from by decide +kernel] at r3
  have r4 := r3.step (refM x3 2)
  rw [show moveL x3 (refM x3 2) = x4 from by decide +kernel] at r4
  exact ⟨_, _, _, _, r1, r2, r3, r4⟩

theorem al1 (W : World) (p : Nat) (h : TMg tP W p []) : Calls Try.prog 22 #[.pointer (some ⟨p, 0, none⟩), .int .i64 2, .int .i64 10] W fun e w' => e = .returned (.int .i64 0) ∧ TMg tP w' p x1 ∧ W.grownBy w' (some p) := by
  have h1 := deposit_any W p [] 2 10 (by decide) h Rel.nil.sd (by simp) Rel.nil.bnd
  rw [show moveE (getV []) (0, freeA 2, 10) = 0 from by decide +kernel, show moveL [] (0, freeA 2, 10) = x1 from by decide +kernel] at h1
  exact h1
theorem al2 (W : World) (p : Nat) (h : TMg tP W p x1) : Calls Try.prog 19 #[.pointer (some ⟨p, 0, none⟩), .int .i64 2, .int .i64 6] W fun e w' => e = .returned (.int .i64 0) ∧ TMg tP w' p x2 ∧ W.grownBy w' (some p) := by
  obtain ⟨m1, m2, m3, m4, r1, r2, r3, r4⟩ := al_rel
  have h1 := hset_any W p x1 2 6 (by decide) h r1.sd (by simp) r1.bnd
  rw [show setE x1 2 6 = 0 from by decide +kernel, show setB x1 2 6 = x2 from by decide +kernel] at h1
  exact h1
theorem al3 (W : World) (p : Nat) (h : TMg tP W p x2) : Calls Try.prog 24 #[.pointer (some ⟨p, 0, none⟩), .int .i64 2, .int .i64 5] W fun e w' => e = .returned (.int .i64 0) ∧ TMg tP w' p x3 ∧ W.grownBy w' (some p) := by
  obtain ⟨m1, m2, m3, m4, r1, r2, r3, r4⟩ := al_rel
  have h1 := pay_any W p x2 2 5 (by decide) h r2.sd (by simp) r2.bnd
  rw [show moveE (getV x2) (holdA 2, 1, 5) = 0 from by decide +kernel, show moveL x2 (holdA 2, 1, 5) = x3 from by decide +kernel] at h1
  exact h1
theorem al4 (W : World) (p : Nat) (h : TMg tP W p x3) : Calls Try.prog 25 #[.pointer (some ⟨p, 0, none⟩), .int .i64 2] W fun e w' => e = .returned (.tuple #[.int .i64 1, .int .i64 0]) ∧ TMg tP w' p x4 ∧ W.grownBy w' (some p) := by
  obtain ⟨m1, m2, m3, m4, r1, r2, r3, r4⟩ := al_rel
  have h1 := refund_any W p x3 2 (by decide) h r3.sd (by simp) r3.bnd
  rw [show moveE (getV x3) (refM x3 2) = 0 from by decide +kernel, show moveL x3 (refM x3 2) = x4 from by decide +kernel, show getV x3 (holdA 2) = 1 from by decide +kernel] at h1
  exact h1
theorem al5 (W : World) (p : Nat) (h : TMg tP W p x4) : Calls Try.prog 23 #[.pointer (some ⟨p, 0, none⟩), .int .i64 2, .int .i64 6] W fun e w' => e = .returned (.int .i64 40) ∧ TMg tP w' p x4 ∧ W.grownBy w' (some p) := by
  obtain ⟨m1, m2, m3, m4, r1, r2, r3, r4⟩ := al_rel
  have h1 := withdraw_any W p x4 2 6 (by decide) h r4.sd (by simp) r4.bnd
  rw [show moveE (getV x4) (freeA 2, 0, 6) = 40 from by decide +kernel, show moveL x4 (freeA 2, 0, 6) = x4 from by decide +kernel] at h1
  exact h1
theorem al6 (W : World) (p : Nat) (A : Option Addr) (c : Nat) (h : TMg tP W p x4) (hR : Rd cB 2 W.heap.size W (.slice A 1 c) [(2, 1)]) : Calls Try.prog 26 #[.pointer (some ⟨p, 0, none⟩), .slice A 1 c] W fun e w' => e = .returned (.int .i64 40) ∧ TMg tP w' p x4 ∧ W.grownBy w' (some p) := by
  obtain ⟨m1, m2, m3, m4, r1, r2, r3, r4⟩ := al_rel
  have h1 := settle_any W p x4 A c [(2, 1)] (by decide) h r4.sd (by simp) (by simp) r4.bnd hR
  rw [show (movesL x4 (bms [(2, 1)])).1 = 40 from by decide +kernel, show allL x4 (bms [(2, 1)]) = x4 from by decide +kernel] at h1
  exact h1
theorem al7 (W : World) (p : Nat) (h : TMg tP W p x4) : Calls Try.prog 22 #[.pointer (some ⟨p, 0, none⟩), .int .i64 1, .int .i64 1] W fun e w' => e = .returned (.int .i64 1) ∧ TMg tP w' p x4 ∧ W.grownBy w' (some p) := by
  obtain ⟨m1, m2, m3, m4, r1, r2, r3, r4⟩ := al_rel
  have h1 := deposit_any W p x4 1 1 (by decide) h r4.sd (by simp) r4.bnd
  rw [show moveE (getV x4) (0, freeA 1, 1) = 1 from by decide +kernel, show moveL x4 (0, freeA 1, 1) = x4 from by decide +kernel] at h1
  exact h1
theorem alH (W : World) (p : Nat) (xs : Bs) (ms : List Mv) (n : Int) (hr : Rel xs ms) (h : TMg tP W p xs) (he : getV xs (freeA 2) = n) : Calls Try.prog 17 #[.pointer (some ⟨p, 0, none⟩), .int .i64 2] W fun e w' => e = .returned (.int .i64 n) ∧ Below W.heap.size W w' := by
  rw [← he]; exact has_any W p xs 2 (by decide) h hr.sd
theorem alE (W : World) (p : Nat) (xs : Bs) (ms : List Mv) (n : Int) (hr : Rel xs ms) (h : TMg tP W p xs) (he : getV xs (holdA 2) = n) : Calls Try.prog 18 #[.pointer (some ⟨p, 0, none⟩), .int .i64 2] W fun e w' => e = .returned (.int .i64 n) ∧ Below W.heap.size W w' := by
  rw [← he]; exact held_any W p xs 2 (by decide) h hr.sd
theorem alS (W : World) (p : Nat) (h : TMg tP W p x4) : Calls Try.prog 21 #[.pointer (some ⟨p, 0, none⟩)] W fun e w' => e = .returned (.int .i64 5) ∧ W = w' := by
  obtain ⟨m1, m2, m3, m4, r1, r2, r3, r4⟩ := al_rel
  rw [show (5 : Int) = getV x4 1 from by decide +kernel]
  exact sold_any W p x4 (by decide) h r4.sd
theorem alW (W : World) (p : Nat) (h : TMg tP W p x4) : Calls Try.prog 27 #[.pointer (some ⟨p, 0, none⟩)] W fun e w' => e = .returned (.int .i64 10) ∧ W = w' := by
  obtain ⟨m1, m2, m3, m4, r1, r2, r3, r4⟩ := al_rel
  rw [show (10 : Int) = -(getV x4 0) from by decide +kernel]
  exact worth_any W p x4 (by decide) h r4.sd r4.bnd
set_option maxHeartbeats 8000000 in
set_option maxRecDepth 100000 in
theorem alive_any (W : World) : Calls Try.prog 11 #[] W fun e w' => e = .returned (.bool true) ∧ Below W.heap.size W w' := by
  have hT0 : TMg tP (W.alloc (.cells #[.pointer none] 32)) W.heap.size [] := ⟨none, .leaf, Blk.new W [.pointer none] _, rfl, rfl⟩
  have hB0 : Below W.heap.size W (W.alloc (.cells #[.pointer none] 32)) := (Below.refl _ W).alloc (Nat.le_refl _) _
  have C1 := Lib.hid (al1 _ _ hT0)
  obtain ⟨p, hp⟩ : ∃ p, W.heap.size = p := ⟨_, rfl⟩
  have HP := Lib.hid hp
  have HB0 := Lib.hid hB0
  clear hT0 hp hB0
  have hrel := al_rel
  obtain ⟨m1, m2, m3, m4, r1, r2, r3, r4⟩ := hrel
  have R2 := Lib.hid r2; have R4 := Lib.hid r4
  clear r1 r2 r3 r4
  go_enter Try.func11, Try.ntmps11
  go_wp2_with fail
  refine C1.out.mono ?_; rintro e w1 ⟨rfl, hT1, hg1⟩
  have hB1 := HB0.out.grown hg1 HB0.out.size (fun r e => by cases e; exact Nat.le_refl _)
  rw [HP.out] at hT1 ⊢
  have C2 := Lib.hid (al2 _ _ hT1); have HB1 := Lib.hid hB1
  clear hT1 hg1 hB1
  go_wp2_with fail
  refine C2.out.mono ?_; rintro e w2 ⟨rfl, hT2, hg2⟩
  have HB2 := Lib.hid (HB1.out.grown hg2 HB1.out.size (fun r e => by cases e; exact Nat.le_of_eq HP.out))
  have C3 := Lib.hid (alH _ _ _ _ 4 R2.out hT2 (by decide +kernel))
  have HT2 := Lib.hid hT2
  clear hT2 hg2 C2
  go_wp2_with fail
  refine C3.out.mono ?_; rintro e w3 ⟨rfl, hb3⟩
  have hT3 := HT2.out.below hb3
  have HB3 := Lib.hid (HB2.out.trans (hb3.mono HB2.out.size))
  have C4 := Lib.hid (alE _ _ _ _ 6 R2.out hT3 (by decide +kernel))
  have HT3 := Lib.hid hT3
  clear hT3 hb3 C3
  go_wp2_with fail
  refine C4.out.mono ?_; rintro e w4 ⟨rfl, hb4⟩
  have hT4 := HT3.out.below hb4
  have HB4 := Lib.hid (HB3.out.trans (hb4.mono HB3.out.size))
  have C5 := Lib.hid (al3 _ _ hT4)
  clear hT4 hb4 C4
  go_wp2_with fail
  refine C5.out.mono ?_; rintro e w5 ⟨rfl, hT5, hg5⟩
  have HB5 := Lib.hid (HB4.out.grown hg5 HB4.out.size (fun r e => by cases e; exact Nat.le_of_eq HP.out))
  have C6 := Lib.hid (al4 _ _ hT5)
  clear hT5 hg5 C5
  go_wp2_with fail
  refine C6.out.mono ?_; rintro e w6 ⟨rfl, hT6, hg6⟩
  have HB6 := Lib.hid (HB5.out.grown hg6 HB5.out.size (fun r e => by cases e; exact Nat.le_of_eq HP.out))
  have C7 := Lib.hid (al5 _ _ hT6)
  clear hT6 hg6 C6
  go_wp2_with fail
  refine C7.out.mono ?_; rintro e w7 ⟨rfl, hT7, hg7⟩
  have HB7 := Lib.hid (HB6.out.grown hg7 HB6.out.size (fun r e => by cases e; exact Nat.le_of_eq HP.out))
  have hal : Below w7.heap.size w7 (w7.alloc (.cells #[.int .i64 2, .int .i64 1] 57)) := (Below.refl _ w7).alloc (Nat.le_refl _) _
  have hT8 := hT7.below hal
  have hbl := Blk.new w7 [.int .i64 2, .int .i64 1] 57
  have HB8 := Lib.hid (HB7.out.trans (hal.mono HB7.out.size))
  have C8 := Lib.hid (al6 _ p (some ⟨w7.heap.size, 0, none⟩) 1 hT8 (.inr ⟨w7.heap.size, 0, 1, rfl, by simp, fun j x hx c v hv => by
    have hj : j = 0 := by have := (List.getElem?_eq_some_iff.1 hx).1; simp at this; omega
    subst hj
    obtain rfl : (2, 1) = x := by simpa using hx
    rw [Nat.zero_mul, Nat.add_zero, Nat.zero_add]
    exact hbl.cell hv⟩))
  clear hT7 hg7 C7 hT8 hal hbl
  go_wp2_with fail
  refine C8.out.mono ?_; rintro e w9 ⟨rfl, hT9, hg9⟩
  have HB9 := Lib.hid (HB8.out.grown hg9 HB8.out.size (fun r e => by cases e; exact Nat.le_of_eq HP.out))
  have C9 := Lib.hid (ledger_any _ _ _ hT9)
  have HT9 := Lib.hid hT9
  clear hT9 hg9 C8
  go_wp2_with fail
  refine C9.out.mono ?_; rintro e w10 ⟨cl, rfl, hcl, hL, hb10⟩
  have hT10 := HT9.out.below hb10
  have HB10 := Lib.hid (HB9.out.trans (hb10.mono HB9.out.size))
  have C10 := Lib.hid (of_any _ _ _ hL)
  have HT10 := Lib.hid hT10
  clear hT10 hb10 C9 hL hcl
  go_wp2_with fail
  refine C10.out.mono ?_; rintro e w11 ⟨cq, rfl, hcq, hQ, hb11⟩
  have hT11 := HT10.out.below hb11
  have hne : p ≠ cq := by have := HT10.out.lt; omega
  have HB11 := Lib.hid (HB10.out.trans (hb11.mono HB10.out.size))
  have C11 := Lib.hid (alH _ _ _ _ 5 R4.out hT11 (by decide +kernel))
  have HT11 := Lib.hid hT11; have HQ := Lib.hid hQ
  clear hT11 hb11 C10 hQ hcq hne
  go_wp2_with fail
  refine C11.out.mono ?_; rintro e w12 ⟨rfl, hb12⟩
  have HT12 := Lib.hid (HT11.out.below hb12)
  have HQ12 := Lib.hid (HQ.out.below hb12)
  have HB12 := Lib.hid (HB11.out.trans (hb12.mono HB11.out.size))
  clear hb12 C11
  go_wp2_with fail
  refine (alS _ _ HT12.out).mono ?_; rintro e wx ⟨rfl, rfl⟩
  go_wp2_with fail
  refine (alW _ _ HT12.out).mono ?_; rintro e wx ⟨rfl, rfl⟩
  go_wp2_with fail
  refine (alH _ _ _ _ 5 R4.out HQ12.out (by decide +kernel)).mono ?_; rintro e w13 ⟨rfl, hb13⟩
  have HT13 := Lib.hid (HT12.out.below hb13)
  have HB13 := Lib.hid (HB12.out.trans (hb13.mono HB12.out.size))
  clear hb13
  go_wp2_with fail
  refine (al7 _ _ HT13.out).mono ?_; rintro e w14 ⟨rfl, hT14, hg14⟩
  have HB14 := Lib.hid (HB13.out.grown hg14 HB13.out.size (fun r e => by cases e; exact Nat.le_of_eq HP.out))
  clear hT14 hg14
  go_wp2_with fail
  go_ret
  exact ⟨rfl, HB14.out⟩

end Go.Proofs.Ytmdacfgofilbdaa.Led

/- hold: rows of steps that came in; whether they are few. -/
set_option linter.unusedSimpArgs false
set_option linter.unusedVariables false
namespace Go.Proofs.Ytmdacfgofilbdaa.Led
open Go.RowKit Go.Proofs.Ytmdacfgofilbdaa.TabL Go.Proofs.YtmdacfgofilbdaaW.PrintWords Go.Proofs.Ytmdacfgofilbdaa.PHoldPlays
open Go.Proofs.Ytmdacfgofilbdaa.TabB (ltI lin getV TMg)
attribute [local go_sem] Oper.semAt_some

def bl (o : S38) : List (Int × Int) := o.f3.map (fun b => (b.f0, b.f1))
theorem bl_len (o : S38) : (bl o).length = o.f3.length := by unfold bl; simp
theorem rd_of_57 {w : World} {A : Option Addr} {c : Nat} {xs : List S57} (h : k57.C w A xs.length xs) : Rd cB 2 w.heap.size w (.slice A (xs.map (fun b => (b.f0, b.f1))).length c) (xs.map (fun b => (b.f0, b.f1))) := by
  by_cases hn : 0 < xs.length
  · obtain ⟨b, off, hA, hlt⟩ := C_spot h hn (show 0 < k57.sz by decide)
    refine .inr ⟨b, off, c, by rw [hA], hlt, fun j x hx i v hv => ?_⟩
    rw [List.getElem?_map] at hx
    obtain ⟨y, hy, rfl⟩ : ∃ y, xs[j]? = some y ∧ (y.f0, y.f1) = x := by
      cases hq : xs[j]? with
      | none => rw [hq] at hx; simp at hx
      | some y => rw [hq] at hx; exact ⟨y, rfl, by simpa using hx⟩
    obtain ⟨ad, hA', hc⟩ := h.2.2 hn
    rw [hA] at hA'
    obtain rfl := Option.some.inj hA'
    obtain ⟨cs, hl, hk, hcell⟩ := hc j y hy
    obtain rfl := k57_open hk
    have := hcell i v hv
    rw [addr_add] at this
    rw [show off + j * 2 + i = off + (j * k57.sz + i) from by show off + j * 2 + i = off + (j * 2 + i); omega]
    exact this
  · have : xs = [] := List.eq_nil_of_length_eq_zero (by omega)
    subst this
    exact .inl ⟨A, c, rfl, rfl⟩
/-- a step's cells -/
theorem op_at {w : World} {A : Option Addr} {ops : List S38} (h : k38.C w A ops.length ops) {k : Nat} {o : S38} (hk : ops[k]? = some o) : ∃ b off A3 c3, A = some ⟨b, off, none⟩ ∧ b < w.heap.size ∧ w.cell? ⟨b, off + k * 4, none⟩ = some (.int .i64 o.f0) ∧ w.cell? ⟨b, off + k * 4 + 1, none⟩ = some (.int .i64 o.f1) ∧ w.cell? ⟨b, off + k * 4 + 2, none⟩ = some (.int .i64 o.f2) ∧ w.cell? ⟨b, off + k * 4 + 3, none⟩ = some (.slice A3 (bl o).length c3) ∧ Rd cB 2 w.heap.size w (.slice A3 (bl o).length c3) (bl o) := by
  have hlt := (List.getElem?_eq_some_iff.1 hk).1
  obtain ⟨b, off, rfl, hb⟩ := C_spot h (by omega) (show 0 < k38.sz by decide)
  obtain ⟨ad, e, hc⟩ := h.2.2 (by omega)
  obtain rfl := Option.some.inj e
  obtain ⟨cs, hl, hK, hcell⟩ := hc k o hk
  obtain ⟨A3, c3, rfl, l3, g3⟩ := k38_open hK
  have h0 := hcell 0 _ rfl
  have h1 := hcell 1 _ rfl
  have h2 := hcell 2 _ rfl
  have h3 := hcell 3 _ rfl
  rw [addr_add] at h0 h1 h2 h3
  refine ⟨b, off, A3, c3, rfl, hb, h0, h1, h2, by rw [bl_len]; exact h3, rd_of_57 g3⟩
/-- are the steps few? -/
def smallB (ops : List S38) : Bool := ops.all (fun o => decide (o.f3.length ≤ 8)) && decide (ops.length ≤ 40)
theorem small_ev (ops : List S38) (hl : ops.length ≤ 9223372036854775807) : Ev (fun k => saleroomlaw18_small.f k ops) (smallB ops) := by
  have key : ∀ d j, ops.length - j = d → j ≤ ops.length → (∀ i o, i < j → ops[i]? = some o → o.f3.length ≤ 8) → Ev (fun k => saleroomlaw18_small.l0 k ops ops (ops.length : Int) (j : Int)) (smallB ops) := by
    intro d
    induction d with
    | zero =>
      intro j hd hj hall
      obtain rfl : j = ops.length := by omega
      refine Ev.step (f := fun _ => some (decide ((ops.length : Int) ≤ 40))) (fun k => ?_) ?_
      · rw [saleroomlaw18_small.l0, if_neg (by omega)]
      · have : smallB ops = decide ((ops.length : Int) ≤ 40) := by
          unfold smallB
          rw [show ops.all (fun o => decide (o.f3.length ≤ 8)) = true from List.all_eq_true.2 (fun o ho => by
            obtain ⟨i, hi⟩ := List.mem_iff_getElem?.1 ho
            exact decide_eq_true (hall i o (List.getElem?_eq_some_iff.1 hi).1 hi)), Bool.true_and]
          exact decide_eq_decide.2 (by omega)
        rw [this]
        exact Ev.now _
    | succ d ih =>
      intro j hd hj hall
      have hlt : j < ops.length := by omega
      have hrd : rd_T38 ops (j : Int) = ops[j] := by simp [rd_T38, hlt]
      by_cases h8 : ops[j].f3.length ≤ 8
      · refine Ev.step (f := fun k => saleroomlaw18_small.l0 k ops ops (ops.length : Int) ((j + 1 : Nat) : Int)) (fun k => ?_) (ih (j + 1) (by omega) (by omega) (fun i o hi ho => by
          by_cases e : i = j
          · subst e
            rw [List.getElem?_eq_getElem hlt] at ho
            obtain rfl := Option.some.inj ho
            exact h8
          · exact hall i o (by omega) ho))
        rw [saleroomlaw18_small.l0, if_pos (by omega), if_pos (by omega), if_pos (by omega), hrd, if_neg (by omega), wrap_id (by omega) (by omega)]
        rfl
      · refine Ev.step (f := fun _ => some false) (fun k => ?_) ?_
        · rw [saleroomlaw18_small.l0, if_pos (by omega), if_pos (by omega), if_pos (by omega), hrd, if_pos (by omega)]
        · have : smallB ops = false := by
            unfold smallB
            rw [show ops.all (fun o => decide (o.f3.length ≤ 8)) = false from List.all_eq_false.2 ⟨ops[j], List.getElem_mem _, by simpa using h8⟩, Bool.false_and]
          rw [this]
          exact Ev.now _
  exact key _ 0 rfl (Nat.zero_le _) (fun i o hi => by omega)
theorem small_any (W : World) (A : Option Addr) (c : Nat) (ops : List S38) (hC : k38.C W A ops.length ops) (hc : ops.length ≤ c) (hl : ops.length ≤ 9223372036854775807) :
    Calls Try.prog 12 #[.slice A ops.length c] W fun e w' => e = .returned (.bool (smallB ops)) ∧ Below W.heap.size W w' := by
  obtain ⟨k, hk⟩ := (small_ev ops hl).rounds
  exact saleroomlaw18_small.calls k A c ops _ W hC hc hk
theorem smallB_true {ops : List S38} (h : smallB ops = true) : ops.length ≤ 40 ∧ ∀ o ∈ ops, o.f3.length ≤ 8 := by
  unfold smallB at h
  simp only [Bool.and_eq_true, List.all_eq_true, decide_eq_true_eq] at h
  exact ⟨h.2, h.1⟩

end Go.Proofs.Ytmdacfgofilbdaa.Led
