/- HoldPlays. -/
import Derived.Test.YtmdacfgofilbdaaHoldPl
set_option linter.unusedSimpArgs false
set_option linter.unusedVariables false
namespace Go.Proofs.Ytmdacfgofilbdaa.Led
open Go.RowKit Go.Proofs.Ytmdacfgofilbdaa.TabL Go.Proofs.YtmdacfgofilbdaaW.PrintWords Go.Proofs.Ytmdacfgofilbdaa.PHoldPlays
open Go.Proofs.Ytmdacfgofilbdaa.TabB (ltI lin getV TMg)
attribute [local go_sem] Oper.semAt_some

/-- five numbers laid into a block of their own are read -/
theorem rd_five (W : World) (a b c d e : Int) : Rd cI 1 (W.alloc (.cells #[.int .i64 a, .int .i64 b, .int .i64 c, .int .i64 d, .int .i64 e] 3)).heap.size (W.alloc (.cells #[.int .i64 a, .int .i64 b, .int .i64 c, .int .i64 d, .int .i64 e] 3)) (.slice (some ⟨W.heap.size, 0, none⟩) 5 5) [a, b, c, d, e] :=
  .inr ⟨W.heap.size, 0, 5, rfl, by simp, fun j x hx i v hv => by
    have hi : i = 0 := by have := (List.getElem?_eq_some_iff.1 hv).1; simp [cI] at this; omega
    subst hi
    obtain rfl : Value.int .i64 x = v := by simpa [cI] using hv
    rw [Nat.mul_one, Nat.add_zero, Nat.zero_add]
    refine (Blk.new W [.int .i64 a, .int .i64 b, .int .i64 c, .int .i64 d, .int .i64 e] 3).cell ?_
    have : [Value.int .i64 a, .int .i64 b, .int .i64 c, .int .i64 d, .int .i64 e] = [a, b, c, d, e].map (Value.int .i64) := rfl
    rw [this, List.getElem?_map, hx]
    rfl⟩
set_option maxHeartbeats 8000000 in
set_option maxRecDepth 100000 in
theorem plays_walk (W : World) (ops : List S38) (A : Option Addr) (c : Nat) (hc : ops.length ≤ c) (_ : A = none → c = 0) (hC : k38.C W A ops.length ops) (hL : ops.length ≤ maxLen) (_ : ∀ o ∈ ops, True) (party : Int) (_ : (Lit.int .i64 party).wf = true) :
    Calls Try.prog 3 #[.slice A ops.length c, .int .i64 party] W fun e w' => e = .returned (.bool true) ∧ Below W.heap.size W w' := by
  have HC := Lib.hid hC
  unfold maxLen at hL
  clear hC
  cases hs : smallB ops with
  | false =>
    go_enter Try.func3, Try.ntmps3
    go_wp2_with fail
    refine (alive_any _).mono ?_; rintro e w1 ⟨rfl, hb1⟩
    go_wp2_with fail
    refine (small_any w1 A c ops (Kd.C_below HC.out hb1) hc (by omega)).mono ?_; rintro e w2 ⟨rfl, hb2⟩
    rw [hs]
    have HB2 := Lib.hid (hb1.trans (hb2.mono hb1.size))
    clear hb1 hb2
    go_wp2_with fail
    go_ret
    exact ⟨rfl, HB2.out⟩
  | true =>
    obtain ⟨h40, h8⟩ := smallB_true hs
    have H8 := Lib.hid h8
    clear h8
    go_enter Try.func3, Try.ntmps3
    go_wp2_with fail
    refine (alive_any _).mono ?_; rintro e w1 ⟨rfl, hb1⟩
    go_wp2_with fail
    refine (small_any w1 A c ops (Kd.C_below HC.out hb1) hc (by omega)).mono ?_; rintro e w2 ⟨rfl, hb2⟩
    rw [hs]
    have HB2 := Lib.hid (hb1.trans (hb2.mono hb1.size))
    have hz2 := HB2.out.size
    clear hb1 hb2 hs
    go_wp2_with fail
    go_loopw [21] (fun i wr => ∃ (k : Nat) (xs : Bs) (ms : List Mv) (v : Value), i = .int .i64 (k : Int) ∧ k ≤ ops.length ∧ TMg tP wr w2.heap.size xs ∧ PM wr v ms ∧ Rel xs ms ∧ xs.length ≤ 16 * k ∧ ms.length ≤ 8 * k ∧ Blk wr (w2.heap.size + 1) 35 [v] ∧ Below W.heap.size W wr)
      (fun i _ => ops.length - (match i with | .int _ n => n.toNat | _ => 0))
    case atStart =>
      refine ⟨0, [], [], .slice none 0 0, rfl, Nat.zero_le _, ⟨none, .leaf, (Blk.new w2 [.pointer none] _).alloc _, rfl, rfl⟩, pm_nil _, Rel.nil, by simp, by simp, Blk.new2 w2 _ _ _, ((HB2.out.alloc hz2 _).alloc (by simp; omega) _)⟩
    case round =>
      obtain ⟨k, xs, ms, v, rfl, hk, hT, hP, hR, hx, hm, hBx, hB⟩ := hrel
      by_cases hlt : k < ops.length
      · obtain ⟨o, hget⟩ : ∃ o, ops[k]? = some o := ⟨_, List.getElem?_eq_getElem hlt⟩
        obtain ⟨b, off, A3, c3, rfl, hbl, q0, q1, q2, q3, hRb⟩ := op_at HC.out hget
        have hbz := hB.size
        have h8o := H8.out o (List.mem_of_getElem? hget)
        have r0 := (hB.cell (p := ⟨b, off + k * 4, none⟩) hbl).trans q0
        have r1 := (hB.cell (p := ⟨b, off + k * 4 + 1, none⟩) hbl).trans q1
        have r2 := (hB.cell (p := ⟨b, off + k * 4 + 2, none⟩) hbl).trans q2
        have r3 := (hB.cell (p := ⟨b, off + k * 4 + 3, none⟩) hbl).trans q3
        obtain ⟨kd, hkd⟩ : ∃ kd, o.f0 = kd := ⟨_, rfl⟩
        obtain ⟨who, hwho⟩ : ∃ who, o.f1 = who := ⟨_, rfl⟩
        obtain ⟨am, ham⟩ : ∃ am, o.f2 = am := ⟨_, rfl⟩
        rw [hkd] at r0
        rw [hwho] at r1
        rw [ham] at r2
        have hbs : (bl o).length ≤ 8 := by rw [bl_len]; exact h8o
        obtain ⟨bs, hbse⟩ : ∃ bs, bl o = bs := ⟨_, rfl⟩
        rw [hbse] at r3 hRb hbs
        obtain ⟨Av, cv, rfl, hlv, -⟩ := id hP
        have cx := hBx.cell (i := 0) rfl
        have hal : Below wr.heap.size wr (wr.alloc (.cells #[.int .i64 kd, .int .i64 who, .int .i64 am, .slice A3 bs.length c3] 38)) := (Below.refl _ wr).alloc (Nat.le_refl _) _
        have hOp := Blk.new wr [.int .i64 kd, .int .i64 who, .int .i64 am, .slice A3 bs.length c3] 38
        have hBal := hB.trans (hal.mono hbz)
        have hRb' := (hRb.below hBal).mono hBal.size
        have hpz := hT.lt
        have hxz := hBx.lt
        have HD := Lib.hid (do_any _ w2.heap.size xs ms (.slice Av ms.length cv) kd who am A3 c3 bs (by decide) (hT.below hal) (hP.below hal) hR (by omega) (by omega) hbs hRb')
        have HBx := Lib.hid (hBx.belowS hal); have HOp := Lib.hid hOp; have HBal := Lib.hid hBal; have HR := Lib.hid hR
        clear hkd hwho ham hbse hget q0 q1 q2 q3 hRb hRb' hT hP hR hBx hB hal hOp hBal
        go_wp2_with fail
        refine HD.out.mono ?_; rintro e w3 ⟨v', xs', ms', rfl, hpost⟩
        obtain ⟨hT3, hP3, hR3, hlx, hlm, hg3⟩ := hpost
        have hBx3 := HBx.out.kept hg3 (by first | omega | (simp; done) | (simp; omega))
        have hOp3 := HOp.out.kept hg3 (by first | omega | (simp; done) | (simp; omega))
        have hB3 := HBal.out.grown hg3 HBal.out.size (fun r e => by cases e; exact hz2)
        obtain ⟨Av', cv', rfl, -⟩ := id hP3
        have hz3 := hg3.size
        rw [World.size_alloc] at hz3
        have hxx : w2.heap.size + 1 < w3.heap.size := by omega
        have hrz : wr.heap.size < w3.heap.size := by omega
        have cx3 := hBx3.cell (i := 0) rfl
        have fx3 := hBx3.frozen 0
        have o1 := hOp3.cell (i := 1) rfl
        have hput := hP3.put hBx3 (.slice Av' ms'.length cv')
        have hTo := hT3.other (grownBy_setAt w3 (w2.heap.size + 1) 0 (.slice Av' ms'.length cv')) hBx3 (by omega) (by decide)
        have hBs := hB3.setCell (p := ⟨w2.heap.size + 1, 0, none⟩) (by first | omega | (simp; omega)) (.slice Av' ms'.length cv')
        have hXs := hBx3.set 0 (.slice Av' ms'.length cv')
        have hOs := hOp3.other (p := ⟨w2.heap.size + 1, 0, none⟩) (by first | omega | (simp; omega)) (.slice Av' ms'.length cv')
        have HS := Lib.hid (And.intro hTo (And.intro hput (And.intro hR3 (And.intro hBs hXs))))
        have HOs := Lib.hid hOs
        clear hT3 hP3 hR3 hg3 hBx3 hOp3 hB3 hput hTo hBs hXs hOs HD HBx HOp HBal cx r0 r1 r2 r3
        go_wp2_with fail
        obtain ⟨w4, hw4⟩ : ∃ w4, w3.setCell ⟨w2.heap.size + 1, 0, none⟩ (.slice Av' ms'.length cv') = w4 := ⟨_, rfl⟩
        have hz4 : w4.heap.size = w3.heap.size := by rw [← hw4]; simp [World.setCell]
        rw [hw4] at HS ⊢
        have hS := HS.out
        obtain ⟨hT4, hP4, hR4, hB4, hX4⟩ := hS
        obtain ⟨w5, hw5⟩ : ∃ w5, w4.alloc (.cells #[.slice Av' ms'.length cv'] 35) = w5 := ⟨_, rfl⟩
        have hz5 : w5.heap.size = w3.heap.size + 1 := by rw [← hw5, World.size_alloc, hz4]
        have hal5 : Below w4.heap.size w4 w5 := by rw [← hw5]; exact (Below.refl _ w4).alloc (Nat.le_refl _) _
        rw [hw5, ← hz5]
        have hal6 : Below w5.heap.size w5 (w5.alloc (.cells #[.int .i64 party, .int .i64 who, .int .i64 2, .int .i64 3, .int .i64 4] 3)) := (Below.refl _ w5).alloc (Nat.le_refl _) _
        have hT6 := (hT4.below hal5).below hal6
        have hP6 := (hP4.below hal5).below hal6
        have hX6 := (hX4.belowS hal5).belowS hal6
        have hB5 := hB4.trans (hal5.mono (by have := hB4.size; omega))
        have hB6 := hB5.trans (hal6.mono hB5.size)
        have SA := same_any _ w2.heap.size xs' ms' (.slice Av' ms'.length cv') (some ⟨w5.heap.size, 0, none⟩) 5 [party, who, 2, 3, 4] (by decide) hT6 hP6 hR4 (by omega) (by simp) (rd_five w5 party who 2 3 4)
        have HSA := Lib.hid SA; have HT6 := Lib.hid hT6; have HP6 := Lib.hid hP6; have HX6 := Lib.hid hX6; have HB6 := Lib.hid hB6; have HR4 := Lib.hid hR4
        clear hw4 hw5 hal5 hal6 hT6 hP6 hX6 hB6 hB5 hT4 hP4 hR4 hB4 hX4 SA HS HOs hz4 hz5
        refine HSA.out.mono ?_; rintro e w7 ⟨rfl, hb7⟩
        have HF := Lib.hid (And.intro (HT6.out.below hb7) (And.intro (HP6.out.below hb7) (And.intro (HX6.out.belowS hb7) (HB6.out.trans (hb7.mono HB6.out.size)))))
        clear hb7 HT6 HP6 HX6 HB6 HSA
        go_wp2_with fail
        go_roundw
        case rel => exact ⟨k + 1, xs', ms', _, by congr 1, by omega, HF.out.1, HF.out.2.1, HR4.out, by omega, by omega, HF.out.2.2.1, HF.out.2.2.2⟩
        case measure => simp; omega
      · go_wp2_with fail
        go_ret
        exact ⟨rfl, hB⟩

end Go.Proofs.Ytmdacfgofilbdaa.Led
