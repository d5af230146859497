/- LedgerPlays. -/
import Derived.Test.YtmdacfgofilbdaaLedRf
set_option linter.unusedSimpArgs false
set_option linter.unusedVariables false
namespace Go.Proofs.Ytmdacfgofilbdaa.Led
open Go.RowKit Go.Proofs.Ytmdacfgofilbdaa.TabL Go.Proofs.YtmdacfgofilbdaaW.PrintWords
open Go.Proofs.Ytmdacfgofilbdaa.TabB (ltI lin getV TMg)
open Go.Proofs.Ytmdacfgofilbdaa.PLedgerPlays (S75 S78 k75 k78)
open Go.Proofs.Ytmdacfgofilbdaa.LedR
attribute [local go_sem] Oper.semAt_some

set_option maxHeartbeats 8000000 in
set_option maxRecDepth 100000 in
theorem plays_core (W : World) (ops : List S75) (A : Option Addr) (c : Nat) (hc : ops.length ≤ c) (hC : k75.C W A ops.length ops) (hL : ops.length ≤ 9223372036854775807) (hw : ∀ o ∈ ops, ∀ m ∈ ml o, w64 m.1 ∧ w64 m.2.1) (a : Int) (ha : w64 a) :
    Calls Try.prog 6 #[.slice A ops.length c, .int .i64 a] W fun e w' => e = .returned (.bool true) ∧ Below W.heap.size W w' := by
  have HC := Lib.hid hC; have HW := Lib.hid hw
  clear hC hw
  cases hs : lsmB ops with
  | false =>
    go_enter Try.func6, Try.ntmps6
    go_wp2_with fail
    refine (lalive_any _).mono ?_; rintro e w1 ⟨rfl, hb1⟩
    go_wp2_with fail
    refine (lsmall_any w1 A c ops (Kd.C_below HC.out hb1) hc hL).mono ?_; rintro e w2 ⟨rfl, hb2⟩
    rw [hs]
    have HB2 := Lib.hid (hb1.trans (hb2.mono hb1.size))
    clear hb1 hb2
    go_wp2_with fail
    go_ret
    exact ⟨rfl, HB2.out⟩
  | true =>
    go_enter Try.func6, Try.ntmps6
    go_wp2_with fail
    refine (lalive_any _).mono ?_; rintro e w1 ⟨rfl, hb1⟩
    go_wp2_with fail
    refine (lsmall_any w1 A c ops (Kd.C_below HC.out hb1) hc hL).mono ?_; rintro e w2 ⟨rfl, hb2⟩
    rw [hs]
    have HB2 := Lib.hid (hb1.trans (hb2.mono hb1.size))
    have HS := Lib.hid hs
    clear hb1 hb2 hs
    go_wp2_with fail
    refine (play_any w2 A c ops (Kd.C_below HC.out HB2.out) HS.out HW.out).mono ?_; rintro e w3 ⟨v, xs, ms, rfl, hP, hlm⟩
    obtain ⟨p, hp⟩ : ∃ p, w2.heap.size = p := ⟨_, rfl⟩
    have HB3 := Lib.hid (HB2.out.trans (hP.b.mono HB2.out.size))
    have hT3 := hP.t
    rw [hp] at hT3 ⊢
    have HT3 := Lib.hid hT3; have HF := Lib.hid hP.fine; have HM3 := Lib.hid hP.pm; have HR := Lib.hid hP.rel
    clear hP hT3 hp
    have hfl := HF.out.len
    go_wp2_with fail
    refine (rlist_any w3 v xs ms HM3.out HR.out HF.out (by omega)).mono ?_; rintro e w4 ⟨v4, rfl, hO4, hb4⟩
    have HT4 := Lib.hid (HT3.out.below hb4); have HM4 := Lib.hid (HM3.out.below hb4); have HO4 := Lib.hid hO4; have HB4 := Lib.hid (HB3.out.trans (hb4.mono HB3.out.size))
    clear hO4 hb4
    go_wp2_with fail
    refine (jlist_any w4 p xs HT4.out (by omega)).mono ?_; rintro e w5 ⟨v5, rfl, hO5, hb5⟩
    have HT5 := Lib.hid (HT4.out.below hb5); have HM5 := Lib.hid (HM4.out.below hb5); have HO5 := Lib.hid (HO4.out.below hb5); have HB5 := Lib.hid (HB4.out.trans (hb5.mono HB4.out.size))
    have HP5 := Lib.hid (po_own (by omega) hO5)
    clear hO5 hb5
    go_wp2_with fail
    refine (osame_any w5 v5 v4 xs HP5.out HO5.out (by omega)).mono ?_; rintro e w6 ⟨rfl, hb6⟩
    have HT6 := Lib.hid (HT5.out.below hb6); have HM6 := Lib.hid (HM5.out.below hb6); have HO6 := Lib.hid (HO5.out.below hb6); have HB6 := Lib.hid (HB5.out.trans (hb6.mono HB5.out.size))
    clear hb6
    obtain ⟨ra, hra⟩ : ∃ ra, rightA a = ra := ⟨_, rfl⟩
    have HRA := Lib.hid hra
    have hzz : ra = false → bal ms a = 0 := fun h => HR.out.good.zero (hra.trans h)
    have hgv : getV xs a = bal ms a := HR.out.get a
    obtain ⟨n, hn⟩ : ∃ n, bal ms a = n := ⟨_, rfl⟩
    rw [hn] at hzz hgv
    have HGV := Lib.hid hgv; have HN := Lib.hid hn
    have enn : (n == n) = true := by simp
    clear hra hgv hn
    cases ra with
    | true =>
      go_wp2_with fail
      have C := right_any w6 a ha; rw [HRA.out] at C
      refine C.mono ?_; rintro e w7 ⟨rfl, hb⟩
      clear C
      have HT7 := Lib.hid (HT6.out.below hb); have HM7 := Lib.hid (HM6.out.below hb); have HO7 := Lib.hid (HO6.out.below hb); have HB7 := Lib.hid (HB6.out.trans (hb.mono HB6.out.size))
      clear hb
      go_wp2_with fail
      have C := rright_any w7 a; rw [HRA.out] at C
      refine C.mono ?_; rintro e w8 ⟨rfl, hb⟩
      clear C
      have HT8 := Lib.hid (HT7.out.below hb); have HM8 := Lib.hid (HM7.out.below hb); have HO8 := Lib.hid (HO7.out.below hb); have HB8 := Lib.hid (HB7.out.trans (hb.mono HB7.out.size))
      clear hb
      go_wp2_with fail
      have C := rright_any w8 a; rw [HRA.out] at C
      refine C.mono ?_; rintro e w9 ⟨rfl, hb⟩
      clear C
      have HT9 := Lib.hid (HT8.out.below hb); have HM9 := Lib.hid (HM8.out.below hb); have HO9 := Lib.hid (HO8.out.below hb); have HB9 := Lib.hid (HB8.out.trans (hb.mono HB8.out.size))
      clear hb
      go_wp2_with fail
      refine (balance_c w9 p xs a n (by decide) HT9.out HF.out HGV.out).mono ?_; rintro e wx ⟨rfl, rfl⟩
      go_wp2_with fail
      have C := rbal_any w9 v ms a HM9.out HR.out.good (by omega); rw [HN.out] at C
      refine C.mono ?_; rintro e w10 ⟨rfl, hb⟩
      clear C
      have HT10 := Lib.hid (HT9.out.below hb); have HM10 := Lib.hid (HM9.out.below hb); have HO10 := Lib.hid (HO9.out.below hb); have HB10 := Lib.hid (HB9.out.trans (hb.mono HB9.out.size))
      clear hb
      go_wp2_with fail
      have C := rright_any w10 a; rw [HRA.out] at C
      refine C.mono ?_; rintro e w11 ⟨rfl, hb⟩
      clear C
      have HT11 := Lib.hid (HT10.out.below hb); have HM11 := Lib.hid (HM10.out.below hb); have HO11 := Lib.hid (HO10.out.below hb); have HB11 := Lib.hid (HB10.out.trans (hb.mono HB10.out.size))
      clear hb
      go_wp2_with fail
      refine (total_c w11 p xs HT11.out HF.out).mono ?_; rintro e w12 ⟨rfl, hb⟩
      have HT12 := Lib.hid (HT11.out.below hb); have HM12 := Lib.hid (HM11.out.below hb); have HO12 := Lib.hid (HO11.out.below hb); have HB12 := Lib.hid (HB11.out.trans (hb.mono HB11.out.size))
      clear hb
      go_wp2_with fail
      refine (lwrite_any w12 p xs HT12.out HF.out.good (by omega)).mono ?_; rintro e w13 ⟨Aw, cw, rfl, hOw, hb⟩
      have HK13 := Lib.hid (C_own hOw).2.2; have HL13 := Lib.hid (own_le hOw)
      clear hOw
      have HT13 := Lib.hid (HT12.out.below hb); have HM13 := Lib.hid (HM12.out.below hb); have HO13 := Lib.hid (HO12.out.below hb); have HB13 := Lib.hid (HB12.out.trans (hb.mono HB12.out.size))
      clear hb
      go_wp2_with fail
      refine (rwrite_any w13 v4 xs HO13.out HF.out).mono ?_; rintro e w14 ⟨Ar, cr, rfl, hlr, hKr, hb⟩
      have HK14 := Lib.hid (Kd.C_below HK13.out hb); have HR14 := Lib.hid hKr
      clear hKr
      have HT14 := Lib.hid (HT13.out.below hb); have HM14 := Lib.hid (HM13.out.below hb); have HO14 := Lib.hid (HO13.out.below hb); have HB14 := Lib.hid (HB13.out.trans (hb.mono HB13.out.size))
      clear hb
      go_wp2_with fail
      refine (bsame_any w14 Aw Ar cw cr (wrL xs) HK14.out HL13.out HR14.out hlr (wrL_len HF.out.good (by omega))).mono ?_; rintro e w15 ⟨rfl, hb⟩
      have HT15 := Lib.hid (HT14.out.below hb); have HM15 := Lib.hid (HM14.out.below hb); have HO15 := Lib.hid (HO14.out.below hb); have HB15 := Lib.hid (HB14.out.trans (hb.mono HB14.out.size))
      clear hb
      go_wp2_with fail
      go_ret
      exact ⟨rfl, HB15.out⟩
    | false =>
      obtain rfl := hzz rfl
      go_wp2_with fail
      have C := right_any w6 a ha; rw [HRA.out] at C
      refine C.mono ?_; rintro e w7 ⟨rfl, hb⟩
      clear C
      have HT7 := Lib.hid (HT6.out.below hb); have HM7 := Lib.hid (HM6.out.below hb); have HO7 := Lib.hid (HO6.out.below hb); have HB7 := Lib.hid (HB6.out.trans (hb.mono HB6.out.size))
      clear hb
      go_wp2_with fail
      have C := rright_any w7 a; rw [HRA.out] at C
      refine C.mono ?_; rintro e w8 ⟨rfl, hb⟩
      clear C
      have HT8 := Lib.hid (HT7.out.below hb); have HM8 := Lib.hid (HM7.out.below hb); have HO8 := Lib.hid (HO7.out.below hb); have HB8 := Lib.hid (HB7.out.trans (hb.mono HB7.out.size))
      clear hb
      go_wp2_with fail
      have C := rright_any w8 a; rw [HRA.out] at C
      refine C.mono ?_; rintro e w9 ⟨rfl, hb⟩
      clear C
      have HT9 := Lib.hid (HT8.out.below hb); have HM9 := Lib.hid (HM8.out.below hb); have HO9 := Lib.hid (HO8.out.below hb); have HB9 := Lib.hid (HB8.out.trans (hb.mono HB8.out.size))
      clear hb
      go_wp2_with fail
      have C := rright_any w9 a; rw [HRA.out] at C
      refine C.mono ?_; rintro e w10 ⟨rfl, hb⟩
      clear C
      have HT10 := Lib.hid (HT9.out.below hb); have HM10 := Lib.hid (HM9.out.below hb); have HO10 := Lib.hid (HO9.out.below hb); have HB10 := Lib.hid (HB9.out.trans (hb.mono HB9.out.size))
      clear hb
      go_wp2_with fail
      refine (balance_c w10 p xs a 0 (by decide) HT10.out HF.out HGV.out).mono ?_; rintro e wx ⟨rfl, rfl⟩
      have HT11 := HT10; have HM11 := HM10; have HO11 := HO10; have HB11 := HB10
      go_wp2_with fail
      refine (total_c w10 p xs HT10.out HF.out).mono ?_; rintro e w12 ⟨rfl, hb⟩
      have HT12 := Lib.hid (HT10.out.below hb); have HM12 := Lib.hid (HM10.out.below hb); have HO12 := Lib.hid (HO10.out.below hb); have HB12 := Lib.hid (HB10.out.trans (hb.mono HB10.out.size))
      clear hb
      go_wp2_with fail
      refine (lwrite_any w12 p xs HT12.out HF.out.good (by omega)).mono ?_; rintro e w13 ⟨Aw, cw, rfl, hOw, hb⟩
      have HK13 := Lib.hid (C_own hOw).2.2; have HL13 := Lib.hid (own_le hOw)
      clear hOw
      have HT13 := Lib.hid (HT12.out.below hb); have HM13 := Lib.hid (HM12.out.below hb); have HO13 := Lib.hid (HO12.out.below hb); have HB13 := Lib.hid (HB12.out.trans (hb.mono HB12.out.size))
      clear hb
      go_wp2_with fail
      refine (rwrite_any w13 v4 xs HO13.out HF.out).mono ?_; rintro e w14 ⟨Ar, cr, rfl, hlr, hKr, hb⟩
      have HK14 := Lib.hid (Kd.C_below HK13.out hb); have HR14 := Lib.hid hKr
      clear hKr
      have HT14 := Lib.hid (HT13.out.below hb); have HM14 := Lib.hid (HM13.out.below hb); have HO14 := Lib.hid (HO13.out.below hb); have HB14 := Lib.hid (HB13.out.trans (hb.mono HB13.out.size))
      clear hb
      go_wp2_with fail
      refine (bsame_any w14 Aw Ar cw cr (wrL xs) HK14.out HL13.out HR14.out hlr (wrL_len HF.out.good (by omega))).mono ?_; rintro e w15 ⟨rfl, hb⟩
      have HT15 := Lib.hid (HT14.out.below hb); have HM15 := Lib.hid (HM14.out.below hb); have HO15 := Lib.hid (HO14.out.below hb); have HB15 := Lib.hid (HB14.out.trans (hb.mono HB14.out.size))
      clear hb
      go_wp2_with fail
      go_ret
      exact ⟨rfl, HB15.out⟩

theorem plays_row (W : World) (ops : List S75) (A : Option Addr) (c : Nat) (hc : ops.length ≤ c) (_ : A = none → c = 0) (hC : k75.C W A ops.length ops) (hL : ops.length ≤ maxLen) (hG : ∀ o ∈ ops, goodOp o) (a : Int) (ha : (Lit.int .i64 a).wf = true) :
    Calls Try.prog 6 #[.slice A ops.length c, .int .i64 a] W fun e w' => e = .returned (.bool true) ∧ Below W.heap.size W w' :=
  plays_core W ops A c hc hC (by unfold maxLen at hL; omega) (goodOp.w hG) a (w64_of ha)

end Go.Proofs.Ytmdacfgofilbdaa.Led
