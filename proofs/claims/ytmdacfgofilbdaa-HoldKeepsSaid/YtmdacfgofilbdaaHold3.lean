/- hold: the purse's functions. -/
import Derived.Test.YtmdacfgofilbdaaLed2
import Derived.Deep.RegionWith
import Derived.Deep.RegionHeld3
import Derived.Deep.AppendLies
import Derived.Deep.RegionLaw
set_option linter.unusedSimpArgs false
set_option linter.unusedVariables false
namespace Go.Proofs.Ytmdacfgofilbdaa.Led
open Go.RowKit Go.Proofs.Ytmdacfgofilbdaa.TabL Go.Proofs.YtmdacfgofilbdaaW.PrintWords Go.Proofs.Ytmdacfgofilbdaa.PHoldPlays
open Go.Proofs.Ytmdacfgofilbdaa.TabB (ltI lin getV TMg)
attribute [local go_sem] Oper.semAt_some

theorem freeA_w (p : Int) : w64 (freeA p) := by unfold w64 freeA; split; have := party_bnd ‹_›; omega; omega
theorem holdA_w (p : Int) : w64 (holdA p) := by unfold w64 holdA; split; have := party_bnd ‹_›; omega; omega
set_option maxRecDepth 100000 in
set_option maxHeartbeats 4000000 in
theorem has_any (W : World) (p : Nat) (xs : Bs) (who : Int) {tt : TypeId} (htt : tt ≠ tN) (h : TMg tt W p xs) (hs : Sd ltI xs) :
    Calls Try.prog 17 #[.pointer (some ⟨p, 0, none⟩), .int .i64 who] W fun e w' => e = .returned (.int .i64 (getV xs (freeA who))) ∧ Below W.heap.size W w' := by
  go_enter Try.func17, Try.ntmps17
  go_wp2_with fail
  go_region_with ((first
    | (go_at_call 37; refine (balance_any w1 p xs _ htt hT1 hs).mono ?_; rintro e w2 ⟨rfl, rfl⟩)
    | (go_at_call 47; refine (free_any W.drew who).mono ?_; rintro e w1 ⟨rfl, hb1⟩; have hB1 : Below W.heap.size W w1 := ((Below.refl _ W).drew).trans (hb1.mono (Nat.le_refl _)); have hT1 := h.below hB1)))
  go_wp2_with fail
  go_ret
  exact ⟨rfl, hB1⟩
set_option maxRecDepth 100000 in
set_option maxHeartbeats 4000000 in
theorem held_any (W : World) (p : Nat) (xs : Bs) (who : Int) {tt : TypeId} (htt : tt ≠ tN) (h : TMg tt W p xs) (hs : Sd ltI xs) :
    Calls Try.prog 18 #[.pointer (some ⟨p, 0, none⟩), .int .i64 who] W fun e w' => e = .returned (.int .i64 (getV xs (holdA who))) ∧ Below W.heap.size W w' := by
  go_enter Try.func18, Try.ntmps18
  go_wp2_with fail
  go_region_with ((first
    | (go_at_call 37; refine (balance_any w1 p xs _ htt hT1 hs).mono ?_; rintro e w2 ⟨rfl, rfl⟩)
    | (go_at_call 48; refine (hold_any W.drew who).mono ?_; rintro e w1 ⟨rfl, hb1⟩; have hB1 : Below W.heap.size W w1 := ((Below.refl _ W).drew).trans (hb1.mono (Nat.le_refl _)); have hT1 := h.below hB1)))
  go_wp2_with fail
  go_ret
  exact ⟨rfl, hB1⟩
theorem w64c {a : Int} (h : -9223372036854775808 ≤ a) (h2 : a ≤ 9223372036854775807) : w64 a := ⟨h, h2⟩
set_option maxRecDepth 100000 in
set_option maxHeartbeats 4000000 in
theorem deposit_any (W : World) (p : Nat) (xs : Bs) (who n : Int) {tt : TypeId} (htt : tt ≠ tN) (h : TMg tt W p xs) (hs : Sd ltI xs) (hl : xs.length < 1000000000) (hb : Bnd xs) :
    Calls Try.prog 22 #[.pointer (some ⟨p, 0, none⟩), .int .i64 who, .int .i64 n] W fun e w' => e = .returned (.int .i64 (moveE (getV xs) (0, freeA who, n))) ∧ TMg tt w' p (moveL xs (0, freeA who, n)) ∧ W.grownBy w' (some p) := by
  go_enter Try.func22, Try.ntmps22
  go_wp2_with fail
  go_region_with ((first
    | (go_at_call 44; refine (move_any w1 p xs _ _ n htt hT1 hs hl hb (w64c (by decide) (by decide)) (freeA_w who)).mono ?_; rintro e w2 ⟨rfl, hT2, hg2⟩)
    | (go_at_call 47; refine (free_any W.drew who).mono ?_; rintro e w1 ⟨rfl, hb1⟩; have hB1 : Below W.heap.size W w1 := ((Below.refl _ W).drew).trans (hb1.mono (Nat.le_refl _)); have hT1 := h.below hB1)))
  go_wp2_with fail
  go_ret
  exact ⟨rfl, hT2, gb_below hB1 hg2⟩
set_option maxRecDepth 100000 in
set_option maxHeartbeats 4000000 in
theorem withdraw_any (W : World) (p : Nat) (xs : Bs) (who n : Int) {tt : TypeId} (htt : tt ≠ tN) (h : TMg tt W p xs) (hs : Sd ltI xs) (hl : xs.length < 1000000000) (hb : Bnd xs) :
    Calls Try.prog 23 #[.pointer (some ⟨p, 0, none⟩), .int .i64 who, .int .i64 n] W fun e w' => e = .returned (.int .i64 (moveE (getV xs) (freeA who, 0, n))) ∧ TMg tt w' p (moveL xs (freeA who, 0, n)) ∧ W.grownBy w' (some p) := by
  go_enter Try.func23, Try.ntmps23
  go_wp2_with fail
  go_region_with ((first
    | (go_at_call 44; refine (move_any w1 p xs _ _ n htt hT1 hs hl hb (freeA_w who) (w64c (by decide) (by decide))).mono ?_; rintro e w2 ⟨rfl, hT2, hg2⟩)
    | (go_at_call 47; refine (free_any W.drew who).mono ?_; rintro e w1 ⟨rfl, hb1⟩; have hB1 : Below W.heap.size W w1 := ((Below.refl _ W).drew).trans (hb1.mono (Nat.le_refl _)); have hT1 := h.below hB1)))
  go_wp2_with fail
  go_ret
  exact ⟨rfl, hT2, gb_below hB1 hg2⟩
set_option maxRecDepth 100000 in
set_option maxHeartbeats 4000000 in
theorem pay_any (W : World) (p : Nat) (xs : Bs) (who n : Int) {tt : TypeId} (htt : tt ≠ tN) (h : TMg tt W p xs) (hs : Sd ltI xs) (hl : xs.length < 1000000000) (hb : Bnd xs) :
    Calls Try.prog 24 #[.pointer (some ⟨p, 0, none⟩), .int .i64 who, .int .i64 n] W fun e w' => e = .returned (.int .i64 (moveE (getV xs) (holdA who, 1, n))) ∧ TMg tt w' p (moveL xs (holdA who, 1, n)) ∧ W.grownBy w' (some p) := by
  go_enter Try.func24, Try.ntmps24
  go_wp2_with fail
  go_region_with ((first
    | (go_at_call 44; refine (move_any w1 p xs _ _ n htt hT1 hs hl hb (holdA_w who) (w64c (by decide) (by decide))).mono ?_; rintro e w2 ⟨rfl, hT2, hg2⟩)
    | (go_at_call 48; refine (hold_any W.drew who).mono ?_; rintro e w1 ⟨rfl, hb1⟩; have hB1 : Below W.heap.size W w1 := ((Below.refl _ W).drew).trans (hb1.mono (Nat.le_refl _)); have hT1 := h.below hB1)))
  go_wp2_with fail
  go_ret
  exact ⟨rfl, hT2, gb_below hB1 hg2⟩
set_option maxRecDepth 100000 in
set_option maxHeartbeats 4000000 in
theorem sold_any (W : World) (p : Nat) (xs : Bs) {tt : TypeId} (htt : tt ≠ tN) (h : TMg tt W p xs) (hs : Sd ltI xs) :
    Calls Try.prog 21 #[.pointer (some ⟨p, 0, none⟩)] W fun e w' => e = .returned (.int .i64 (getV xs 1)) ∧ W = w' := by
  go_enter Try.func21, Try.ntmps21
  go_wp2_with fail
  refine (balance_any W p xs _ htt h hs).mono ?_; rintro e w2 ⟨rfl, rfl⟩
  go_wp2_with fail
  go_ret
  exact ⟨rfl, rfl⟩
set_option maxRecDepth 100000 in
set_option maxHeartbeats 4000000 in
theorem worth_any (W : World) (p : Nat) (xs : Bs) {tt : TypeId} (htt : tt ≠ tN) (h : TMg tt W p xs) (hs : Sd ltI xs) (hb : Bnd xs) :
    Calls Try.prog 27 #[.pointer (some ⟨p, 0, none⟩)] W fun e w' => e = .returned (.int .i64 (-(getV xs 0))) ∧ W = w' := by
  have BA := balance_any W p xs 0 htt h hs
  have h0 := hb 0
  obtain ⟨v, hv⟩ : ∃ v, getV xs 0 = v := ⟨_, rfl⟩
  rw [hv] at BA h0 ⊢
  have q1 : -9223372036854775808 ≤ -v := by omega
  have q2 : -v ≤ 9223372036854775807 := by omega
  have hw : wrap64 (-v) = -v := by unfold wrap64; omega
  clear hv hb
  go_enter Try.func27, Try.ntmps27
  go_wp2_with fail
  refine BA.mono ?_; rintro e w2 ⟨rfl, rfl⟩
  go_wp2_with fail
  go_ret
  refine ⟨?_, rfl⟩
  simp [hw]
set_option maxRecDepth 100000 in
set_option maxHeartbeats 4000000 in
theorem ledger_any (W : World) (p : Nat) (xs : Bs) {tt : TypeId} (h : TMg tt W p xs) :
    Calls Try.prog 15 #[.pointer (some ⟨p, 0, none⟩)] W fun e w' => ∃ c : Nat, e = .returned (.pointer (some ⟨c, 0, none⟩)) ∧ W.heap.size ≤ c ∧ TMg tL w' c xs ∧ Below W.heap.size W w' := by
  go_enter Try.func15, Try.ntmps15
  go_wp2_with fail
  refine (clone_any W p xs h).mono ?_; rintro e w1 ⟨c, rfl, hc, hT, hB⟩
  go_wp2_with fail
  go_ret
  exact ⟨c, rfl, hc, hT, hB⟩
abbrev tP : TypeId := 32
set_option maxRecDepth 100000 in
set_option maxHeartbeats 4000000 in
theorem of_any (W : World) (p : Nat) (xs : Bs) {tt : TypeId} (h : TMg tt W p xs) :
    Calls Try.prog 16 #[.pointer (some ⟨p, 0, none⟩)] W fun e w' => ∃ c : Nat, e = .returned (.pointer (some ⟨c, 0, none⟩)) ∧ W.heap.size ≤ c ∧ TMg tP w' c xs ∧ Below W.heap.size W w' := by
  go_enter Try.func16, Try.ntmps16
  go_wp2_with fail
  refine (clone_any W p xs h).mono ?_; rintro e w1 ⟨c, rfl, hc, ⟨q, T, hb, hT, hx⟩, hB⟩
  have c0 := hb.cell (i := 0) rfl
  have hz := hB.size
  have hal : Below w1.heap.size w1 (w1.alloc (.cells #[.pointer q] 32)) := (Below.refl _ w1).alloc (Nat.le_refl _) _
  have HT := Lib.hid (hT.kept (KT.below hal)); have HB := Lib.hid (hB.trans (hal.mono hB.size)); have HX := Lib.hid hx
  clear hT hB hal hx hb
  go_wp2_with fail
  go_ret
  exact ⟨w1.heap.size, rfl, hz, ⟨q, T, Blk.new w1 [.pointer q] _, HT.out, HX.out⟩, HB.out⟩

end Go.Proofs.Ytmdacfgofilbdaa.Led

/- hold: Set, Refund. -/
set_option linter.unusedSimpArgs false
set_option linter.unusedVariables false
namespace Go.Proofs.Ytmdacfgofilbdaa.Led
open Go.RowKit Go.Proofs.Ytmdacfgofilbdaa.TabL Go.Proofs.YtmdacfgofilbdaaW.PrintWords Go.Proofs.Ytmdacfgofilbdaa.PHoldPlays
open Go.Proofs.Ytmdacfgofilbdaa.TabB (ltI lin getV TMg)
attribute [local go_sem] Oper.semAt_some

/-- what Set lets go: the move -/
def setM (xs : Bs) (who n : Int) : Mv := if 0 ≤ n - getV xs (holdA who) then (freeA who, holdA who, n - getV xs (holdA who)) else (holdA who, freeA who, -(n - getV xs (holdA who)))
def setE (xs : Bs) (who n : Int) : Int := if partyA who = false ∨ rightM n = false then 1 else moveE (getV xs) (setM xs who n)
def setB (xs : Bs) (who n : Int) : Bs := if partyA who = false ∨ rightM n = false then xs else moveL xs (setM xs who n)
set_option maxRecDepth 100000 in
set_option maxHeartbeats 8000000 in
theorem hset_any (W : World) (p : Nat) (xs : Bs) (who n : Int) {tt : TypeId} (htt : tt ≠ tN) (h : TMg tt W p xs) (hs : Sd ltI xs) (hl : xs.length < 1000000000) (hb : Bnd xs) :
    Calls Try.prog 19 #[.pointer (some ⟨p, 0, none⟩), .int .i64 who, .int .i64 n] W fun e w' => e = .returned (.int .i64 (setE xs who n)) ∧ TMg tt w' p (setB xs who n) ∧ W.grownBy w' (some p) := by
  cases hp : partyA who with
  | false =>
    have e1 : setE xs who n = 1 := by unfold setE; rw [if_pos (.inl hp)]
    have e2 : setB xs who n = xs := by unfold setB; rw [if_pos (.inl hp)]
    have e3 : freeA who = -1 := by unfold freeA; rw [hp]; rfl
    rw [e1, e2]
    go_enter Try.func19, Try.ntmps19
    go_wp2_with fail
    refine (free_any W who).mono ?_; rintro e w1 ⟨rfl, hb1⟩
    rw [e3]
    go_wp2_with fail
    refine (hold_any w1 who).mono ?_; rintro e w2 ⟨rfl, hb2⟩
    have hB2 := hb1.trans (hb2.mono hb1.size)
    clear hb1 hb2
    go_wp2_with fail
    go_ret
    exact ⟨rfl, h.below hB2, below_gb hB2⟩
  | true =>
    have hpb := party_bnd hp
    have e3 : freeA who = 2 * who := by unfold freeA; rw [hp]; rfl
    have e4 : ¬ 2 * who < 0 := by omega
    cases hr : rightM n with
    | false =>
      have e1 : setE xs who n = 1 := by unfold setE; rw [if_pos (.inr hr)]
      have e2 : setB xs who n = xs := by unfold setB; rw [if_pos (.inr hr)]
      rw [e1, e2]
      go_enter Try.func19, Try.ntmps19
      go_wp2_with fail
      refine (free_any W who).mono ?_; rintro e w1 ⟨rfl, hb1⟩
      rw [e3]
      go_wp2_with fail
      refine (hold_any w1 who).mono ?_; rintro e w2 ⟨rfl, hb2⟩
      have hB2 := hb1.trans (hb2.mono hb1.size)
      clear hb1 hb2
      go_wp2_with fail
      refine (rightM_any w2 n).mono ?_; rintro e w3 ⟨rfl, hb3⟩
      rw [hr]
      have hB3 := hB2.trans (hb3.mono hB2.size)
      clear hB2 hb3
      go_wp2_with fail
      go_ret
      exact ⟨rfl, h.below hB3, below_gb hB3⟩
    | true =>
      have hn : 0 ≤ n ∧ n ≤ 1099511627776 := by unfold rightM at hr; simpa using hr
      have hc : ¬ (partyA who = false ∨ rightM n = false) := by rw [hp, hr]; simp
      have e1 : setE xs who n = moveE (getV xs) (setM xs who n) := by unfold setE; rw [if_neg hc]
      have e2 : setB xs who n = moveL xs (setM xs who n) := by unfold setB; rw [if_neg hc]
      rw [e1, e2]
      unfold setM
      have hbh := hb (holdA who)
      have HE := fun w hw => held_any w p xs who htt hw hs
      obtain ⟨bh, hbhe⟩ : ∃ bh, getV xs (holdA who) = bh := ⟨_, rfl⟩
      rw [hbhe] at hbh
      simp only [hbhe] at HE
      rw [hbhe]
      have HHE := Lib.hid HE
      clear HE e1 e2 hc hbhe
      have hfw := freeA_w who
      have hhw := holdA_w who
      have MV := fun w hw f t m hf ht => move_any w p xs f t m htt hw hs hl hb hf ht
      have HMV := Lib.hid MV
      clear MV
      obtain ⟨ha, hha⟩ : ∃ ha, holdA who = ha := ⟨_, rfl⟩
      rw [e3] at hfw ⊢
      rw [hha] at hhw ⊢
      have HHA := Lib.hid hha
      clear hha
      have q1 : -9223372036854775808 ≤ n - bh := by omega
      have q2 : n - bh ≤ 9223372036854775807 := by omega
      by_cases hm : 0 ≤ n - bh
      · rw [if_pos hm]
        go_enter Try.func19, Try.ntmps19
        go_wp2_with fail
        refine (free_any W who).mono ?_; rintro e w1 ⟨rfl, hb1⟩
        rw [e3]
        go_wp2_with fail
        refine (hold_any w1 who).mono ?_; rintro e w2 ⟨rfl, hb2⟩
        rw [HHA.out]
        have hB2 := hb1.trans (hb2.mono hb1.size)
        clear hb1 hb2
        go_wp2_with fail
        refine (rightM_any w2 n).mono ?_; rintro e w3 ⟨rfl, hb3⟩
        rw [hr]
        have hB3 := hB2.trans (hb3.mono hB2.size)
        clear hB2 hb3
        go_wp2_with fail
        refine (HHE.out w3 (h.below hB3)).mono ?_; rintro e w4 ⟨rfl, hb4⟩
        have hB4 := hB3.trans (hb4.mono hB3.size)
        clear hB3 hb4
        go_wp2_with fail
        refine (HMV.out w4 (h.below hB4) _ _ _ hfw hhw).mono ?_; rintro e w5 ⟨rfl, hT5, hg5⟩
        go_wp2_with fail
        go_ret
        exact ⟨rfl, hT5, gb_below hB4 hg5⟩
      · rw [if_neg hm]
        have q3 : -9223372036854775808 ≤ -(n - bh) := by omega
        have q4 : -(n - bh) ≤ 9223372036854775807 := by omega
        have hw : wrap64 (-(n - bh)) = -(n - bh) := by unfold wrap64; omega
        go_enter Try.func19, Try.ntmps19
        go_wp2_with fail
        refine (free_any W who).mono ?_; rintro e w1 ⟨rfl, hb1⟩
        rw [e3]
        go_wp2_with fail
        refine (hold_any w1 who).mono ?_; rintro e w2 ⟨rfl, hb2⟩
        rw [HHA.out]
        have hB2 := hb1.trans (hb2.mono hb1.size)
        clear hb1 hb2
        go_wp2_with fail
        refine (rightM_any w2 n).mono ?_; rintro e w3 ⟨rfl, hb3⟩
        rw [hr]
        have hB3 := hB2.trans (hb3.mono hB2.size)
        clear hB2 hb3
        go_wp2_with fail
        refine (HHE.out w3 (h.below hB3)).mono ?_; rintro e w4 ⟨rfl, hb4⟩
        have hB4 := hB3.trans (hb4.mono hB3.size)
        clear hB3 hb4
        have HMV2 := Lib.hid (HMV.out w4 (h.below hB4) ha (2 * who) (-(n - bh)) hhw hfw)
        go_wp2_with fail
        refine Calls.mono (by first | exact HMV2.out | simpa using HMV2.out | (rw [hw]; exact HMV2.out)) ?_; rintro e w5 ⟨rfl, hT5, hg5⟩
        go_wp2_with fail
        go_ret
        exact ⟨rfl, hT5, gb_below hB4 hg5⟩

def refM (xs : Bs) (who : Int) : Mv := (holdA who, freeA who, getV xs (holdA who))
set_option maxRecDepth 100000 in
set_option maxHeartbeats 8000000 in
theorem refund_any (W : World) (p : Nat) (xs : Bs) (who : Int) {tt : TypeId} (htt : tt ≠ tN) (h : TMg tt W p xs) (hs : Sd ltI xs) (hl : xs.length < 1000000000) (hb : Bnd xs) :
    Calls Try.prog 25 #[.pointer (some ⟨p, 0, none⟩), .int .i64 who] W fun e w' => e = .returned (.tuple #[.int .i64 (if moveE (getV xs) (refM xs who) = 0 then getV xs (holdA who) else 0), .int .i64 (moveE (getV xs) (refM xs who))]) ∧ TMg tt w' p (moveL xs (refM xs who)) ∧ W.grownBy w' (some p) := by
  have HE := held_any W p xs who htt h hs
  have hMV := fun w hw m => move_any w p xs (holdA who) (freeA who) m htt hw hs hl hb (holdA_w who) (freeA_w who)
  unfold refM
  obtain ⟨bh, hbhe⟩ : ∃ bh, getV xs (holdA who) = bh := ⟨_, rfl⟩
  rw [hbhe] at HE ⊢
  obtain ⟨ev, hev⟩ : ∃ ev, moveE (getV xs) (holdA who, freeA who, bh) = ev := ⟨_, rfl⟩
  have hMV2 := fun w hw => hMV w hw bh
  simp only [hev] at hMV2
  rw [hev]
  have HMV := Lib.hid hMV2
  clear hMV hMV2 hev hbhe hb
  go_enter Try.func25, Try.ntmps25
  go_wp2_with fail
  refine HE.mono ?_; rintro e w1 ⟨rfl, hB1⟩
  go_wp2_with fail
  go_region_with ((first
    | (go_at_call 44; refine (HMV.out w3 (h.below hB3)).mono ?_; rintro e w4 ⟨rfl, hT4, hg4⟩)
    | (go_at_call 47; refine (free_any w2 who).mono ?_; rintro e w3 ⟨rfl, hb3⟩; have hB3 := hB2.trans (hb3.mono hB2.size))
    | (go_at_call 48; refine (hold_any w1.drew who).mono ?_; rintro e w2 ⟨rfl, hb2⟩; have hB2 : Below W.heap.size W w2 := hB1.drew.trans (hb2.mono hB1.size))))
  by_cases he : ev = 0
  · subst he
    go_wp2_with fail
    go_ret2
    exact ⟨rfl, hT4, gb_below hB3 hg4⟩
  · go_wp2_with fail
    go_ret2
    exact ⟨by first | rfl | (rw [if_neg he]; rfl), hT4, gb_below hB3 hg4⟩

end Go.Proofs.Ytmdacfgofilbdaa.Led

/- hold: Settle. -/
set_option linter.unusedSimpArgs false
set_option linter.unusedVariables false
namespace Go.Proofs.Ytmdacfgofilbdaa.Led
open Go.RowKit Go.Proofs.Ytmdacfgofilbdaa.TabL Go.Proofs.YtmdacfgofilbdaaW.PrintWords Go.Proofs.Ytmdacfgofilbdaa.PHoldPlays
open Go.Proofs.Ytmdacfgofilbdaa.TabB (ltI lin getV TMg)
attribute [local go_sem] Oper.semAt_some

theorem infoM : (Try.prog.info? 78).map (fun i => (i.zero, i.size, i.bytes)) = some (some (.agg #[.int .i64 0, .int .i64 0, .int .i64 0]), 3, 24) := by kernel_rfl
theorem cM_length (m : Mv) : (cM m).length = 3 := rfl
def cB (b : Int × Int) : List Value := [.int .i64 b.1, .int .i64 b.2]
/-- the moves of bills -/
def bms (bills : List (Int × Int)) : List Mv := bills.map (fun b => (holdA b.1, 1, b.2))
theorem rd_bill {W : World} {n₀ : Nat} {sv : Value} {ops : List (Int × Int)} {j : Nat} {o : Int × Int} (hR : Rd cB 2 n₀ W sv ops) (hj : ops[j]? = some o) : ∃ b off c, sv = .slice (some ⟨b, off, none⟩) ops.length c ∧ b < n₀ ∧ W.cell? ⟨b, off + j * 2, none⟩ = some (.int .i64 o.1) ∧ W.cell? ⟨b, off + j * 2 + 1, none⟩ = some (.int .i64 o.2) := by
  rcases hR with ⟨a, cap, rfl, rfl⟩ | ⟨b, off, cap, rfl, hlt, hc⟩
  · simp at hj
  · exact ⟨b, off, cap, rfl, hlt, hc j _ hj 0 _ rfl, hc j _ hj 1 _ rfl⟩
set_option maxRecDepth 100000 in
set_option maxHeartbeats 8000000 in
theorem settle_any (W : World) (p : Nat) (xs : Bs) (A : Option Addr) (c : Nat) (bills : List (Int × Int)) {tt : TypeId} (htt : tt ≠ tN) (h : TMg tt W p xs) (hs : Sd ltI xs) (hl : xs.length < 100000000) (hn : bills.length ≤ 100000) (hb : Bnd xs) (hR : Rd cB 2 W.heap.size W (.slice A bills.length c) bills) :
    Calls Try.prog 26 #[.pointer (some ⟨p, 0, none⟩), .slice A bills.length c] W fun e w' => e = .returned (.int .i64 (movesL xs (bms bills)).1) ∧ TMg tt w' p (allL xs (bms bills)) ∧ W.grownBy w' (some p) := by
  have HR := Lib.hid hR
  obtain ⟨i0, hi0, hiz0, hiz1, hiz2⟩ := info_parts infoM
  have hml : (bms bills).length = bills.length := by unfold bms; simp
  clear hR
  go_enter Try.func26, Try.ntmps26
  go_wp2_with fail
  go_loopw [5, 10] (fun v i wr => ∃ k : Nat, i = .int .i64 (k : Int) ∧ k ≤ bills.length ∧ wr.ownsRow W.heap.size 78 3 v k (cellsOf cM ((bms bills).take k)) ∧ Below W.heap.size W wr)
    (fun _ i _ => bills.length - (match i with | .int _ n => n.toNat | _ => 0))
  case atStart => exact ⟨0, rfl, Nat.zero_le _, World.ownsRow_nil _ _ _ _, Below.refl _ _⟩
  case round =>
    obtain ⟨k, rfl, hk, hrow, hB⟩ := hrel
    by_cases hlt : k < bills.length
    · obtain ⟨⟨who, am⟩, hget⟩ : ∃ o, bills[k]? = some o := ⟨_, List.getElem?_eq_getElem hlt⟩
      obtain ⟨b, off, c1, e1, hlb, q0, q1⟩ := rd_bill (HR.out.below hB) hget
      obtain ⟨rfl, rfl⟩ : A = some ⟨b, off, none⟩ ∧ c = c1 := by injection e1 with e1 e2 e3; exact ⟨e1, e3⟩
      have htk : (bms bills).take (k + 1) = (bms bills).take k ++ [(holdA who, 1, am)] := by
        rw [List.take_succ_eq_append_getElem (by omega)]
        congr 1
        unfold bms
        rw [List.getElem_map, (List.getElem?_eq_some_iff.1 hget).2]
      simp only at q0 q1
      have hal : Below wr.heap.size wr (wr.alloc (.cells #[.int .i64 who, .int .i64 am] 57)) := (Below.refl _ wr).alloc (Nat.le_refl _) _
      have hbl := Blk.new wr [.int .i64 who, .int .i64 am] 57
      have HTK := Lib.hid htk; have HB := Lib.hid hB; have HROW := Lib.hid hrow
      have hzW := hB.size
      clear htk hget e1 hB hrow
      have c0 := hbl.cell (i := 0) rfl
      have c1' := hbl.cell (i := 1) rfl
      go_wp2_with fail
      have hrow2 := HROW.out.alloc (.cells #[.int .i64 who, .int .i64 am] 57)
      have hzr := hal.size
      obtain ⟨wa, hwa⟩ : ∃ wa, wr.alloc (.cells #[.int .i64 who, .int .i64 am] 57) = wa := ⟨_, rfl⟩
      rw [hwa] at hal c0 c1' hrow2 hzr ⊢
      have HAL := Lib.hid (HB.out.trans (hal.mono hzW))
      clear hal hbl hwa HROW HB
      have hzA := HAL.out.size
      go_region_law ((first
        | (refine step_append_lies _ (by rfl) _ _ _ (by rfl) W.heap.size 78 i0 _ 3 24 Try.underlying73 hi0 hiz0 hiz1 hiz2 rfl (by decide) u5 k (cellsOf cM ((bms bills).take k)) (by rfl) (hrow5.alloc _) ⟨w5.heap.size, 0, none⟩ 1 1 [.int .i64 (holdA who), .int .i64 1, .int .i64 am] (by rfl) (by rfl) (news_blk (Blk.new w5 [.int .i64 (holdA who), .int .i64 1, .int .i64 am] 78)) (by simp [Value.oneCell']) (by omega) (by unfold maxLen; omega) (by omega) (by simp; omega) (w5.heap.size + 1) (by simp) ?_; intro gg cap w6 hown6 hg6 hat6 hlt6)
        | (go_simp; go_at_call 48; refine (hold_any wa.drew who).mono ?_; rintro e w5 ⟨rfl, hb5⟩; have hrow5 := hrow2.kept (show wa.grownBy w5 none from ⟨hb5.os, hb5.tape, hb5.output, hb5.size, fun j hj _ => hb5.block j hj⟩) (Classical.em (u5.ownBlock = none)); have hB5 := HAL.out.trans (show Below W.heap.size wa w5 from (hb5.mono (show W.heap.size ≤ wa.drew.heap.size from hzA)).trans (Below.refl _ _) |> fun h => ⟨h.os, h.tape, h.output, h.size, h.block⟩); have hz5 : wa.heap.size ≤ w5.heap.size := hb5.size; have c15 : w5.cell? ⟨wr.heap.size, 1, none⟩ = some (.int .i64 am) := ((bcell (W := wa) (w1 := w5) ⟨hb5.os, hb5.tape, hb5.output, hb5.size, hb5.block⟩).1 wr.heap.size 1 (World.block_lt_of_cell? _ _ c0)).trans c1')))
      all_goals
        have hB6 := (hB5.alloc (by omega) (.cells #[.int .i64 (holdA who), .int .i64 1, .int .i64 am] 78)).grown hg6 (by simp; omega) (fun r e => (own_typ hrow5 r e).1)
        have HB6 := Lib.hid hB6; have HO6 := Lib.hid hown6
        clear hB6 hown6 hg6 hat6 hlt6 hrow5 hB5 hb5
        go_wp2_with fail
        go_roundw
        case rel => exact ⟨k + 1, by congr 1, by omega, by rw [HTK.out, cellsOf_append, cellsOf_one]; exact HO6.out, HB6.out⟩
        case measure => simp; omega
    · obtain rfl : k = bills.length := by omega
      rw [List.take_of_length_le (by omega)] at hrow
      obtain ⟨A5, c5, rfl⟩ := own_slice hrow
      have hRM : Rd cM 3 wr.heap.size wr (.slice A5 (bms bills).length c5) (bms bills) := by
        have h2 : wr.ownsRow W.heap.size 78 3 (.slice A5 (bms bills).length c5) (bms bills).length (cellsOf cM (bms bills)) := by rw [hml]; exact hrow
        exact Rd.of_own cM_length (0, 0, 0) h2
      have MS := moves_any wr p xs A5 c5 (bms bills) htt (h.below hB) hs hl (by omega) hb hRM (fun m hm => by
        unfold bms at hm
        obtain ⟨b, _, rfl⟩ := List.mem_map.1 hm
        exact ⟨holdA_w _, by unfold w64; dsimp only; omega⟩)
      rw [hml] at MS
      have HMS := Lib.hid MS; have HB := Lib.hid hB
      clear MS hRM hrow hB
      go_wp2_with fail
      refine HMS.out.mono ?_; rintro e w9 ⟨rfl, hT9, hg9⟩
      go_wp2_with fail
      go_ret
      exact ⟨rfl, hT9, gb_below HB.out hg9⟩

end Go.Proofs.Ytmdacfgofilbdaa.Led
