/- hold: the document's purse functions, walked. -/
import Derived.Test.YtmdacfgofilbdaaHoldV
import Derived.Test.YtmdacfgofilbdaaWWords
import Derived.Deep.RegionWith
import Derived.Deep.RegionHeld3
set_option linter.unusedSimpArgs false
set_option linter.unusedVariables false
namespace Go.Proofs.Ytmdacfgofilbdaa.Led
open Go.RowKit Go.Proofs.Ytmdacfgofilbdaa.TabL Go.Proofs.YtmdacfgofilbdaaW.PrintWords Go.Proofs.Ytmdacfgofilbdaa.PHoldPlays
open Go.Proofs.Ytmdacfgofilbdaa.TabB (ltI lin getV TMg)

theorem PM.other {W W' : World} {v : Value} {l : List Mv} {p : Nat} (h : PM W v l) (hne : v.ownBlock ≠ some p) (hg : W.grownBy W' (some p)) : PM W' v l := by
  obtain ⟨A, c, rfl, h1, h2⟩ := h
  refine ⟨A, c, rfl, h1, h2.1, h2.2.1, fun hpos => ?_⟩
  obtain ⟨a, rfl, hr⟩ := h2.2.2 hpos
  have hb : a.block ≠ p := fun e => hne (by simp [Value.ownBlock, e])
  refine ⟨a, rfl, fun j x hx => ?_⟩
  obtain ⟨cs, hl, hk, hc⟩ := hr j x hx
  refine ⟨cs, hl, ?_, fun i u hu => ?_⟩
  · have := k90_open hk
    subst this
    exact k90_mk W' x
  · have h3 := hc i u hu
    have hbl : (a.add (j * k90.sz + i)).block = a.block := by unfold Addr.add; split <;> rfl
    rw [← h3]
    exact World.cell?_of_block (hg.block _ (World.block_lt_of_cell? _ _ h3) (by rw [hbl]; simpa using hb))
/-- a purse's own cell is written: the moves are read as before -/
theorem PM.put {W : World} {v : Value} {l : List Mv} {b n c : Nat} {t : TypeId} {A : Option Addr} (h : PM W v l) (hb : Blk W b t [.slice A n c]) (x : Value) : PM (W.setCell ⟨b, 0, none⟩ x) v l := by
  have hg : W.grownBy (W.setCell ⟨b, 0, none⟩ x) (some b) := grownBy_setAt W b 0 x
  cases l with
  | nil =>
    obtain ⟨A, c, rfl, h1, h2⟩ := h
    exact ⟨A, c, rfl, h1, h2.1, h2.2.1, fun hpos => absurd hpos (by simp)⟩
  | cons q l =>
    obtain ⟨b', off, c', e, hc, -, -⟩ := h.at (j := 0) rfl
    refine h.other (fun hk => ?_) hg
    rw [e] at hk
    obtain rfl : b' = b := by simpa [Value.ownBlock] using hk
    have hc' : [Value.slice A n c][off + 0 * 3]? = some (.int .i64 q.1) := by
      have := cell_of_row W b' (off + 0 * 3) [Value.slice A n c].toArray t (0, 0) hb
      rw [this] at hc
      simpa using hc
    have hlt := (List.getElem?_eq_some_iff.1 hc').1
    have h0 : off + 0 * 3 = 0 := by simp at hlt; omega
    rw [h0] at hc'
    simp at hc'
theorem rgo_any (W : World) (v : Value) (ms : List Mv) (f t n : Int) (h : PM W v ms) (hg : Good ms) (hl : ms.length ≤ 1000000) :
    Calls Try.prog 84 #[.agg #[v], .int .i64 f, .int .i64 t, .int .i64 n] W fun e w' => ∃ v', e = .returned (.tuple #[.agg #[v'], .int .i64 (moveE (bal ms) (f, t, n))]) ∧ PM w' v' (tryL ms (f, t, n)) ∧ Below W.heap.size W w' := by
  have h0 := h
  obtain ⟨A, c, rfl, h1c, -⟩ := h0
  have hal : Below W.heap.size W ((W.alloc (.cells #[.slice A ms.length c] 35)).alloc (.cells #[.slice none 0 0] 35)) := ((Below.refl _ W).alloc (Nat.le_refl _) _).alloc (by simp) _
  have hB8 : Blk ((W.alloc (.cells #[.slice A ms.length c] 35)).alloc (.cells #[.slice none 0 0] 35)) (W.heap.size + 1) 35 [.slice none 0 0] := Blk.new2 W _ _ _
  have hP := h.below hal
  have HT := Lib.hid (try_any _ (.slice A ms.length c) ms f t n hP hg hl)
  have HAL := Lib.hid hal; have HB8 := Lib.hid hB8
  clear hP hB8 hal h
  go_enter Try.func84, Try.ntmps84
  go_wp2_with fail
  refine HT.out.mono ?_; rintro e w1 ⟨v', rfl, hP', hb⟩
  have hB8' := HB8.out.belowS hb
  have hB1 := HAL.out.trans (hb.mono HAL.out.size)
  have c8 := hB8'.cell (i := 0) rfl
  have f8 := hB8'.frozen 0
  have HP' := Lib.hid (hP'.put hB8' v')
  have HS := Lib.hid (hB8'.set 0 v')
  have HB1 := Lib.hid (hB1.setCell (p := ⟨W.heap.size + 1, 0, none⟩) (Nat.le_succ _) v')
  obtain ⟨A', c', rfl, -⟩ := hP'
  clear HT hB8' hB1 hb
  go_wp2_with fail
  exact bodyPost_ret (results_ct rfl _ _ (W.heap.size + 1) 35 _ (0, 0) _ rfl HS.out Try.underlying35 rfl (by kernel_rfl)) rfl ⟨_, rfl, HP'.out, HB1.out⟩
set_option maxHeartbeats 4000000 in
theorem rdep_any (W : World) (v : Value) (ms : List Mv) (who n : Int) (h : PM W v ms) (hg : Good ms) (hl : ms.length ≤ 1000000) :
    Calls Try.prog 54 #[.agg #[v], .int .i64 who, .int .i64 n] W fun e w' => ∃ v', e = .returned (.tuple #[.agg #[v'], .int .i64 (moveE (bal ms) (0, freeA who, n))]) ∧ PM w' v' (tryL ms (0, freeA who, n)) ∧ Below W.heap.size W w' := by
  have h0 := h
  obtain ⟨A, c, rfl, h1c, -⟩ := h0
  have hal : Below W.heap.size W ((W.alloc (.cells #[.slice A ms.length c] 35)).alloc (.cells #[.slice none 0 0] 35)) := ((Below.refl _ W).alloc (Nat.le_refl _) _).alloc (by simp) _
  have hB8 : Blk ((W.alloc (.cells #[.slice A ms.length c] 35)).alloc (.cells #[.slice none 0 0] 35)) (W.heap.size + 1) 35 [.slice none 0 0] := Blk.new2 W _ _ _
  have hB3 : Blk ((W.alloc (.cells #[.slice A ms.length c] 35)).alloc (.cells #[.slice none 0 0] 35)) W.heap.size 35 [.slice A ms.length c] := (Blk.new W _ _).alloc _
  have hP := h.below hal
  have HAL := Lib.hid hal; have HB8 := Lib.hid hB8; have HB3 := Lib.hid hB3; have HP := Lib.hid hP
  clear hP hB8 hB3 hal h
  cases hp : partyA who with
  | false =>
    have e1 : freeA who = -1 := by unfold freeA; rw [hp]; rfl
    rw [e1, moveE_r, tryL_one moveE_r]
    clear e1
    go_enter Try.func54, Try.ntmps54
    go_wp2_with fail
    refine (rparty_any _ who).mono ?_; rintro e w1 ⟨rfl, hb1⟩
    rw [hp]
    have b8 := HB8.out.belowS hb1
    have b3 := HB3.out.belowS hb1
    have c8 := b8.cell (i := 0) rfl
    have f8 := b8.frozen 0
    have c3 := b3.cell (i := 0) rfl
    have HP' := Lib.hid ((HP.out.below hb1).put b8 (.slice A ms.length c))
    have HS := Lib.hid (b8.set 0 (.slice A ms.length c))
    have HB1 := Lib.hid ((HAL.out.trans (hb1.mono HAL.out.size)).setCell (p := ⟨W.heap.size + 1, 0, none⟩) (Nat.le_succ _) (.slice A ms.length c))
    clear hb1 b8 b3 hp
    go_wp2_with fail
    exact bodyPost_ret (results_ct rfl _ _ (W.heap.size + 1) 35 _ (0, 0) _ rfl HS.out Try.underlying35 rfl (by kernel_rfl)) rfl ⟨_, rfl, HP'.out, HB1.out⟩
  | true =>
    have hpb := party_bnd hp
    have e1 : freeA who = 2 * who := by unfold freeA; rw [hp]; rfl
    rw [e1]
    clear e1
    go_enter Try.func54, Try.ntmps54
    go_wp2_with fail
    refine (rparty_any _ who).mono ?_; rintro e w1 ⟨rfl, hb1⟩
    rw [hp]
    have b3 := HB3.out.belowS hb1
    have c3 := b3.cell (i := 0) rfl
    have B8 := Lib.hid (HB8.out.belowS hb1)
    have HT := Lib.hid (rgo_any w1 (.slice A ms.length c) ms 0 (2 * who) n (HP.out.below hb1) hg hl)
    have HB1 := Lib.hid (HAL.out.trans (hb1.mono HAL.out.size))
    clear hb1 b3 hp
    go_wp2_with fail
    refine HT.out.mono ?_; rintro e w2 ⟨v', rfl, hP', hb2⟩
    have hB8' := B8.out.belowS hb2
    have c8 := hB8'.cell (i := 0) rfl
    have f8 := hB8'.frozen 0
    have HP' := Lib.hid (hP'.put hB8' v')
    have HS := Lib.hid (hB8'.set 0 v')
    have HB2 := Lib.hid ((HB1.out.trans (hb2.mono HB1.out.size)).setCell (p := ⟨W.heap.size + 1, 0, none⟩) (Nat.le_succ _) v')
    obtain ⟨A', c', rfl, -⟩ := hP'
    clear HT hB8' hb2
    go_wp2_with fail
    exact bodyPost_ret (results_ct rfl _ _ (W.heap.size + 1) 35 _ (0, 0) _ rfl HS.out Try.underlying35 rfl (by kernel_rfl)) rfl ⟨_, rfl, HP'.out, HB2.out⟩
set_option maxHeartbeats 4000000 in
theorem rwit_any (W : World) (v : Value) (ms : List Mv) (who n : Int) (h : PM W v ms) (hg : Good ms) (hl : ms.length ≤ 1000000) :
    Calls Try.prog 55 #[.agg #[v], .int .i64 who, .int .i64 n] W fun e w' => ∃ v', e = .returned (.tuple #[.agg #[v'], .int .i64 (moveE (bal ms) (freeA who, 0, n))]) ∧ PM w' v' (tryL ms (freeA who, 0, n)) ∧ Below W.heap.size W w' := by
  have h0 := h
  obtain ⟨A, c, rfl, h1c, -⟩ := h0
  have hal : Below W.heap.size W ((W.alloc (.cells #[.slice A ms.length c] 35)).alloc (.cells #[.slice none 0 0] 35)) := ((Below.refl _ W).alloc (Nat.le_refl _) _).alloc (by simp) _
  have hB8 : Blk ((W.alloc (.cells #[.slice A ms.length c] 35)).alloc (.cells #[.slice none 0 0] 35)) (W.heap.size + 1) 35 [.slice none 0 0] := Blk.new2 W _ _ _
  have hB3 : Blk ((W.alloc (.cells #[.slice A ms.length c] 35)).alloc (.cells #[.slice none 0 0] 35)) W.heap.size 35 [.slice A ms.length c] := (Blk.new W _ _).alloc _
  have hP := h.below hal
  have HAL := Lib.hid hal; have HB8 := Lib.hid hB8; have HB3 := Lib.hid hB3; have HP := Lib.hid hP
  clear hP hB8 hB3 hal h
  cases hp : partyA who with
  | false =>
    have e1 : freeA who = -1 := by unfold freeA; rw [hp]; rfl
    rw [e1, moveE_l, tryL_one moveE_l]
    clear e1
    go_enter Try.func55, Try.ntmps55
    go_wp2_with fail
    refine (rparty_any _ who).mono ?_; rintro e w1 ⟨rfl, hb1⟩
    rw [hp]
    have b8 := HB8.out.belowS hb1
    have b3 := HB3.out.belowS hb1
    have c8 := b8.cell (i := 0) rfl
    have f8 := b8.frozen 0
    have c3 := b3.cell (i := 0) rfl
    have HP' := Lib.hid ((HP.out.below hb1).put b8 (.slice A ms.length c))
    have HS := Lib.hid (b8.set 0 (.slice A ms.length c))
    have HB1 := Lib.hid ((HAL.out.trans (hb1.mono HAL.out.size)).setCell (p := ⟨W.heap.size + 1, 0, none⟩) (Nat.le_succ _) (.slice A ms.length c))
    clear hb1 b8 b3 hp
    go_wp2_with fail
    exact bodyPost_ret (results_ct rfl _ _ (W.heap.size + 1) 35 _ (0, 0) _ rfl HS.out Try.underlying35 rfl (by kernel_rfl)) rfl ⟨_, rfl, HP'.out, HB1.out⟩
  | true =>
    have hpb := party_bnd hp
    have e1 : freeA who = 2 * who := by unfold freeA; rw [hp]; rfl
    rw [e1]
    clear e1
    go_enter Try.func55, Try.ntmps55
    go_wp2_with fail
    refine (rparty_any _ who).mono ?_; rintro e w1 ⟨rfl, hb1⟩
    rw [hp]
    have b3 := HB3.out.belowS hb1
    have c3 := b3.cell (i := 0) rfl
    have B8 := Lib.hid (HB8.out.belowS hb1)
    have HT := Lib.hid (rgo_any w1 (.slice A ms.length c) ms (2 * who) 0 n (HP.out.below hb1) hg hl)
    have HB1 := Lib.hid (HAL.out.trans (hb1.mono HAL.out.size))
    clear hb1 b3 hp
    go_wp2_with fail
    refine HT.out.mono ?_; rintro e w2 ⟨v', rfl, hP', hb2⟩
    have hB8' := B8.out.belowS hb2
    have c8 := hB8'.cell (i := 0) rfl
    have f8 := hB8'.frozen 0
    have HP' := Lib.hid (hP'.put hB8' v')
    have HS := Lib.hid (hB8'.set 0 v')
    have HB2 := Lib.hid ((HB1.out.trans (hb2.mono HB1.out.size)).setCell (p := ⟨W.heap.size + 1, 0, none⟩) (Nat.le_succ _) v')
    obtain ⟨A', c', rfl, -⟩ := hP'
    clear HT hB8' hb2
    go_wp2_with fail
    exact bodyPost_ret (results_ct rfl _ _ (W.heap.size + 1) 35 _ (0, 0) _ rfl HS.out Try.underlying35 rfl (by kernel_rfl)) rfl ⟨_, rfl, HP'.out, HB2.out⟩
set_option maxHeartbeats 4000000 in
theorem rpay_any (W : World) (v : Value) (ms : List Mv) (who n : Int) (h : PM W v ms) (hg : Good ms) (hl : ms.length ≤ 1000000) :
    Calls Try.prog 57 #[.agg #[v], .int .i64 who, .int .i64 n] W fun e w' => ∃ v', e = .returned (.tuple #[.agg #[v'], .int .i64 (moveE (bal ms) (holdA who, 1, n))]) ∧ PM w' v' (tryL ms (holdA who, 1, n)) ∧ Below W.heap.size W w' := by
  have h0 := h
  obtain ⟨A, c, rfl, h1c, -⟩ := h0
  have hal : Below W.heap.size W ((W.alloc (.cells #[.slice A ms.length c] 35)).alloc (.cells #[.slice none 0 0] 35)) := ((Below.refl _ W).alloc (Nat.le_refl _) _).alloc (by simp) _
  have hB8 : Blk ((W.alloc (.cells #[.slice A ms.length c] 35)).alloc (.cells #[.slice none 0 0] 35)) (W.heap.size + 1) 35 [.slice none 0 0] := Blk.new2 W _ _ _
  have hB3 : Blk ((W.alloc (.cells #[.slice A ms.length c] 35)).alloc (.cells #[.slice none 0 0] 35)) W.heap.size 35 [.slice A ms.length c] := (Blk.new W _ _).alloc _
  have hP := h.below hal
  have HAL := Lib.hid hal; have HB8 := Lib.hid hB8; have HB3 := Lib.hid hB3; have HP := Lib.hid hP
  clear hP hB8 hB3 hal h
  cases hp : partyA who with
  | false =>
    have e1 : holdA who = -1 := by unfold holdA; rw [hp]; rfl
    rw [e1, moveE_l, tryL_one moveE_l]
    clear e1
    go_enter Try.func57, Try.ntmps57
    go_wp2_with fail
    refine (rparty_any _ who).mono ?_; rintro e w1 ⟨rfl, hb1⟩
    rw [hp]
    have b8 := HB8.out.belowS hb1
    have b3 := HB3.out.belowS hb1
    have c8 := b8.cell (i := 0) rfl
    have f8 := b8.frozen 0
    have c3 := b3.cell (i := 0) rfl
    have HP' := Lib.hid ((HP.out.below hb1).put b8 (.slice A ms.length c))
    have HS := Lib.hid (b8.set 0 (.slice A ms.length c))
    have HB1 := Lib.hid ((HAL.out.trans (hb1.mono HAL.out.size)).setCell (p := ⟨W.heap.size + 1, 0, none⟩) (Nat.le_succ _) (.slice A ms.length c))
    clear hb1 b8 b3 hp
    go_wp2_with fail
    exact bodyPost_ret (results_ct rfl _ _ (W.heap.size + 1) 35 _ (0, 0) _ rfl HS.out Try.underlying35 rfl (by kernel_rfl)) rfl ⟨_, rfl, HP'.out, HB1.out⟩
  | true =>
    have hpb := party_bnd hp
    have e1 : holdA who = 2 * who + 1 := by unfold holdA; rw [hp]; rfl
    rw [e1]
    clear e1
    go_enter Try.func57, Try.ntmps57
    go_wp2_with fail
    refine (rparty_any _ who).mono ?_; rintro e w1 ⟨rfl, hb1⟩
    rw [hp]
    have b3 := HB3.out.belowS hb1
    have c3 := b3.cell (i := 0) rfl
    have B8 := Lib.hid (HB8.out.belowS hb1)
    have HT := Lib.hid (rgo_any w1 (.slice A ms.length c) ms (2 * who + 1) 1 n (HP.out.below hb1) hg hl)
    have HB1 := Lib.hid (HAL.out.trans (hb1.mono HAL.out.size))
    clear hb1 b3 hp
    go_wp2_with fail
    refine HT.out.mono ?_; rintro e w2 ⟨v', rfl, hP', hb2⟩
    have hB8' := B8.out.belowS hb2
    have c8 := hB8'.cell (i := 0) rfl
    have f8 := hB8'.frozen 0
    have HP' := Lib.hid (hP'.put hB8' v')
    have HS := Lib.hid (hB8'.set 0 v')
    have HB2 := Lib.hid ((HB1.out.trans (hb2.mono HB1.out.size)).setCell (p := ⟨W.heap.size + 1, 0, none⟩) (Nat.le_succ _) v')
    obtain ⟨A', c', rfl, -⟩ := hP'
    clear HT hB8' hb2
    go_wp2_with fail
    exact bodyPost_ret (results_ct rfl _ _ (W.heap.size + 1) 35 _ (0, 0) _ rfl HS.out Try.underlying35 rfl (by kernel_rfl)) rfl ⟨_, rfl, HP'.out, HB2.out⟩

end Go.Proofs.Ytmdacfgofilbdaa.Led

/- hold: the document's Refund, Set, walked. -/
set_option linter.unusedSimpArgs false
set_option linter.unusedVariables false
namespace Go.Proofs.Ytmdacfgofilbdaa.Led
open Go.RowKit Go.Proofs.Ytmdacfgofilbdaa.TabL Go.Proofs.YtmdacfgofilbdaaW.PrintWords Go.Proofs.Ytmdacfgofilbdaa.PHoldPlays
open Go.Proofs.Ytmdacfgofilbdaa.TabB (ltI lin getV TMg)

def refMb (ms : List Mv) (who : Int) : Mv := (holdA who, freeA who, bal ms (holdA who))
def refN (ms : List Mv) (who : Int) : Int := if moveE (bal ms) (refMb ms who) = 0 then bal ms (holdA who) else 0
set_option maxHeartbeats 4000000 in
theorem rref_any (W : World) (v : Value) (ms : List Mv) (who : Int) (h : PM W v ms) (hg : Good ms) (hl : ms.length ≤ 1000000) :
    Calls Try.prog 58 #[.agg #[v], .int .i64 who] W fun e w' => ∃ v', e = .returned (.tuple #[.agg #[v'], .int .i64 (refN ms who), .int .i64 (moveE (bal ms) (refMb ms who))]) ∧ PM w' v' (tryL ms (refMb ms who)) ∧ Below W.heap.size W w' := by
  have h0 := h
  obtain ⟨A, c, rfl, h1c, -⟩ := h0
  have hal : Below W.heap.size W ((W.alloc (.cells #[.slice A ms.length c] 35)).alloc (.cells #[.slice none 0 0] 35)) := ((Below.refl _ W).alloc (Nat.le_refl _) _).alloc (by simp) _
  have hB8 : Blk ((W.alloc (.cells #[.slice A ms.length c] 35)).alloc (.cells #[.slice none 0 0] 35)) (W.heap.size + 1) 35 [.slice none 0 0] := Blk.new2 W _ _ _
  have hB3 : Blk ((W.alloc (.cells #[.slice A ms.length c] 35)).alloc (.cells #[.slice none 0 0] 35)) W.heap.size 35 [.slice A ms.length c] := (Blk.new W _ _).alloc _
  have hP := h.below hal
  have HAL := Lib.hid hal; have HB8 := Lib.hid hB8; have HB3 := Lib.hid hB3; have HP := Lib.hid hP
  clear hP hB8 hB3 hal h
  cases hp : partyA who with
  | false =>
    have e1 : refMb ms who = (-1, -1, bal ms (-1)) := by unfold refMb freeA holdA; rw [hp]; rfl
    have e2 : moveE (bal ms) (-1, -1, bal ms (-1)) = 1 := moveE_l
    have e3 : refN ms who = 0 := by unfold refN; rw [e1, e2]; rfl
    rw [e3, e1, e2, tryL_one e2]
    clear e1 e2 e3
    go_enter Try.func58, Try.ntmps58
    go_wp2_with fail
    refine (rparty_any _ who).mono ?_; rintro e w1 ⟨rfl, hb1⟩
    rw [hp]
    have b8 := HB8.out.belowS hb1
    have b3 := HB3.out.belowS hb1
    have c8 := b8.cell (i := 0) rfl
    have f8 := b8.frozen 0
    have c3 := b3.cell (i := 0) rfl
    have HP' := Lib.hid ((HP.out.below hb1).put b8 (.slice A ms.length c))
    have HS := Lib.hid (b8.set 0 (.slice A ms.length c))
    have HB1 := Lib.hid ((HAL.out.trans (hb1.mono HAL.out.size)).setCell (p := ⟨W.heap.size + 1, 0, none⟩) (Nat.le_succ _) (.slice A ms.length c))
    clear hb1 b8 b3 hp
    go_wp2_with fail
    exact bodyPost_ret (results_ctt rfl _ _ (W.heap.size + 1) 35 _ (0, 0) _ rfl HS.out Try.underlying35 rfl (by kernel_rfl)) rfl ⟨_, rfl, HP'.out, HB1.out⟩
  | true =>
    have hpb := party_bnd hp
    have ef : freeA who = 2 * who := by unfold freeA; rw [hp]; rfl
    have eh : holdA who = 2 * who + 1 := by unfold holdA; rw [hp]; rfl
    obtain ⟨bh, hbh⟩ : ∃ bh, bal ms (2 * who + 1) = bh := ⟨_, rfl⟩
    have e1 : refMb ms who = (2 * who + 1, 2 * who, bh) := by unfold refMb; rw [ef, eh, hbh]
    obtain ⟨E, hE⟩ : ∃ E, moveE (bal ms) (2 * who + 1, 2 * who, bh) = E := ⟨_, rfl⟩
    have eN : refN ms who = if E = 0 then bh else 0 := by unfold refN; rw [e1, hE, eh, hbh]
    rw [eN, e1, hE]
    have HHb := fun w hw => rheld_any w (.slice A ms.length c) ms who hw hg (by omega)
    rw [eh, hbh] at HHb
    have HGo := fun w hw => rgo_any w (.slice A ms.length c) ms (2 * who + 1) (2 * who) bh hw hg hl
    rw [hE] at HGo
    have HHH := Lib.hid HHb; have HGG := Lib.hid HGo; have HEE := Lib.hid hE
    clear HHb HGo e1 ef eh hbh eN hE
    by_cases h0 : E = 0
    · subst h0
      rw [if_pos rfl]
      go_enter Try.func58, Try.ntmps58
      go_wp2_with fail
      refine (rparty_any _ who).mono ?_; rintro e w1 ⟨rfl, hb1⟩
      rw [hp]
      have B3 := Lib.hid (HB3.out.belowS hb1)
      have c3 := B3.out.cell (i := 0) rfl
      have B8 := Lib.hid (HB8.out.belowS hb1)
      have HP1 := Lib.hid (HP.out.below hb1)
      have HB1 := Lib.hid (HAL.out.trans (hb1.mono HAL.out.size))
      clear hb1 hp
      go_wp2_with fail
      refine (HHH.out w1 HP1.out).mono ?_; rintro e w2 ⟨rfl, hb2⟩
      have B3 := Lib.hid (B3.out.belowS hb2)
      have c32 := B3.out.cell (i := 0) rfl
      have B8 := Lib.hid (B8.out.belowS hb2)
      have HP1 := Lib.hid (HP1.out.below hb2)
      have HB1 := Lib.hid (HB1.out.trans (hb2.mono HB1.out.size))
      clear hb2 c3
      go_wp2_with fail
      refine (HGG.out w2 HP1.out).mono ?_; rintro e w3 ⟨v', rfl, hP', hb3⟩
      have hB8' := B8.out.belowS hb3
      have hB3' := HB1.out.trans (hb3.mono HB1.out.size)
      have hz3 : W.heap.size + 1 < w3.heap.size := hB8'.lt
      have hz3' : W.heap.size < w3.heap.size := Nat.lt_of_succ_lt hz3
      have c8 := hB8'.cell (i := 0) rfl
      have f8 := hB8'.frozen 0
      have HP' := Lib.hid (hP'.put hB8' v')
      have HS := Lib.hid (hB8'.set 0 v')
      have HB3' := Lib.hid (hB3'.setCell (p := ⟨W.heap.size + 1, 0, none⟩) (Nat.le_succ _) v')
      obtain ⟨A', c', rfl, -⟩ := hP'
      clear hB8' hb3 hB3'
      go_wp2_with fail
      exact bodyPost_ret (results_ctt rfl _ _ (W.heap.size + 1) 35 _ (0, 0) _ rfl (HS.out.alloc _) Try.underlying35 rfl (by kernel_rfl)) rfl ⟨_, rfl, HP'.out.below ((Below.refl _ _).alloc (Nat.le_refl _) _), HB3'.out.alloc (by have := HB3'.out.size; simp at this ⊢; omega) _⟩
    · rw [if_neg h0]
      go_enter Try.func58, Try.ntmps58
      go_wp2_with fail
      refine (rparty_any _ who).mono ?_; rintro e w1 ⟨rfl, hb1⟩
      rw [hp]
      have B3 := Lib.hid (HB3.out.belowS hb1)
      have c3 := B3.out.cell (i := 0) rfl
      have B8 := Lib.hid (HB8.out.belowS hb1)
      have HP1 := Lib.hid (HP.out.below hb1)
      have HB1 := Lib.hid (HAL.out.trans (hb1.mono HAL.out.size))
      clear hb1 hp
      go_wp2_with fail
      refine (HHH.out w1 HP1.out).mono ?_; rintro e w2 ⟨rfl, hb2⟩
      have B3 := Lib.hid (B3.out.belowS hb2)
      have c32 := B3.out.cell (i := 0) rfl
      have B8 := Lib.hid (B8.out.belowS hb2)
      have HP1 := Lib.hid (HP1.out.below hb2)
      have HB1 := Lib.hid (HB1.out.trans (hb2.mono HB1.out.size))
      clear hb2 c3
      go_wp2_with fail
      refine (HGG.out w2 HP1.out).mono ?_; rintro e w3 ⟨v', rfl, hP', hb3⟩
      have hB8' := B8.out.belowS hb3
      have c33 := (B3.out.belowS hb3).cell (i := 0) rfl
      have hB3' := HB1.out.trans (hb3.mono HB1.out.size)
      have hz3 : W.heap.size + 1 < w3.heap.size := hB8'.lt
      have hz3' : W.heap.size < w3.heap.size := Nat.lt_of_succ_lt hz3
      have c8 := hB8'.cell (i := 0) rfl
      have f8 := hB8'.frozen 0
      have HP' := Lib.hid ((HP1.out.below hb3).put hB8' (.slice A ms.length c))
      have HS := Lib.hid (hB8'.set 0 (.slice A ms.length c))
      have HB3' := Lib.hid (hB3'.setCell (p := ⟨W.heap.size + 1, 0, none⟩) (Nat.le_succ _) (.slice A ms.length c))
      have HTL : Hid (tryL ms (2 * who + 1, 2 * who, bh) = ms) := Lib.hid (by unfold tryL; rw [HEE.out, if_neg h0])
      obtain ⟨A', c', rfl, -⟩ := hP'
      clear hB8' hb3 hB3' c32
      go_wp2_with fail
      exact bodyPost_ret (results_ctt rfl _ _ (W.heap.size + 1) 35 _ (0, 0) _ rfl (HS.out.alloc _) Try.underlying35 rfl (by kernel_rfl)) rfl ⟨_, rfl, by rw [HTL.out]; exact HP'.out.below ((Below.refl _ _).alloc (Nat.le_refl _) _), HB3'.out.alloc (by have := HB3'.out.size; simp at this ⊢; omega) _⟩

theorem rset_facts {ms : List Mv} {who n : Int} (hp : partyA who = true) (hr : rightM n = true) (hg : Good ms) :
    (bal ms (2 * who + 1) < n ∧ bal ms (2 * who) < n - bal ms (2 * who + 1) → rsetL ms who n = ms ∧ rsetE ms who n = 40) ∧
    (¬ (bal ms (2 * who + 1) < n ∧ bal ms (2 * who) < n - bal ms (2 * who + 1)) → bal ms (2 * who + 1) ≤ n → rsetL ms who n = tryL ms (2 * who, 2 * who + 1, n - bal ms (2 * who + 1)) ∧ rsetE ms who n = moveE (bal ms) (2 * who, 2 * who + 1, n - bal ms (2 * who + 1))) ∧
    (n < bal ms (2 * who + 1) → rsetL ms who n = tryL ms (2 * who + 1, 2 * who, bal ms (2 * who + 1) - n) ∧ rsetE ms who n = moveE (bal ms) (2 * who + 1, 2 * who, bal ms (2 * who + 1) - n)) := by
  have hpb := party_bnd hp
  have hn : 0 ≤ n ∧ n ≤ 1099511627776 := by unfold rightM at hr; simpa using hr
  have hc : ¬ (partyA who = false ∨ rightM n = false) := by rw [hp, hr]; simp
  have hfa : freeA who = 2 * who := by unfold freeA; rw [if_pos hp]
  have hha : holdA who = 2 * who + 1 := by unfold holdA; rw [if_pos hp]
  have hnh := hg.nonneg (a := 2 * who + 1) (by omega)
  have e1 : rsetL ms who n = tryL ms (setMb (bal ms) who n) := by unfold rsetL; rw [if_neg hc]
  have e2 : rsetE ms who n = moveE (bal ms) (setMb (bal ms) who n) := by unfold rsetE; rw [if_neg hc]
  rw [e1, e2]
  refine ⟨fun h40 => ?_, fun h1 h2 => ?_, fun h1 => ?_⟩
  · have hM : setMb (bal ms) who n = (2 * who, 2 * who + 1, n - bal ms (2 * who + 1)) := by unfold setMb; rw [hfa, hha, if_pos (by omega)]
    have hE : moveE (bal ms) (2 * who, 2 * who + 1, n - bal ms (2 * who + 1)) = 40 := by
      unfold moveE
      dsimp only
      have r1 : rightA (2 * who) = true := by
        unfold rightA
        rw [decide_eq_true (show 4 ≤ 2 * who by omega), decide_eq_true (show 2 * who ≤ 2001 by omega)]; simp
      have r2 : rightA (2 * who + 1) = true := by
        unfold rightA
        rw [decide_eq_true (show 4 ≤ 2 * who + 1 by omega), decide_eq_true (show 2 * who + 1 ≤ 2001 by omega)]; simp
      have r3 : rightM (n - bal ms (2 * who + 1)) = true := by
        unfold rightM
        rw [decide_eq_true (show 0 ≤ n - bal ms (2 * who + 1) by omega), decide_eq_true (show n - bal ms (2 * who + 1) ≤ 1099511627776 by omega)]; rfl
      rw [if_neg (by rw [r1, r2, r3]; simp; omega), if_pos ⟨by omega, by omega⟩]
    rw [hM, hE]
    exact ⟨by unfold tryL; rw [hE]; rfl, rfl⟩
  · have hM : setMb (bal ms) who n = (2 * who, 2 * who + 1, n - bal ms (2 * who + 1)) := by unfold setMb; rw [hfa, hha, if_pos (by omega)]
    rw [hM]
    exact ⟨rfl, rfl⟩
  · have hM : setMb (bal ms) who n = (2 * who + 1, 2 * who, bal ms (2 * who + 1) - n) := by unfold setMb; rw [hfa, hha, if_neg (by omega), Int.neg_sub]
    rw [hM]
    exact ⟨rfl, rfl⟩
set_option maxHeartbeats 8000000 in
set_option maxRecDepth 100000 in
theorem rset_any (W : World) (v : Value) (ms : List Mv) (who n : Int) (h : PM W v ms) (hg : Good ms) (hl : ms.length ≤ 1000000) :
    Calls Try.prog 56 #[.agg #[v], .int .i64 who, .int .i64 n] W fun e w' => ∃ v', e = .returned (.tuple #[.agg #[v'], .int .i64 (rsetE ms who n)]) ∧ PM w' v' (rsetL ms who n) ∧ Below W.heap.size W w' := by
  have h0 := h
  obtain ⟨A, c, rfl, h1c, -⟩ := h0
  have hal : Below W.heap.size W ((W.alloc (.cells #[.slice A ms.length c] 35)).alloc (.cells #[.slice none 0 0] 35)) := ((Below.refl _ W).alloc (Nat.le_refl _) _).alloc (by simp) _
  have hB8 : Blk ((W.alloc (.cells #[.slice A ms.length c] 35)).alloc (.cells #[.slice none 0 0] 35)) (W.heap.size + 1) 35 [.slice none 0 0] := Blk.new2 W _ _ _
  have hB3 : Blk ((W.alloc (.cells #[.slice A ms.length c] 35)).alloc (.cells #[.slice none 0 0] 35)) W.heap.size 35 [.slice A ms.length c] := (Blk.new W _ _).alloc _
  have hP := h.below hal
  have HAL := Lib.hid hal; have HB8 := Lib.hid hB8; have HB3 := Lib.hid hB3; have HP := Lib.hid hP
  clear hP hB8 hB3 hal h
  cases hp : partyA who with
  | false =>
    have HX := Lib.hid (show rsetL ms who n = ms ∧ rsetE ms who n = 1 from ⟨by unfold rsetL; rw [if_pos (.inl hp)], by unfold rsetE; rw [if_pos (.inl hp)]⟩)
    go_enter Try.func56, Try.ntmps56
    go_wp2_with fail
    refine (rparty_any _ who).mono ?_; rintro e w1 ⟨rfl, hb1⟩
    rw [hp]
    have b8 := HB8.out.belowS hb1
    have b3 := HB3.out.belowS hb1
    have c8 := b8.cell (i := 0) rfl
    have f8 := b8.frozen 0
    have c3 := b3.cell (i := 0) rfl
    have HP' := Lib.hid ((HP.out.below hb1).put b8 (.slice A ms.length c))
    have HS := Lib.hid (b8.set 0 (.slice A ms.length c))
    have HB1 := Lib.hid ((HAL.out.trans (hb1.mono HAL.out.size)).setCell (p := ⟨W.heap.size + 1, 0, none⟩) (Nat.le_succ _) (.slice A ms.length c))
    clear hb1 b8 b3 hp
    go_wp2_with fail
    refine bodyPost_ret (results_ct rfl _ _ (W.heap.size + 1) 35 _ (0, 0) _ rfl HS.out Try.underlying35 rfl (by kernel_rfl)) rfl ?_; exact ⟨_, (by rw [HX.out.2]; rfl), (by rw [HX.out.1]; exact HP'.out), HB1.out⟩
  | true =>
    have hpb := party_bnd hp
    cases hr : rightM n with
    | false =>
      have HX := Lib.hid (show rsetL ms who n = ms ∧ rsetE ms who n = 1 from ⟨by unfold rsetL; rw [if_pos (.inr hr)], by unfold rsetE; rw [if_pos (.inr hr)]⟩)
      go_enter Try.func56, Try.ntmps56
      go_wp2_with fail
      refine (rparty_any _ who).mono ?_; rintro e w1 ⟨rfl, hb1⟩
      rw [hp]
      have HB1 := Lib.hid (HAL.out.trans (hb1.mono HAL.out.size))
      have B8 := Lib.hid (HB8.out.belowS hb1)
      have B3 := Lib.hid (HB3.out.belowS hb1)
      have HP1 := Lib.hid (HP.out.below hb1)
      clear hb1 hp
      go_wp2_with fail
      refine (rrightM_any _ n).mono ?_; rintro e w2 ⟨rfl, hb2⟩
      rw [hr]
      have b8 := B8.out.belowS hb2
      have b3 := B3.out.belowS hb2
      have c8 := b8.cell (i := 0) rfl
      have f8 := b8.frozen 0
      have c3 := b3.cell (i := 0) rfl
      have HP' := Lib.hid ((HP1.out.below hb2).put b8 (.slice A ms.length c))
      have HS := Lib.hid (b8.set 0 (.slice A ms.length c))
      have HB2 := Lib.hid ((HB1.out.trans (hb2.mono HB1.out.size)).setCell (p := ⟨W.heap.size + 1, 0, none⟩) (Nat.le_succ _) (.slice A ms.length c))
      clear hb2 b8 b3 hr
      go_wp2_with fail
      refine bodyPost_ret (results_ct rfl _ _ (W.heap.size + 1) 35 _ (0, 0) _ rfl HS.out Try.underlying35 rfl (by kernel_rfl)) rfl ?_; exact ⟨_, (by rw [HX.out.2]; rfl), (by rw [HX.out.1]; exact HP'.out), HB2.out⟩
    | true =>
      obtain ⟨fa, fb, fc⟩ := rset_facts (ms := ms) hp hr hg
      have hn : 0 ≤ n ∧ n ≤ 1099511627776 := by unfold rightM at hr; simpa using hr
      have ef : freeA who = 2 * who := by unfold freeA; rw [hp]; rfl
      have eh : holdA who = 2 * who + 1 := by unfold holdA; rw [hp]; rfl
      have hnh := hg.nonneg (a := 2 * who + 1) (by omega)
      have hbd := hg.bnd (2 * who + 1)
      obtain ⟨bh, hbh⟩ : ∃ bh, bal ms (2 * who + 1) = bh := ⟨_, rfl⟩
      obtain ⟨bf, hbf⟩ : ∃ bf, bal ms (2 * who) = bf := ⟨_, rfl⟩
      have HHb := fun w hw => rheld_any w (.slice A ms.length c) ms who hw hg (by omega)
      have HFb := fun w hw => rfree_any w (.slice A ms.length c) ms who hw hg (by omega)
      rw [eh, hbh] at HHb
      rw [ef, hbf] at HFb
      rw [hbh] at hnh hbd fa fb fc
      rw [hbf] at fa fb
      have HGo := fun f t x w hw => rgo_any w (.slice A ms.length c) ms f t x hw hg hl
      have HHH := Lib.hid HHb; have HFF := Lib.hid HFb; have HGG := Lib.hid HGo
      have FA := Lib.hid fa; have FB := Lib.hid fb; have FC := Lib.hid fc
      clear HHb HGo HFb fa fb fc ef eh hbh hbf
      have fin : (bh < n ∧ bf < n - bh) ∨ (bh < n ∧ ¬ bf < n - bh) ∨ (¬ bh < n ∧ bh ≤ n) ∨ n < bh := by omega
      rcases fin with ⟨x1, x2⟩ | ⟨x1, x2⟩ | ⟨x1, x2⟩ | x1
      all_goals
        go_enter Try.func56, Try.ntmps56
        go_wp2_with fail
        refine (rparty_any _ who).mono ?_; rintro e w1 ⟨rfl, hb1⟩
        rw [hp]
        have HB1 := Lib.hid (HAL.out.trans (hb1.mono HAL.out.size))
        have B8 := Lib.hid (HB8.out.belowS hb1)
        have B3 := Lib.hid (HB3.out.belowS hb1)
        have HP1 := Lib.hid (HP.out.below hb1)
        clear hb1 hp
        go_wp2_with fail
        refine (rrightM_any _ n).mono ?_; rintro e w2 ⟨rfl, hb2⟩
        rw [hr]
        have HB1 := Lib.hid (HB1.out.trans (hb2.mono HB1.out.size))
        have B8 := Lib.hid (B8.out.belowS hb2)
        have B3 := Lib.hid (B3.out.belowS hb2)
        have HP1 := Lib.hid (HP1.out.below hb2)
        have c3 := B3.out.cell (i := 0) rfl
        clear hb2 hr
        go_wp2_with fail
        refine (HHH.out w2 HP1.out).mono ?_; rintro e w3 ⟨rfl, hb3⟩
        have HB1 := Lib.hid (HB1.out.trans (hb3.mono HB1.out.size))
        have B8 := Lib.hid (B8.out.belowS hb3)
        have B3 := Lib.hid (B3.out.belowS hb3)
        have HP1 := Lib.hid (HP1.out.below hb3)
        have c33 := B3.out.cell (i := 0) rfl
        clear hb3 c3
        go_wp2_with fail
      · refine (HFF.out w3 HP1.out).mono ?_; rintro e w4 ⟨rfl, hb4⟩
        have b8 := B8.out.belowS hb4
        have b3 := B3.out.belowS hb4
        have c8 := b8.cell (i := 0) rfl
        have f8 := b8.frozen 0
        have c3 := b3.cell (i := 0) rfl
        have HP' := Lib.hid ((HP1.out.below hb4).put b8 (.slice A ms.length c))
        have HS := Lib.hid (b8.set 0 (.slice A ms.length c))
        have HB2 := Lib.hid ((HB1.out.trans (hb4.mono HB1.out.size)).setCell (p := ⟨W.heap.size + 1, 0, none⟩) (Nat.le_succ _) (.slice A ms.length c))
        have HX := Lib.hid (FA.out ⟨x1, x2⟩)
        clear hb4 b8 b3 c33
        go_wp2_with fail
        refine bodyPost_ret (results_ct rfl _ _ (W.heap.size + 1) 35 _ (0, 0) _ rfl HS.out Try.underlying35 rfl (by kernel_rfl)) rfl ?_; exact ⟨_, (by rw [HX.out.2]; rfl), (by rw [HX.out.1]; exact HP'.out), HB2.out⟩
      · refine (HFF.out w3 HP1.out).mono ?_; rintro e w4 ⟨rfl, hb4⟩
        have HB1 := Lib.hid (HB1.out.trans (hb4.mono HB1.out.size))
        have B8 := Lib.hid (B8.out.belowS hb4)
        have B3 := Lib.hid (B3.out.belowS hb4)
        have HP1 := Lib.hid (HP1.out.below hb4)
        have c3 := B3.out.cell (i := 0) rfl
        have HX := Lib.hid (FB.out (fun h => by omega) (by omega))
        have x3 : bh ≤ n := by omega
        clear hb4 c33
        go_wp2_with fail
        refine (HGG.out (2 * who) (2 * who + 1) (n - bh) _ HP1.out).mono ?_; rintro e w5 ⟨v', rfl, hP', hb5⟩
        have hB8' := B8.out.belowS hb5
        have hB3' := HB1.out.trans (hb5.mono HB1.out.size)
        have c8 := hB8'.cell (i := 0) rfl
        have f8 := hB8'.frozen 0
        have HP' := Lib.hid (hP'.put hB8' v')
        have HS := Lib.hid (hB8'.set 0 v')
        have HB3' := Lib.hid (hB3'.setCell (p := ⟨W.heap.size + 1, 0, none⟩) (Nat.le_succ _) v')
        obtain ⟨A', c', rfl, -⟩ := hP'
        clear hB8' hb5 hB3'
        go_wp2_with fail
        refine bodyPost_ret (results_ct rfl _ _ (W.heap.size + 1) 35 _ (0, 0) _ rfl HS.out Try.underlying35 rfl (by kernel_rfl)) rfl ?_; exact ⟨_, (by rw [HX.out.2]; rfl), (by rw [HX.out.1]; exact HP'.out), HB3'.out⟩
      · have HX0 := FB.out (fun h => by omega) (by omega)
        have hnb : n = bh := by omega
        subst hnb
        rw [Int.sub_self] at HX0 ⊢
        have HX := Lib.hid HX0
        clear HX0
        refine (HGG.out (2 * who) (2 * who + 1) 0 _ HP1.out).mono ?_; rintro e w5 ⟨v', rfl, hP', hb5⟩
        have hB8' := B8.out.belowS hb5
        have hB3' := HB1.out.trans (hb5.mono HB1.out.size)
        have c8 := hB8'.cell (i := 0) rfl
        have f8 := hB8'.frozen 0
        have HP' := Lib.hid (hP'.put hB8' v')
        have HS := Lib.hid (hB8'.set 0 v')
        have HB3' := Lib.hid (hB3'.setCell (p := ⟨W.heap.size + 1, 0, none⟩) (Nat.le_succ _) v')
        obtain ⟨A', c', rfl, -⟩ := hP'
        clear hB8' hb5 hB3'
        go_wp2_with fail
        refine bodyPost_ret (results_ct rfl _ _ (W.heap.size + 1) 35 _ (0, 0) _ rfl HS.out Try.underlying35 rfl (by kernel_rfl)) rfl ?_; exact ⟨_, (by rw [HX.out.2]; rfl), (by rw [HX.out.1]; exact HP'.out), HB3'.out⟩
      · have HX := Lib.hid (FC.out x1)
        refine (HGG.out (2 * who + 1) (2 * who) (bh - n) _ HP1.out).mono ?_; rintro e w5 ⟨v', rfl, hP', hb5⟩
        have hB8' := B8.out.belowS hb5
        have hB3' := HB1.out.trans (hb5.mono HB1.out.size)
        have c8 := hB8'.cell (i := 0) rfl
        have f8 := hB8'.frozen 0
        have HP' := Lib.hid (hP'.put hB8' v')
        have HS := Lib.hid (hB8'.set 0 v')
        have HB3' := Lib.hid (hB3'.setCell (p := ⟨W.heap.size + 1, 0, none⟩) (Nat.le_succ _) v')
        obtain ⟨A', c', rfl, -⟩ := hP'
        clear hB8' hb5 hB3'
        go_wp2_with fail
        refine bodyPost_ret (results_ct rfl _ _ (W.heap.size + 1) 35 _ (0, 0) _ rfl HS.out Try.underlying35 rfl (by kernel_rfl)) rfl ?_; exact ⟨_, (by rw [HX.out.2]; rfl), (by rw [HX.out.1]; exact HP'.out), HB3'.out⟩

end Go.Proofs.Ytmdacfgofilbdaa.Led

/- hold: the document's Settle, walked; rows of moves. -/
set_option linter.unusedSimpArgs false
set_option linter.unusedVariables false
namespace Go.Proofs.Ytmdacfgofilbdaa.Led
open Go.RowKit Go.Proofs.Ytmdacfgofilbdaa.TabL Go.Proofs.YtmdacfgofilbdaaW.PrintWords Go.Proofs.Ytmdacfgofilbdaa.PHoldPlays
open Go.Proofs.Ytmdacfgofilbdaa.TabB (ltI lin getV TMg)
attribute [local go_sem] Oper.semAt_some

/-- moves one after the other, up to the first that is refused: the document's -/
def movesR : List Mv → List Mv → Int × List Mv
  | ms, [] => (0, ms)
  | ms, m :: r => if moveE (bal ms) m = 0 then movesR (tryL ms m) r else (moveE (bal ms) m, ms)
def allR (ms l : List Mv) : List Mv := if (movesR ms l).1 = 0 then (movesR ms l).2 else ms
theorem Rel.moves : ∀ (l : List Mv) {xs : Bs} {ms : List Mv}, Rel xs ms → (movesL xs l).1 = (movesR ms l).1 ∧ Rel (movesL xs l).2 (movesR ms l).2
  | [], xs, ms, h => ⟨rfl, h⟩
  | m :: r, xs, ms, h => by
    have he := h.moveE m
    unfold movesL movesR
    rw [he]
    by_cases h0 : Led.moveE (bal ms) m = 0
    · rw [if_pos h0, if_pos h0]
      exact Rel.moves r (h.step m)
    · rw [if_neg h0, if_neg h0]
      exact ⟨rfl, h⟩
theorem Rel.all {xs : Bs} {ms : List Mv} (h : Rel xs ms) (l : List Mv) : Rel (allL xs l) (allR ms l) := by
  obtain ⟨h1, h2⟩ := Rel.moves l h
  unfold allL allR
  rw [h1]
  split
  · exact h2
  · exact h
def stepR (ms : List Mv) (l : List Mv) (k : Nat) : List Mv := (l.take k).foldl tryL ms
theorem stepR_succ (ms : List Mv) (l : List Mv) {k : Nat} {m : Mv} (h : l[k]? = some m) : stepR ms l (k + 1) = tryL (stepR ms l k) m := by
  have hk := (List.getElem?_eq_some_iff.1 h).1
  unfold stepR
  rw [List.take_succ_eq_append_getElem hk, List.foldl_append, (List.getElem?_eq_some_iff.1 h).2]
  rfl
theorem movesR_at : ∀ (l : List Mv) (ms : List Mv) (k : Nat), (∀ j m, j < k → l[j]? = some m → moveE (bal (stepR ms l j)) m = 0) → k ≤ l.length → movesR ms l = movesR (stepR ms l k) (l.drop k)
  | _, _, 0, _, _ => rfl
  | [], _, k + 1, _, h => by simp at h
  | m :: r, ms, k + 1, h, hk => by
    have h0 := h 0 m (by omega) rfl
    have e : moveE (bal ms) m = 0 := h0
    rw [movesR, if_pos e]
    have := movesR_at r (tryL ms m) k (fun j m' hj hm => by have := h (j + 1) m' (by omega) (by simpa using hm); exact this) (by simpa using hk)
    rw [this]
    rfl
theorem stepR_good {ms : List Mv} (h : Good ms) (l : List Mv) : ∀ k, Good (stepR ms l k) := fun k => by
  unfold stepR
  have : ∀ (l : List Mv) (ms : List Mv), Good ms → Good (l.foldl tryL ms) := fun l => by
    induction l with
    | nil => intro ms h; exact h
    | cons m l ih => intro ms h; exact ih _ (h.tryL m)
  exact this _ _ h
theorem tryL_len (ms : List Mv) (m : Mv) : (tryL ms m).length ≤ ms.length + 1 := by
  unfold tryL
  split
  · simp
  · omega
theorem stepR_len (ms : List Mv) (l : List Mv) : ∀ k, (stepR ms l k).length ≤ ms.length + k := fun k => by
  unfold stepR
  have : ∀ (l : List Mv) (ms : List Mv), (l.foldl tryL ms).length ≤ ms.length + l.length := fun l => by
    induction l with
    | nil => intro ms; exact Nat.le_refl _
    | cons m l ih =>
      intro ms
      have h1 := ih (tryL ms m)
      have h2 := tryL_len ms m
      simp only [List.foldl_cons, List.length_cons]
      omega
  have h1 := this (l.take k) ms
  rw [List.length_take] at h1
  omega
theorem movesR_len (l : List Mv) : ∀ ms, (movesR ms l).2.length ≤ ms.length + l.length := by
  induction l with
  | nil => intro ms; exact Nat.le_refl _
  | cons m r ih =>
    intro ms
    unfold movesR
    split
    · have h1 := ih (tryL ms m)
      have h2 := tryL_len ms m
      simp only [List.length_cons]
      omega
    · simp
theorem allR_len (ms l : List Mv) : (allR ms l).length ≤ ms.length + l.length := by
  have := movesR_len l ms
  unfold allR
  split <;> omega
/-- a move is refused at k: what comes of all -/
theorem movesR_stop {ms l : List Mv} {k : Nat} {m : Mv} (h : ∀ j m, j < k → l[j]? = some m → moveE (bal (stepR ms l j)) m = 0) (hk : l[k]? = some m) (hE : moveE (bal (stepR ms l k)) m ≠ 0) : (movesR ms l).1 = moveE (bal (stepR ms l k)) m ∧ allR ms l = ms := by
  have hlt := (List.getElem?_eq_some_iff.1 hk).1
  have hd : l.drop k = m :: l.drop (k + 1) := by
    rw [← (List.getElem?_eq_some_iff.1 hk).2]; exact (List.getElem_cons_drop ..).symm
  have e := movesR_at l ms k h (by omega)
  rw [hd, movesR, if_neg hE] at e
  refine ⟨by rw [e], ?_⟩
  unfold allR
  rw [e, if_neg hE]
theorem movesR_end {ms l : List Mv} (h : ∀ j m, j < l.length → l[j]? = some m → moveE (bal (stepR ms l j)) m = 0) : (movesR ms l).1 = 0 ∧ allR ms l = stepR ms l l.length := by
  have e := movesR_at l ms l.length h (Nat.le_refl _)
  rw [List.drop_length, movesR] at e
  refine ⟨by rw [e], ?_⟩
  unfold allR
  rw [e, if_pos rfl]
theorem cell_putNe {w : World} {b i : Nat} {v : Value} {p : Addr} (hne : p.block ≠ b) : (w.setCell ⟨b, i, none⟩ v).cell? p = w.cell? p := World.cell?_of_block (Below.heap_setCell w ⟨b, i, none⟩ v p.block hne)
def cI (i : Int) : List Value := [.int .i64 i]
theorem rd_int {W : World} {n₀ : Nat} {sv : Value} {ops : List Int} {j : Nat} {o : Int} (hR : Rd cI 1 n₀ W sv ops) (hj : ops[j]? = some o) : ∃ b off c, sv = .slice (some ⟨b, off, none⟩) ops.length c ∧ b < n₀ ∧ W.cell? ⟨b, off + j, none⟩ = some (.int .i64 o) := by
  rcases hR with ⟨a, cap, rfl, rfl⟩ | ⟨b, off, cap, rfl, hlt, hc⟩
  · simp at hj
  · exact ⟨b, off, cap, rfl, hlt, by have := hc j _ hj 0 _ rfl; rw [Nat.mul_one] at this; exact this⟩

set_option maxHeartbeats 8000000 in
set_option maxRecDepth 100000 in
theorem rsettle_any (W : World) (v : Value) (ms : List Mv) (A1 A2 : Option Addr) (c1 c2 : Nat) (bills : List (Int × Int)) (h : PM W v ms) (hg : Good ms) (hl : ms.length ≤ 100000) (hn : bills.length ≤ 100000) (hR1 : Rd cI 1 W.heap.size W (.slice A1 bills.length c1) (bills.map (·.1))) (hR2 : Rd cI 1 W.heap.size W (.slice A2 bills.length c2) (bills.map (·.2))) :
    Calls Try.prog 59 #[.agg #[v], .slice A1 bills.length c1, .slice A2 bills.length c2] W fun e w' => ∃ v', e = .returned (.tuple #[.agg #[v'], .int .i64 (movesR ms (bms bills)).1]) ∧ PM w' v' (allR ms (bms bills)) ∧ Below W.heap.size W w' := by
  have h0 := h
  obtain ⟨A, c, rfl, h1c, -⟩ := h0
  have hml : (bms bills).length = bills.length := by unfold bms; simp
  have hal : Below W.heap.size W (((W.alloc (.cells #[.slice A ms.length c] 35)).alloc (.cells #[.slice none 0 0] 35)).alloc (.cells #[.slice A ms.length c] 35)) := (((Below.refl _ W).alloc (Nat.le_refl _) _).alloc (by simp) _).alloc (by simp; omega) _
  have hB3 : Blk (((W.alloc (.cells #[.slice A ms.length c] 35)).alloc (.cells #[.slice none 0 0] 35)).alloc (.cells #[.slice A ms.length c] 35)) W.heap.size 35 [.slice A ms.length c] := ((Blk.new W _ _).alloc _).alloc _
  have hB6 : Blk (((W.alloc (.cells #[.slice A ms.length c] 35)).alloc (.cells #[.slice none 0 0] 35)).alloc (.cells #[.slice A ms.length c] 35)) (W.heap.size + 1) 35 [.slice none 0 0] := (Blk.new2 W _ _ _).alloc _
  have hB8 : Blk (((W.alloc (.cells #[.slice A ms.length c] 35)).alloc (.cells #[.slice none 0 0] 35)).alloc (.cells #[.slice A ms.length c] 35)) (W.heap.size + 1 + 1) 35 [.slice A ms.length c] := by
    have := Blk.new ((W.alloc (.cells #[.slice A ms.length c] 35)).alloc (.cells #[.slice none 0 0] 35)) [.slice A ms.length c] 35
    simpa using this
  have hP := h.below hal
  have HAL := Lib.hid hal; have HB8 := Lib.hid hB8; have HB6 := Lib.hid hB6; have HB3 := Lib.hid hB3; have HP := Lib.hid hP
  have HR1 := Lib.hid hR1; have HR2 := Lib.hid hR2; have HML := Lib.hid hml
  clear hP hB8 hB6 hB3 hal h hR1 hR2 hml
  go_enter Try.func59, Try.ntmps59
  go_wp2_with fail
  go_loopw [9] (fun i wr => ∃ (k : Nat) (vq : Value), i = .int .i64 (k : Int) ∧ k ≤ bills.length ∧ (∀ j m, j < k → (bms bills)[j]? = some m → moveE (bal (stepR ms (bms bills) j)) m = 0) ∧ Blk wr W.heap.size 35 [.slice A ms.length c] ∧ Blk wr (W.heap.size + 1) 35 [.slice none 0 0] ∧ Blk wr (W.heap.size + 1 + 1) 35 [vq] ∧ PM wr (.slice A ms.length c) ms ∧ PM wr vq (stepR ms (bms bills) k) ∧ Below W.heap.size W wr)
    (fun i _ => bills.length - (match i with | .int _ n => n.toNat | _ => 0))
  case atStart => exact ⟨0, _, rfl, Nat.zero_le _, fun j m hj => by omega, HB3.out, HB6.out, HB8.out, HP.out, HP.out, HAL.out⟩
  case round =>
    obtain ⟨k, vq, rfl, hk, hz, hB3, hB6, hB8, hP, hQ, hB⟩ := hrel
    by_cases hlt : k < bills.length
    · obtain ⟨⟨who, am⟩, hget⟩ : ∃ o, bills[k]? = some o := ⟨_, List.getElem?_eq_getElem hlt⟩
      have hgm : (bms bills)[k]? = some (holdA who, 1, am) := by unfold bms; rw [List.getElem?_map, hget]; rfl
      obtain ⟨b1, o1, d1, e1, hl1, q1⟩ := rd_int (HR1.out.below hB) (j := k) (o := who) (by rw [List.getElem?_map, hget]; rfl)
      obtain ⟨b2, o2, d2, e2, hl2, q2⟩ := rd_int (HR2.out.below hB) (j := k) (o := am) (by rw [List.getElem?_map, hget]; rfl)
      rw [List.length_map] at e1 e2
      obtain ⟨rfl, rfl⟩ : A1 = some ⟨b1, o1, none⟩ ∧ c1 = d1 := by injection e1 with e1 e2 e3; exact ⟨e1, e3⟩
      obtain ⟨rfl, rfl⟩ : A2 = some ⟨b2, o2, none⟩ ∧ c2 = d2 := by injection e2 with e1 e2 e3; exact ⟨e1, e3⟩
      have hsl := stepR_len ms (bms bills) k
      have hsg := stepR_good hg (bms bills) k
      have hst := stepR_succ ms (bms bills) hgm
      obtain ⟨xs, hxs⟩ : ∃ xs, stepR ms (bms bills) k = xs := ⟨_, rfl⟩
      rw [hxs] at hsl hsg hst hQ
      obtain ⟨Aq, cq, rfl, -⟩ := id hQ
      obtain ⟨E, hE⟩ : ∃ E, moveE (bal xs) (holdA who, 1, am) = E := ⟨_, rfl⟩
      have c8 := hB8.cell (i := 0) rfl
      have HQ := Lib.hid hQ; have HZ := Lib.hid hz; have HG := Lib.hid hgm; have HST := Lib.hid hst; have HXS := Lib.hid hxs; have HEE := Lib.hid hE
      have h3 := Lib.hid hB3; have h6 := Lib.hid hB6; have h8 := Lib.hid hB8; have hP := Lib.hid hP; have hB := Lib.hid hB
      have hz8 := hB8.lt
      clear hQ hz hgm hst hxs hE hget e1 e2 hB3 hB6 hB8
      go_wp2_with fail
      have hbl1 := World.block_lt_of_cell? _ _ q1
      have hbl2 := World.block_lt_of_cell? _ _ q2
      have hal : Below wr.heap.size wr (wr.alloc (.cells #[.slice none 0 0] 35)) := (Below.refl _ wr).alloc (Nat.le_refl _) _
      have S0 := And.intro c8 (And.intro q1 q2)
      have SA := And.intro ((h8.out.alloc (.cells #[.slice none 0 0] 35)).cell (i := 0) rfl) (And.intro ((hal.cell (p := ⟨b1, o1 + k, none⟩) hbl1).trans q1) ((hal.cell (p := ⟨b2, o2 + k, none⟩) hbl2).trans q2))
      go_region_held3 (fun w' => w'.cell? ⟨W.heap.size + 1 + 1, 0, none⟩ = some (.slice Aq xs.length cq) ∧ w'.cell? ⟨b1, o1 + k, none⟩ = some (.int .i64 who) ∧ w'.cell? ⟨b2, o2 + k, none⟩ = some (.int .i64 am)) (first | exact S0 | exact SA | exact S1 | exact ⟨(cell_putNe (Nat.ne_of_lt hz8)).trans S1.1, (cell_putNe (Nat.ne_of_lt hbl1)).trans S1.2.1, (cell_putNe (Nat.ne_of_lt hbl2)).trans S1.2.2⟩ | go_keep) ((first
        | (go_at_call 57; refine (rpay_any _ _ xs who am (HQ.out.below ((Below.refl _ wr).drew)) hsg (by omega)).mono ?_; rw [HEE.out]; rintro e w1 ⟨v1, rfl, hP1, hb1⟩; obtain ⟨A1v, c1v, rfl, -⟩ := id hP1; have HP1 := Lib.hid hP1; have HB1 := Lib.hid hb1; have S1 := And.intro ((h8.out.drew.belowS hb1).cell (i := 0) rfl) (And.intro ((hb1.cell (p := ⟨b1, o1 + k, none⟩) hbl1).trans q1) ((hb1.cell (p := ⟨b2, o2 + k, none⟩) hbl2).trans q2)); clear hP1 hb1)
        | (go_at_call 57; refine (rpay_any _ _ xs who am (HQ.out.below hal.drew) hsg (by omega)).mono ?_; rw [HEE.out]; rintro e w1 ⟨v1, rfl, hP1, hb1⟩; obtain ⟨A1v, c1v, rfl, -⟩ := id hP1; have HP1 := Lib.hid hP1; have HB1 := Lib.hid hb1; have S1 := And.intro (((h8.out.alloc (.cells #[.slice none 0 0] 35)).drew.belowS hb1).cell (i := 0) rfl) (And.intro ((hb1.cell (p := ⟨b1, o1 + k, none⟩) (Nat.lt_of_lt_of_le hbl1 hal.size)).trans SA.2.1) ((hb1.cell (p := ⟨b2, o2 + k, none⟩) (Nat.lt_of_lt_of_le hbl2 hal.size)).trans SA.2.2)); have B10 := (Blk.new wr [.slice none 0 0] 35).drew.belowS hb1; have c10 := B10.cell (i := 0) rfl; have f10 := B10.frozen 0; clear hP1 hb1)))
      · have gz := hB.out.size
        have gal := hB.out.trans (((Below.refl _ wr).drew).mono gz)
        have g3 := (h3.out.drew.belowS HB1.out).alloc (.cells #[(.slice A1v (tryL xs (holdA who, 1, am)).length c1v)] 35)
        have g6 := (h6.out.drew.belowS HB1.out).alloc (.cells #[(.slice A1v (tryL xs (holdA who, 1, am)).length c1v)] 35)
        have g8 := (h8.out.drew.belowS HB1.out).alloc (.cells #[(.slice A1v (tryL xs (holdA who, 1, am)).length c1v)] 35)
        have galw : Below w1.heap.size w1 (w1.alloc (.cells #[(.slice A1v (tryL xs (holdA who, 1, am)).length c1v)] 35)) := (Below.refl _ w1).alloc (Nat.le_refl _) _
        have gP := ((hP.out.below (Below.refl _ wr).drew).below HB1.out).below galw
        have gQ := HP1.out.below galw
        have gB1 := gal.trans (HB1.out.mono gal.size)
        have gB := gB1.trans (galw.mono gB1.size)
        have k10 := (Blk.new w1 [(.slice A1v (tryL xs (holdA who, 1, am)).length c1v)] 35).cell (i := 0) rfl
        clear S0 SA S1 q1 q2 c8
        obtain ⟨w5, hw5⟩ : ∃ w5, w1.alloc (.cells #[(.slice A1v (tryL xs (holdA who, 1, am)).length c1v)] 35) = w5 := ⟨_, rfl⟩
        rw [hw5] at g3 g6 g8 gP gQ gB ⊢
        replace k10 : w5.cell? ⟨w1.heap.size, 0, none⟩ = some (.slice A1v (tryL xs (holdA who, 1, am)).length c1v) := by rw [← hw5]; exact k10
        clear hw5 gal gB1 galw
        by_cases he : E = 0
        · subst he
          have HS2 := Lib.hid (show Blk (w5.setCell ⟨W.heap.size + 1 + 1, 0, none⟩ (.slice A1v (tryL xs (holdA who, 1, am)).length c1v)) W.heap.size 35 [.slice A ms.length c] ∧ Blk (w5.setCell ⟨W.heap.size + 1 + 1, 0, none⟩ (.slice A1v (tryL xs (holdA who, 1, am)).length c1v)) (W.heap.size + 1) 35 [.slice none 0 0] ∧ Blk (w5.setCell ⟨W.heap.size + 1 + 1, 0, none⟩ (.slice A1v (tryL xs (holdA who, 1, am)).length c1v)) (W.heap.size + 1 + 1) 35 [.slice A1v (tryL xs (holdA who, 1, am)).length c1v] ∧ PM (w5.setCell ⟨W.heap.size + 1 + 1, 0, none⟩ (.slice A1v (tryL xs (holdA who, 1, am)).length c1v)) (.slice A ms.length c) ms ∧ PM (w5.setCell ⟨W.heap.size + 1 + 1, 0, none⟩ (.slice A1v (tryL xs (holdA who, 1, am)).length c1v)) (.slice A1v (tryL xs (holdA who, 1, am)).length c1v) (tryL xs (holdA who, 1, am)) ∧ Below W.heap.size W (w5.setCell ⟨W.heap.size + 1 + 1, 0, none⟩ (.slice A1v (tryL xs (holdA who, 1, am)).length c1v)) from ⟨g3.other (by simp; omega) _, g6.other (by simp) _, g8.set 0 _, gP.put g8 _, gQ.put g8 _, gB.setCell (p := ⟨W.heap.size + 1 + 1, 0, none⟩) (by simp; omega) _⟩)
          have k8 := g8.cell (i := 0) rfl
          have k8f := g8.frozen 0
          clear g3 g6 g8 gP gQ gB
          go_wp2_with fail
          go_roundw
          case rel => exact ⟨k + 1, _, by congr 1, by omega, fun j m hj hm => by
            by_cases hjk : j = k
            · subst hjk; rw [HG.out] at hm; cases hm; rw [HXS.out]; exact HEE.out
            · exact HZ.out j m (by omega) hm, HS2.out.1, HS2.out.2.1, HS2.out.2.2.1, HS2.out.2.2.2.1, by rw [HST.out]; exact HS2.out.2.2.2.2.1, HS2.out.2.2.2.2.2⟩
          case measure => simp; omega
        · have hst := movesR_stop HZ.out HG.out (by rw [HXS.out, HEE.out]; exact he)
          rw [HXS.out, HEE.out] at hst
          have HST2 := Lib.hid hst
          have k3 := g3.cell (i := 0) rfl
          have k6 := g6.cell (i := 0) rfl
          have k6f := g6.frozen 0
          have HS2 := Lib.hid (show Blk (w5.setCell ⟨W.heap.size + 1, 0, none⟩ (.slice A ms.length c)) (W.heap.size + 1) 35 [.slice A ms.length c] ∧ PM (w5.setCell ⟨W.heap.size + 1, 0, none⟩ (.slice A ms.length c)) (.slice A ms.length c) ms ∧ Below W.heap.size W (w5.setCell ⟨W.heap.size + 1, 0, none⟩ (.slice A ms.length c)) from ⟨g6.set 0 _, gP.put g6 _, gB.setCell (p := ⟨W.heap.size + 1, 0, none⟩) (by simp) _⟩)
          clear g3 g6 g8 gP gQ gB hst
          go_wp2_with fail
          refine bodyPost_ret (results_ct rfl _ _ (W.heap.size + 1) 35 _ (0, 0) _ rfl HS2.out.1 Try.underlying35 rfl (by kernel_rfl)) rfl ?_
          exact ⟨_, (by rw [HST2.out.1]; rfl), (by rw [HST2.out.2]; exact HS2.out.2.1), HS2.out.2.2⟩
      · have gal := hB.out.trans (hal.drew.mono (show W.heap.size ≤ wr.heap.size from hB.out.size))
        have gz := hB.out.size
        have g3 := ((h3.out.alloc (.cells #[.slice none 0 0] 35)).drew.belowS HB1.out).other (p := ⟨wr.heap.size, 0, none⟩) (by simp; omega) (.slice A1v (tryL xs (holdA who, 1, am)).length c1v)
        have g6 := ((h6.out.alloc (.cells #[.slice none 0 0] 35)).drew.belowS HB1.out).other (p := ⟨wr.heap.size, 0, none⟩) (by simp; omega) (.slice A1v (tryL xs (holdA who, 1, am)).length c1v)
        have g8 := ((h8.out.alloc (.cells #[.slice none 0 0] 35)).drew.belowS HB1.out).other (p := ⟨wr.heap.size, 0, none⟩) (by simp; omega) (.slice A1v (tryL xs (holdA who, 1, am)).length c1v)
        have gP := ((hP.out.below hal.drew).below HB1.out).put B10 (.slice A1v (tryL xs (holdA who, 1, am)).length c1v)
        have gQ := HP1.out.put B10 (.slice A1v (tryL xs (holdA who, 1, am)).length c1v)
        have gB := (gal.trans (HB1.out.mono gal.size)).setCell (p := ⟨wr.heap.size, 0, none⟩) gz (.slice A1v (tryL xs (holdA who, 1, am)).length c1v)
        have k10 := (B10.set 0 (.slice A1v (tryL xs (holdA who, 1, am)).length c1v)).cell (i := 0) rfl
        clear S0 SA S1 B10 c10 f10 q1 q2 c8
        obtain ⟨w5, hw5⟩ : ∃ w5, w1.setCell ⟨wr.heap.size, 0, none⟩ (.slice A1v (tryL xs (holdA who, 1, am)).length c1v) = w5 := ⟨_, rfl⟩
        rw [hw5] at g3 g6 g8 gP gQ gB k10 ⊢
        clear hw5 gal
        by_cases he : E = 0
        · subst he
          have HS2 := Lib.hid (show Blk (w5.setCell ⟨W.heap.size + 1 + 1, 0, none⟩ (.slice A1v (tryL xs (holdA who, 1, am)).length c1v)) W.heap.size 35 [.slice A ms.length c] ∧ Blk (w5.setCell ⟨W.heap.size + 1 + 1, 0, none⟩ (.slice A1v (tryL xs (holdA who, 1, am)).length c1v)) (W.heap.size + 1) 35 [.slice none 0 0] ∧ Blk (w5.setCell ⟨W.heap.size + 1 + 1, 0, none⟩ (.slice A1v (tryL xs (holdA who, 1, am)).length c1v)) (W.heap.size + 1 + 1) 35 [.slice A1v (tryL xs (holdA who, 1, am)).length c1v] ∧ PM (w5.setCell ⟨W.heap.size + 1 + 1, 0, none⟩ (.slice A1v (tryL xs (holdA who, 1, am)).length c1v)) (.slice A ms.length c) ms ∧ PM (w5.setCell ⟨W.heap.size + 1 + 1, 0, none⟩ (.slice A1v (tryL xs (holdA who, 1, am)).length c1v)) (.slice A1v (tryL xs (holdA who, 1, am)).length c1v) (tryL xs (holdA who, 1, am)) ∧ Below W.heap.size W (w5.setCell ⟨W.heap.size + 1 + 1, 0, none⟩ (.slice A1v (tryL xs (holdA who, 1, am)).length c1v)) from ⟨g3.other (by simp; omega) _, g6.other (by simp) _, g8.set 0 _, gP.put g8 _, gQ.put g8 _, gB.setCell (p := ⟨W.heap.size + 1 + 1, 0, none⟩) (by simp; omega) _⟩)
          have k8 := g8.cell (i := 0) rfl
          have k8f := g8.frozen 0
          clear g3 g6 g8 gP gQ gB
          go_wp2_with fail
          go_roundw
          case rel => exact ⟨k + 1, _, by congr 1, by omega, fun j m hj hm => by
            by_cases hjk : j = k
            · subst hjk; rw [HG.out] at hm; cases hm; rw [HXS.out]; exact HEE.out
            · exact HZ.out j m (by omega) hm, HS2.out.1, HS2.out.2.1, HS2.out.2.2.1, HS2.out.2.2.2.1, by rw [HST.out]; exact HS2.out.2.2.2.2.1, HS2.out.2.2.2.2.2⟩
          case measure => simp; omega
        · have hst := movesR_stop HZ.out HG.out (by rw [HXS.out, HEE.out]; exact he)
          rw [HXS.out, HEE.out] at hst
          have HST2 := Lib.hid hst
          have k3 := g3.cell (i := 0) rfl
          have k6 := g6.cell (i := 0) rfl
          have k6f := g6.frozen 0
          have HS2 := Lib.hid (show Blk (w5.setCell ⟨W.heap.size + 1, 0, none⟩ (.slice A ms.length c)) (W.heap.size + 1) 35 [.slice A ms.length c] ∧ PM (w5.setCell ⟨W.heap.size + 1, 0, none⟩ (.slice A ms.length c)) (.slice A ms.length c) ms ∧ Below W.heap.size W (w5.setCell ⟨W.heap.size + 1, 0, none⟩ (.slice A ms.length c)) from ⟨g6.set 0 _, gP.put g6 _, gB.setCell (p := ⟨W.heap.size + 1, 0, none⟩) (by simp) _⟩)
          clear g3 g6 g8 gP gQ gB hst
          go_wp2_with fail
          refine bodyPost_ret (results_ct rfl _ _ (W.heap.size + 1) 35 _ (0, 0) _ rfl HS2.out.1 Try.underlying35 rfl (by kernel_rfl)) rfl ?_
          exact ⟨_, (by rw [HST2.out.1]; rfl), (by rw [HST2.out.2]; exact HS2.out.2.1), HS2.out.2.2⟩
    · obtain rfl : k = bills.length := by omega
      have he := movesR_end (ms := ms) (l := bms bills) (by rw [HML.out]; exact hz)
      rw [HML.out] at he
      obtain ⟨xs, hxs⟩ : ∃ xs, stepR ms (bms bills) bills.length = xs := ⟨_, rfl⟩
      rw [hxs] at he hQ
      obtain ⟨Aq, cq, rfl, -⟩ := id hQ
      have HE := Lib.hid he
      have k8 := hB8.cell (i := 0) rfl
      have k6 := hB6.cell (i := 0) rfl
      have k6f := hB6.frozen 0
      have HS2 := Lib.hid (show Blk (wr.setCell ⟨W.heap.size + 1, 0, none⟩ (.slice Aq xs.length cq)) (W.heap.size + 1) 35 [.slice Aq xs.length cq] ∧ PM (wr.setCell ⟨W.heap.size + 1, 0, none⟩ (.slice Aq xs.length cq)) (.slice Aq xs.length cq) xs ∧ Below W.heap.size W (wr.setCell ⟨W.heap.size + 1, 0, none⟩ (.slice Aq xs.length cq)) from ⟨hB6.set 0 _, hQ.put hB6 _, hB.setCell (p := ⟨W.heap.size + 1, 0, none⟩) (by simp) _⟩)
      clear hB3 hB6 hB8 hP hQ hB hz he hxs
      go_wp2_with fail
      refine bodyPost_ret (results_ct rfl _ _ (W.heap.size + 1) 35 _ (0, 0) _ rfl HS2.out.1 Try.underlying35 rfl (by kernel_rfl)) rfl ?_
      exact ⟨_, (by rw [HE.out.1]; rfl), (by rw [HE.out.2]; exact HS2.out.2.1), HS2.out.2.2⟩

end Go.Proofs.Ytmdacfgofilbdaa.Led
