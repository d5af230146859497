/- hold: the document's Try. -/
import Derived.Test.YtmdacfgofilbdaaHoldT
set_option linter.unusedSimpArgs false
set_option linter.unusedVariables false
namespace Go.Proofs.Ytmdacfgofilbdaa.Led
open Go.RowKit Go.Proofs.Ytmdacfgofilbdaa.TabL Go.Proofs.YtmdacfgofilbdaaW.PrintWords Go.Proofs.Ytmdacfgofilbdaa.PHoldPlays
open Go.Proofs.Ytmdacfgofilbdaa.TabB (ltI lin getV TMg)

theorem bel_drewN {B : Nat} {W W1 : World} (h : Below B W W1) (n : Nat) : Below B W (W1.drewN n) := ⟨h.os, h.tape, h.output, h.size, h.block⟩
theorem rbal_q (W : World) (v : Value) (ms : List Mv) (a : Int) (h : PM W v ms) (hg : Good ms) (hl : ms.length ≤ 1099511627776) (n : Nat) : Calls Try.prog 38 #[v, .int .i64 a] (W.drewN n) fun e w' => e = .returned (.int .i64 (bal ms a)) ∧ ∃ m, w' = (W.drewN n).drewN m := by
  obtain ⟨A, c, rfl, h1, h2⟩ := h
  obtain ⟨k, hk⟩ := (bal_ev ms a hg hl).rounds
  have := saleroomref17_Balance.calls k A c (ms.map toV) a _ (W.drewN n) (by rw [List.length_map]; exact h2) (by rw [List.length_map]; exact h1) hk
  rw [List.length_map] at this
  exact this.mono fun _ _ ⟨x, y⟩ => ⟨x, y.out⟩
set_option maxRecDepth 100000 in
set_option maxHeartbeats 8000000 in
theorem try_good (W : World) (v : Value) (ms : List Mv) (f t n : Int) (h : PM W v ms) (hg : Good ms) (hl : ms.length ≤ 1000000)
    (h1 : rightA f = true) (h2 : rightA t = true) (h3 : f ≠ t) (h4 : rightM n = true) :
    Calls Try.prog 52 #[v, .agg #[.int .i64 f, .int .i64 t, .int .i64 n]] W fun e w' => ∃ v', e = .returned (.tuple #[v', .int .i64 (moveE (bal ms) (f, t, n))]) ∧ PM w' v' (tryL ms (f, t, n)) ∧ Below W.heap.size W w' := by
  have h0 := h
  obtain ⟨A, c, rfl, h1c, -⟩ := h0
  obtain ⟨i0, hi0, hiz0, hiz1, hiz2⟩ := info_parts infoR
  have b3 := Blk.new W [.int .i64 f, .int .i64 t, .int .i64 n] 90
  have hal : Below W.heap.size W (W.alloc (.cells #[.int .i64 f, .int .i64 t, .int .i64 n] 90)) := (Below.refl _ W).alloc (Nat.le_refl _) _
  have c30 := b3.cell (i := 0) rfl
  have c31 := b3.cell (i := 1) rfl
  have c32 := b3.cell (i := 2) rfl
  have hE := fun (e : Int) (he : moveE (bal ms) (f, t, n) = e) (hne : e ≠ 0) (w' : World) (hbw : Below W.heap.size W w') => (show ∃ v', Ending.returned (.tuple #[.slice A ms.length c, .int .i64 e]) = Ending.returned (.tuple #[v', .int .i64 (moveE (bal ms) (f, t, n))]) ∧ PM w' v' (tryL ms (f, t, n)) ∧ Below W.heap.size W w' from ⟨_, by rw [he], by unfold tryL; rw [he, if_neg hne]; exact h.below hbw, hbw⟩)
  have HE := Lib.hid hE
  clear hE
  have hn : 0 ≤ n ∧ n ≤ 1099511627776 := by unfold rightM at h4; simpa using h4
  have hc : ¬ (rightA f = false ∨ rightA t = false ∨ f = t ∨ rightM n = false) := by rw [h1, h2, h4]; simp [h3]
  have hmE : moveE (bal ms) (f, t, n) = if f ≠ 0 ∧ bal ms f - n < 0 then 40 else if bal ms f - n < -70368744177664 ∨ 70368744177664 < bal ms t + n then 2 else 0 := by unfold moveE; rw [if_neg hc]
  have hbf := hg.bnd f
  have hbt := hg.bnd t
  have BQ := fun w hw a k => rbal_q w (.slice A ms.length c) ms a hw hg (by omega) k
  obtain ⟨bb, hbb⟩ : ∃ bb, bal ms = bb := ⟨_, rfl⟩
  simp only [hbb] at BQ hbf hbt hmE
  have HBQ := Lib.hid BQ
  obtain ⟨bf, hbfe⟩ : ∃ bf, bb f = bf := ⟨_, rfl⟩
  obtain ⟨bt, hbte⟩ : ∃ bt, bb t = bt := ⟨_, rfl⟩
  rw [hbfe, hbte] at hmE
  rw [hbfe] at hbf
  rw [hbte] at hbt
  have HME := Lib.hid hmE
  have HBB := Lib.hid hbb
  clear hc hmE BQ hbb
  have q1 : -9223372036854775808 ≤ bf - n := by omega
  have q2 : bf - n ≤ 9223372036854775807 := by omega
  have q3 : -9223372036854775808 ≤ bt + n := by omega
  have q4 : bt + n ≤ 9223372036854775807 := by omega
  have e1 : IntKind.i64.wrap (bf - n) = bf - n := by rw [IntKind.wrap_i64]; omega
  have e2 : IntKind.i64.wrap (bt + n) = bt + n := by rw [IntKind.wrap_i64]; omega
  have e3 : wrap64 (bf - n) = bf - n := wrap_id q1 q2
  have e4 : wrap64 (bt + n) = bt + n := wrap_id q3 q4
  go_enter Try.func52, Try.ntmps52
  go_wp2_with fail
  refine (rright_any _ f).mono ?_; rintro e w1 ⟨rfl, hb1⟩
  rw [h1]
  have hB1 := hal.trans (hb1.mono hal.size)
  have b31 := b3.belowS hb1
  have c31' := b31.cell (i := 1) rfl
  clear hb1
  go_wp2_with fail
  refine (rright_any _ t).mono ?_; rintro e w2 ⟨rfl, hb2⟩
  rw [h2]
  have hB2 := hB1.trans (hb2.mono hB1.size)
  have b32 := b31.belowS hb2
  have c42 := b32.cell (i := 0) rfl
  have c43 := b32.cell (i := 1) rfl
  have c44 := b32.cell (i := 2) rfl
  clear hb2
  go_wp2_with fail
  refine (rrightM_any _ n).mono ?_; rintro e w3 ⟨rfl, hb3⟩
  rw [h4]
  have hB3 := hB2.trans (hb3.mono hB2.size)
  have b33 := b32.belowS hb3
  clear hb3 c42 c43 c44 c31'
  have c50 := b33.cell (i := 0) rfl
  have c51 := b33.cell (i := 1) rfl
  have c52 := b33.cell (i := 2) rfl
  have hP3 := h.below hB3
  have B3 := HBQ.out w3 hP3
  go_wp2_with fail
  go_quiet ((go_at_call 38; exact Calls.quiet_of (B3 _ _)))
  have HNX : ∀ x, moveE bb (f, t, n) = x → moveE (bal ms) (f, t, n) = x := fun x hx => by rw [HBB.out]; exact hx
  by_cases k1 : f ≠ 0 ∧ bf - n < 0
  · have he : moveE (bal ms) (f, t, n) = 40 := HNX _ (by have := HME.out; rw [if_pos k1] at this; exact this)
    have HEE := Lib.hid he
    clear he HNX HME HBB
    obtain ⟨k1a, k1b⟩ := k1
    go_wp2_with fail
    go_ret2
    exact HE.out 40 HEE.out (by decide) _ (bel_drewN hB3 _)
  · by_cases k2 : bf - n < -70368744177664 ∨ 70368744177664 < bt + n
    · have he : moveE (bal ms) (f, t, n) = 2 := HNX _ (by have := HME.out; rw [if_neg k1, if_pos k2] at this; exact this)
      have HEE := Lib.hid he
      clear he HNX HME HBB
      by_cases k0 : f = 0
      · subst k0
        by_cases k3 : bf - n < -70368744177664
        all_goals
          have k4 : bf - n < -70368744177664 ∨ ¬ bf - n < -70368744177664 ∧ 70368744177664 < bt + n := by omega
          go_wp2_with fail
          go_ret2
          exact HE.out 2 HEE.out (by decide) _ (bel_drewN hB3 _)
      · have k5 : ¬ bf - n < 0 := fun h => k1 ⟨k0, h⟩
        have k6 : ¬ bf - n < -70368744177664 := by omega
        have k7 : 70368744177664 < bt + n := by omega
        go_wp2_with fail
        go_ret2
        exact HE.out 2 HEE.out (by decide) _ (bel_drewN hB3 _)
    · have he : moveE (bal ms) (f, t, n) = 0 := HNX _ (by have := HME.out; rw [if_neg k1, if_neg k2] at this; exact this)
      have HEE := Lib.hid he
      have k6 : ¬ bf - n < -70368744177664 := by omega
      have k7 : ¬ 70368744177664 < bt + n := by omega
      have hz3 := hB3.size
      have HP3 := Lib.hid hP3; have HB3 := Lib.hid (bel_drewN hB3 nq)
      have b33q := b33.drewN nq
      clear he HNX HME HBB B3 k2 hP3 hB3 c50 c51 c52 b3 b31 b32 b33 hal c30 c31 c32 hB1 hB2 h HE
      have d0 := b33q.cell (i := 0) rfl
      have d1 := b33q.cell (i := 1) rfl
      have d2 := b33q.cell (i := 2) rfl
      have HK := Lib.hid (show w3.drewN nq = w3.drewN nq from rfl)
      obtain ⟨w4, hw4⟩ : ∃ w4, w3.drewN nq = w4 := ⟨_, rfl⟩
      have hz4 : W.heap.size + 1 ≤ w4.heap.size := by have := b33q.lt; rw [hw4] at this; omega
      have HP4 : Hid (PM w4 (.slice A ms.length c) ms) := by rw [← hw4]; exact Lib.hid (HP3.out.below (bel_drewN (Below.refl _ w3) nq))
      rw [hw4] at HB3 d0 d1 d2 b33q ⊢
      clear hw4 HP3 HK hz3
      have kk : f = 0 ∨ f ≠ 0 ∧ ¬ bf - n < 0 := by omega
      have kk' : (f != 0) = false ∨ f ≠ 0 ∧ ¬ bf - n < 0 := kk.imp (fun h => by simp [h]) id
      clear kk
      rcases kk' with kk1 | ⟨kk1, kk2⟩
      all_goals
        go_wp2_with fail
        go_loopw [8, 9] (fun v i wr => ∃ k : Nat, i = .int .i64 (k : Int) ∧ k ≤ ms.length ∧ wr.ownsRow w4.heap.size 90 3 v k (cellsOf cM (ms.take k)) ∧ Below w4.heap.size w4 wr)
          (fun _ i _ => ms.length - (match i with | .int _ n => n.toNat | _ => 0))
        case atStart => exact ⟨0, rfl, Nat.zero_le _, World.ownsRow_lit (base := w4.heap.size) (e := 90) (size := 3) w4 #[] 0 (Nat.le_refl _) (by decide) rfl, (Below.refl _ _).alloc (Nat.le_refl _) _⟩
        case round =>
          obtain ⟨k, rfl, hk, hrow, hB⟩ := hrel
          have hzr := hB.size
          by_cases hlt : k < ms.length
          · obtain ⟨⟨x, y, z⟩, hget⟩ : ∃ o, ms[k]? = some o := ⟨_, List.getElem?_eq_getElem hlt⟩
            obtain ⟨b, off, c1, e1, q0, q1, q2⟩ := (HP4.out.below hB).at hget
            obtain ⟨rfl, rfl⟩ : A = some ⟨b, off, none⟩ ∧ c = c1 := by injection e1 with e1 e2 e3; exact ⟨e1, e3⟩
            have htk : ms.take (k + 1) = ms.take k ++ [(x, y, z)] := by
              rw [List.take_succ_eq_append_getElem hlt, (List.getElem?_eq_some_iff.1 hget).2]
            have HTK := Lib.hid htk
            simp only at q0 q1 q2
            clear htk hget e1
            go_wp2_with (at_builtin; refine wpList_append_own _ rfl _ _ 33 rfl w4.heap.size 90 i0 _ 3 24 Try.underlying33 hi0 hiz0 hiz1 hiz2 rfl (by decide) _ k _ rfl (hrow.alloc _) ⟨wr.heap.size, 0, none⟩ 1 1 [.int .i64 x, .int .i64 y, .int .i64 z] rfl rfl (news_blk (Blk.new wr [.int .i64 x, .int .i64 y, .int .i64 z] 90)) (by simp [Value.oneCell']) (by unfold maxLen; omega) (by omega) (by simp; omega) ?_; intro v' w5 hO5 hg5 _)
            have hB5 : Below w4.heap.size w4 w5 := (hB.alloc (by omega) (.cells #[.int .i64 x, .int .i64 y, .int .i64 z] 90)).grown hg5 (by simp; omega) (fun r e => (own_typ hrow r e).1)
            go_wp2_with fail
            go_roundw
            case rel => exact ⟨k + 1, by congr 1, by omega, by rw [HTK.out, cellsOf_append, cellsOf_one]; exact hO5, hB5⟩
            case measure => simp; omega
          · obtain rfl : k = ms.length := by omega
            rw [List.take_of_length_le (by omega)] at hrow
            have e0 := (b33q.belowS hB).cell (i := 0) rfl
            have e1 := (b33q.belowS hB).cell (i := 1) rfl
            have e2 := (b33q.belowS hB).cell (i := 2) rfl
            clear d0 d1 d2
            go_wp2_with (at_builtin; refine wpList_append_own _ rfl _ _ 33 rfl w4.heap.size 90 i0 _ 3 24 Try.underlying33 hi0 hiz0 hiz1 hiz2 rfl (by decide) _ ms.length _ rfl (hrow.alloc _) ⟨wr.heap.size, 0, none⟩ 1 1 [.int .i64 f, .int .i64 t, .int .i64 n] rfl rfl (news_blk (Blk.new wr [.int .i64 f, .int .i64 t, .int .i64 n] 90)) (by simp [Value.oneCell']) (by unfold maxLen; omega) (by omega) (by simp; omega) ?_; intro v' w5 hO5 hg5 _)
            have hB5 : Below w4.heap.size w4 w5 := (hB.alloc (by omega) (.cells #[.int .i64 f, .int .i64 t, .int .i64 n] 90)).grown hg5 (by simp; omega) (fun r e => (own_typ hrow r e).1)
            have htl : tryL ms (f, t, n) = ms ++ [(f, t, n)] := by unfold tryL; rw [HEE.out]; rfl
            have HTL := Lib.hid htl; have HB6 := Lib.hid (HB3.out.trans (hB5.mono (by omega)))
            clear htl hB5 hg5
            go_wp2_with fail
            go_ret2
            refine ⟨_, (by rw [HEE.out]; rfl), ?_, HB6.out⟩
            rw [HTL.out]
            refine pm_own (base := w4.heap.size) (by simp; omega) ?_
            rw [cellsOf_append, cellsOf_one, List.length_append]
            exact hO5

end Go.Proofs.Ytmdacfgofilbdaa.Led

/- hold: the document's Try. -/
set_option linter.unusedSimpArgs false
set_option linter.unusedVariables false
namespace Go.Proofs.Ytmdacfgofilbdaa.Led
open Go.RowKit Go.Proofs.Ytmdacfgofilbdaa.TabL Go.Proofs.YtmdacfgofilbdaaW.PrintWords Go.Proofs.Ytmdacfgofilbdaa.PHoldPlays
open Go.Proofs.Ytmdacfgofilbdaa.TabB (ltI lin getV TMg)

set_option maxRecDepth 100000 in
set_option maxHeartbeats 8000000 in
theorem try_any (W : World) (v : Value) (ms : List Mv) (f t n : Int) (h : PM W v ms) (hg : Good ms) (hl : ms.length ≤ 1000000) :
    Calls Try.prog 52 #[v, .agg #[.int .i64 f, .int .i64 t, .int .i64 n]] W fun e w' => ∃ v', e = .returned (.tuple #[v', .int .i64 (moveE (bal ms) (f, t, n))]) ∧ PM w' v' (tryL ms (f, t, n)) ∧ Below W.heap.size W w' := by
  have h0 := h
  obtain ⟨A, c, rfl, h1c, -⟩ := h0
  have b3 := Blk.new W [.int .i64 f, .int .i64 t, .int .i64 n] 90
  have hal : Below W.heap.size W (W.alloc (.cells #[.int .i64 f, .int .i64 t, .int .i64 n] 90)) := (Below.refl _ W).alloc (Nat.le_refl _) _
  have c30 := b3.cell (i := 0) rfl
  have c31 := b3.cell (i := 1) rfl
  have c32 := b3.cell (i := 2) rfl
  have hE := fun (e : Int) (he : moveE (bal ms) (f, t, n) = e) (hne : e ≠ 0) (w' : World) (hbw : Below W.heap.size W w') => (show ∃ v', Ending.returned (.tuple #[.slice A ms.length c, .int .i64 e]) = Ending.returned (.tuple #[v', .int .i64 (moveE (bal ms) (f, t, n))]) ∧ PM w' v' (tryL ms (f, t, n)) ∧ Below W.heap.size W w' from ⟨_, by rw [he], by unfold tryL; rw [he, if_neg hne]; exact h.below hbw, hbw⟩)
  have HE := Lib.hid hE
  clear hE
  obtain ⟨w0, hw0⟩ : ∃ w0, W.alloc (.cells #[.int .i64 f, .int .i64 t, .int .i64 n] 90) = w0 := ⟨_, rfl⟩
  cases h1 : rightA f with
  | false =>
    have he : moveE (bal ms) (f, t, n) = 1 := by unfold moveE; rw [if_pos (.inl h1)]
    clear hw0
    go_enter Try.func52, Try.ntmps52
    go_wp2_with fail
    refine (rright_any _ f).mono ?_; rintro e w1 ⟨rfl, hb1⟩
    rw [h1]
    have hB1 := hal.trans (hb1.mono hal.size)
    go_wp2_with fail
    go_ret2
    exact HE.out 1 he (by decide) _ hB1
  | true =>
    cases h2 : rightA t with
    | false =>
      have he : moveE (bal ms) (f, t, n) = 1 := by unfold moveE; rw [if_pos (.inr (.inl h2))]
      clear hw0
      go_enter Try.func52, Try.ntmps52
      go_wp2_with fail
      refine (rright_any _ f).mono ?_; rintro e w1 ⟨rfl, hb1⟩
      rw [h1]
      have hB1 := hal.trans (hb1.mono hal.size)
      have c31' := (b3.belowS hb1).cell (i := 1) rfl
      clear hb1
      go_wp2_with fail
      refine (rright_any _ t).mono ?_; rintro e w2 ⟨rfl, hb2⟩
      rw [h2]
      have hB2 := hB1.trans (hb2.mono hB1.size)
      go_wp2_with fail
      go_ret2
      exact HE.out 1 he (by decide) _ hB2
    | true =>
      by_cases h3 : f = t
      · have he : moveE (bal ms) (f, t, n) = 1 := by unfold moveE; rw [if_pos (.inr (.inr (.inl h3)))]
        clear hw0
        subst h3
        go_enter Try.func52, Try.ntmps52
        go_wp2_with fail
        refine (rright_any _ f).mono ?_; rintro e w1 ⟨rfl, hb1⟩
        rw [h1]
        have hB1 := hal.trans (hb1.mono hal.size)
        have b31 := b3.belowS hb1
        have c31' := b31.cell (i := 1) rfl
        clear hb1
        go_wp2_with fail
        refine (rright_any _ f).mono ?_; rintro e w2 ⟨rfl, hb2⟩
        rw [h1]
        have hB2 := hB1.trans (hb2.mono hB1.size)
        have b32 := b31.belowS hb2
        have c42 := b32.cell (i := 0) rfl
        have c43 := b32.cell (i := 1) rfl
        clear hb2
        go_wp2_with fail
        go_ret2
        exact HE.out 1 he (by decide) _ hB2
      · cases h4 : rightM n with
        | false =>
          have he : moveE (bal ms) (f, t, n) = 1 := by unfold moveE; rw [if_pos (.inr (.inr (.inr h4)))]
          clear hw0
          go_enter Try.func52, Try.ntmps52
          go_wp2_with fail
          refine (rright_any _ f).mono ?_; rintro e w1 ⟨rfl, hb1⟩
          rw [h1]
          have hB1 := hal.trans (hb1.mono hal.size)
          have b31 := b3.belowS hb1
          have c31' := b31.cell (i := 1) rfl
          clear hb1
          go_wp2_with fail
          refine (rright_any _ t).mono ?_; rintro e w2 ⟨rfl, hb2⟩
          rw [h2]
          have hB2 := hB1.trans (hb2.mono hB1.size)
          have b32 := b31.belowS hb2
          have c42 := b32.cell (i := 0) rfl
          have c43 := b32.cell (i := 1) rfl
          have c44 := b32.cell (i := 2) rfl
          clear hb2
          go_wp2_with fail
          refine (rrightM_any _ n).mono ?_; rintro e w3 ⟨rfl, hb3⟩
          rw [h4]
          have hB3 := hB2.trans (hb3.mono hB2.size)
          clear hb3
          go_wp2_with fail
          go_ret2
          exact HE.out 1 he (by decide) _ hB3
        | true => exact try_good W _ ms f t n h hg hl h1 h2 h3 h4

end Go.Proofs.Ytmdacfgofilbdaa.Led
