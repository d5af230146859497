/- layer 5: a list is read. -/
import Derived.Test.YtbhpokcnkdgcmaaCod5
set_option linter.unusedSimpArgs false
set_option linter.unusedVariables false
namespace Go.Proofs.Ytbhpokcnkdgcmaa.Cod
open Go.RowKit Go.Shelf Go.Proofs.YtbhpokcnkdgcmaaW.PrintWords Go.Proofs.Ytbhpokcnkdgcmaa.CodL
attribute [local go_sem] Oper.semAt_some

theorem infoN : (Try.prog.info? 2).map (fun i => (i.zero, i.size, i.bytes)) = some (some (.int .i64 0), 1, 8) := by kernel_rfl
theorem cvN_nums (xs : List Int) : cellsOf cvN xs = nums .i64 xs := by
  induction xs with
  | nil => rfl
  | cons x xs ih => simp [cellsOf, cvN, nums] at ih ⊢; exact ih

/-- one thing is read -/
structure OneT {α : Type} (ev : α → Value) (one : St → St × α) (F : Nat) (lb : Array Value) : Prop where
  enters : ∀ args w, (callFunc F args).run Try.prog w = .ok (.enter F args) w
  calls : ∀ W n₀ p s, (∀ x ∈ s.1, 0 ≤ x ∧ x < 256) → s.1.length ≤ 1099511627776 → IM W n₀ p s → Calls Try.prog F (#[.pointer (some ⟨p, 0, none⟩)] ++ lb) W fun e w' => e = .returned (ev (one s).2) ∧ IM w' n₀ p (one s).1 ∧ W.grownBy w' (some p)
  sub : ∀ s, ∃ k, (one s).1.1 = s.1.drop k
theorem takeU_zero {s : St} (h : (takeU s).1.2 ≠ 0) : (takeU s).2 = 0 := by
  unfold takeU at h ⊢
  split at h
  · rename_i h1
    rw [if_pos h1] at *
    split at h
    · exact absurd rfl h
    · rename_i h2; rw [if_neg h2]
  · rename_i h1; rw [if_neg h1]
theorem grown_own {A B C : World} {p : Nat} {row : Option Nat} (h : A.grownBy B (some p)) (k : B.grownBy C row) (hr : ∀ r, row = some r → A.heap.size ≤ r) : A.grownBy C (some p) :=
  ⟨k.os.trans h.os, k.tape.trans h.tape, k.output.trans h.output, Nat.le_trans h.size k.size, fun b hb hne => (k.block b (Nat.lt_of_lt_of_le hb h.size) (fun e => by have := hr b e.symm; omega)).trans (h.block b hb hne)⟩

set_option maxRecDepth 100000 in
set_option maxHeartbeats 4000000 in
theorem take_ok (W : World) (n₀ p : Nat) (s : St) (one : St → St × Int) (F : Nat) (lb : Array Value) (hO : OneT evN one F lb) (most : Int) (hb : ∀ x ∈ s.1, 0 ≤ x ∧ x < 256) (hl : s.1.length ≤ 1099511627776) (hM : IM W n₀ p s) (hm : most ≤ 1073741824) (h0 : (takeU s).1.2 = 0) (hmx : ¬ max most 0 < ((takeU s).2 : Int)) (hnp : 0 < (takeU s).2) :
    Calls Try.prog 65 #[.pointer (some ⟨p, 0, none⟩), .int .i64 most, .func (.func F) #[] lb] W fun e w' => ∃ v, e = .returned v ∧ w'.ownsRow W.heap.size 2 1 v (takeN one s most).2.length (cellsOf cvN (takeN one s most).2) ∧ IM w' n₀ p (takeN one s most).1 ∧ W.grownBy w' (some p) := by
  have hu := in_uint W n₀ p s hb hl hM
  have hln := takeU_len s
  have hbt := takeU_mem hb
  have hN : takeN one s most = (if (takeL one (takeU s).2 (takeU s).1 []).1.2 = 0 then takeL one (takeU s).2 (takeU s).1 [] else ((takeL one (takeU s).2 (takeU s).1 []).1, [])) := by
    unfold takeN
    dsimp only
    rw [if_pos h0, if_neg hmx]
  rw [hN]
  clear hN
  obtain ⟨t, n, hT⟩ : ∃ t n, takeU s = (t, n) := ⟨_, _, rfl⟩
  rw [hT] at hu h0 hmx hln hbt hnp ⊢
  dsimp only at hu h0 hmx hln hbt hnp ⊢
  obtain ⟨R, hRR⟩ : ∃ R, (if (takeL one n t []).1.2 = 0 then takeL one n t [] else ((takeL one n t []).1, [])) = R := ⟨_, rfl⟩
  rw [hRR]
  have HRR := Lib.hid hRR; clear hRR
  have hq : 0 ≤ most := by omega
  have hn0 : n₀ ≤ W.heap.size := hM.2.1
  have HU := Lib.hid hu; clear hu hT hM
  have hnm : n ≤ 1073741824 := by omega
  have hb0 : (t.2 == 0) = true := by simp [h0]
  have hq0 : (0 : Int) ≤ max most 0 := by omega
  have hq1 : max most 0 ≤ 9223372036854775807 := by omega
  have hq2 : (n : Int) ≤ max most 0 := by omega
  have hq3 : (0 : Int) ≤ (n : Int) := by omega
  obtain ⟨i0, hi0, hz0, hz1, hz2'⟩ := info_parts infoN
  go_enter Try.func65, Try.ntmps65
  go_wp2_with fail
  refine HU.out.mono ?_; rintro e w1 ⟨rfl, hM1, hg1⟩
  have hMk := Lib.hid hM1
  obtain ⟨h1, h2, A, c, hP, h4, h5, h6, h7⟩ := hM1
  have k1 := hP.cell (i := 1) rfl
  clear hP h6
  go_wp2_with fail
  clear k1
  go_loopw [8, 26] (fun o i wr => ∃ (k : Nat) (sk : St) (outs : List Int), k ≤ n ∧ i = .int .u64 (k : Int) ∧ takeL one n t [] = takeL one (n - k) sk outs ∧ outs.length = k ∧ (∀ x ∈ sk.1, 0 ≤ x ∧ x < 256) ∧ sk.1.length ≤ 1099511627776 ∧ wr.ownsRow W.heap.size 2 1 o k (cellsOf cvN outs) ∧ IM wr n₀ p sk ∧ W.grownBy wr (some p)) (fun _ i _ => n - (intOf i).toNat)
  case atStart => exact ⟨0, t, [], Nat.zero_le _, rfl, rfl, rfl, hbt, by omega, World.ownsRow_nil _ _ _ _, hMk.out, hg1⟩
  case round =>
    obtain ⟨k, sk, outs, hk, rfl, hL, hol, hbk, hlk, hR, hMs, hgs⟩ := hrel
    have hMc := Lib.hid hMs
    obtain ⟨_, h2', A', c', hP', _⟩ := hMs
    have k1 := hP'.cell (i := 1) rfl
    have hz := hgs.size
    clear hP'
    have j0 : (0 : Int) ≤ (k : Int) := by omega
    by_cases hin : k < n
    · have j1 : (k : Int) < (n : Int) := by omega
      have j2 : (k : Int) ≤ 1073741824 := by omega
      obtain ⟨d, hd⟩ : ∃ d, n - k = d + 1 := ⟨n - k - 1, by omega⟩
      rw [hd] at hL
      by_cases he : sk.2 = 0
      · have hb1 : (sk.2 == 0) = true := by simp [he]
        have hL2 : takeL one n t [] = takeL one d (one sk).1 (outs ++ [(one sk).2]) := by rw [hL, takeL, if_pos he]
        have HL2 := Lib.hid hL2; clear hL hL2
        obtain ⟨ks, hks⟩ := hO.sub sk
        have hbk' : ∀ x ∈ (one sk).1.1, 0 ≤ x ∧ x < 256 := fun x hx => hbk x (by rw [hks] at hx; exact List.mem_of_mem_drop hx)
        have hlk' : (one sk).1.1.length ≤ 1099511627776 := by rw [hks, List.length_drop]; omega
        have HC := Lib.hid (hO.calls wr n₀ p sk hbk hlk hMc.out)
        have eg := hO.enters
        generalize one sk = r at *
        obtain ⟨s', x⟩ := r
        dsimp only at hbk' hlk' HL2 HC hks
        clear hbk hlk hks
        go_wp2_with fail
        refine HC.out.mono ?_; rintro e w2 ⟨rfl, hM2, hg2⟩
        obtain ⟨oa, oc, rfl⟩ := own_slice hR
        have hR2 := own_move (w1 := w2) hR (fun r e => hg2.block r (own_lt hR r e) (fun e' => by
          cases e'
          have := (own_typ hR p e).1
          have := hMc.out.1
          omega))
        have hz2 := hg2.size
        unfold evN
        go_wp2_with (at_builtin; refine wpList_append_own_at _ rfl _ _ 57 rfl W.heap.size 2 i0 _ 1 8 Try.underlying57 hi0 hz0 hz1 hz2' rfl (by decide) _ k _ rfl (hR2.alloc _) ⟨w2.heap.size, 0, none⟩ 1 1 [.int .i64 x] rfl rfl (news_blk (Blk.new w2 [.int .i64 x] 2)) (by simp [Value.oneCell']) (by unfold maxLen; omega) (by omega) (by simp; omega) ?_; intro v' w3 hR3 hg3 _ _; obtain ⟨g3, c3, rfl⟩ := ownsRow_succ hR3)
        have hgo : ∀ r, (Value.slice oa k oc).ownBlock = some r → W.heap.size ≤ r := fun r e => (own_typ hR2 r e).1
        have hM3 : IM w3 n₀ p s' := (hM2.grown (World.grownBy_alloc w2 (.cells #[.int .i64 x] 2) none) (by simp)).grown hg3 (fun r e => Nat.le_trans hn0 (hgo r e))
        have hg4 := grown_own (grown_own (grown_trans hgs hg2) (World.grownBy_alloc w2 (.cells #[.int .i64 x] 2) none) (by simp)) hg3 hgo
        go_roundw
        case rel => exact ⟨k + 1, s', outs ++ [x], by omega, by go_num, by rw [show n - (k + 1) = d from by omega]; exact HL2.out, by simp [hol], hbk', hlk', by rw [cellsOf_append, cellsOf_one]; exact hR3, hM3, hg4⟩
        case measure => simp [intOf]; omega
      · have hb1 : (sk.2 == 0) = false := by simp [he]
        have hL2 : takeL one n t [] = (sk, []) := by rw [hL, takeL, if_neg he]
        have HL2 := Lib.hid hL2; clear hL hL2
        have HE := Lib.hid he; clear he
        go_wp2_with fail
        go_ret
        have e : R = (sk, []) := by rw [← HRR.out, HL2.out, if_neg HE.out]
        rw [e]
        exact ⟨_, rfl, World.ownsRow_nil _ _ _ _, hMc.out, hgs⟩
    · obtain rfl : k = n := by omega
      have hL2 : takeL one k t [] = (sk, outs) := by rw [hL, Nat.sub_self, takeL]
      have HL2 := Lib.hid hL2; clear hL hL2
      by_cases he : sk.2 = 0
      · have hb1 : (sk.2 == 0) = true := by simp [he]
        have HE := Lib.hid he; clear he
        go_wp2_with fail
        go_ret
        have e : R = (sk, outs) := by rw [← HRR.out, HL2.out, if_pos HE.out]
        rw [e]
        dsimp only
        rw [hol]
        exact ⟨_, rfl, hR, hMc.out, hgs⟩
      · have hb1 : (sk.2 == 0) = false := by simp [he]
        have HE := Lib.hid he; clear he
        go_wp2_with fail
        go_ret
        have e : R = (sk, []) := by rw [← HRR.out, HL2.out, if_neg HE.out]
        rw [e]
        exact ⟨_, rfl, World.ownsRow_nil _ _ _ _, hMc.out, hgs⟩

set_option maxRecDepth 100000 in
set_option maxHeartbeats 4000000 in
/-- none is read -/
theorem take_zero (W : World) (n₀ p : Nat) (s : St) (F : Nat) (lb : Array Value) (most : Int) (hb : ∀ x ∈ s.1, 0 ≤ x ∧ x < 256) (hl : s.1.length ≤ 1099511627776) (hM : IM W n₀ p s) (hm : most ≤ 1073741824) (hz : (takeU s).2 = 0) :
    Calls Try.prog 65 #[.pointer (some ⟨p, 0, none⟩), .int .i64 most, .func (.func F) #[] lb] W fun e w' => e = .returned (.slice none 0 0) ∧ IM w' n₀ p (takeU s).1 ∧ W.grownBy w' (some p) := by
  have hu := in_uint W n₀ p s hb hl hM
  rw [hz] at hu
  obtain ⟨t, ht⟩ : ∃ t, (takeU s).1 = t := ⟨_, rfl⟩
  rw [ht] at hu ⊢
  have HU := Lib.hid hu; clear hu ht hM hz
  have hq1 : max most 0 ≤ 9223372036854775807 := by omega
  have hq0 : (0 : Int) ≤ max most 0 := by omega
  by_cases he : t.2 = 0
  · have hb1 : (t.2 == 0) = true := by simp [he]
    by_cases hq : 0 ≤ most
    all_goals
      go_enter Try.func65, Try.ntmps65
      go_wp2_with fail
      refine HU.out.mono ?_; rintro e w1 ⟨rfl, hM1, hg1⟩
      have hMk := Lib.hid hM1
      obtain ⟨h1, h2, A, c, hP, h4, h5, h6, h7⟩ := hM1
      have k1 := hP.cell (i := 1) rfl
      clear hP h6
      go_wp2_with fail
      go_loop [8, 26] (fun o i => o = .slice none 0 0 ∧ i = .int .u64 0) (fun _ _ => 0)
      case atStart => exact ⟨rfl, rfl⟩
      case round =>
        obtain ⟨rfl, rfl⟩ := hrel
        go_wp2_with fail
        go_ret
        exact ⟨rfl, hMk.out, hg1⟩
  · have hb1 : (t.2 == 0) = false := by simp [he]
    go_enter Try.func65, Try.ntmps65
    go_wp2_with fail
    refine HU.out.mono ?_; rintro e w1 ⟨rfl, hM1, hg1⟩
    have hMk := Lib.hid hM1
    obtain ⟨h1, h2, A, c, hP, h4, h5, h6, h7⟩ := hM1
    have k1 := hP.cell (i := 1) rfl
    clear hP h6
    go_wp2_with fail
    go_loop [8, 26] (fun o i => o = .slice none 0 0 ∧ i = .int .u64 0) (fun _ _ => 0)
    case atStart => exact ⟨rfl, rfl⟩
    case round =>
      obtain ⟨rfl, rfl⟩ := hrel
      go_wp2_with fail
      go_ret
      exact ⟨rfl, hMk.out, hg1⟩

set_option maxRecDepth 100000 in
set_option maxHeartbeats 4000000 in
/-- more than may be -/
theorem take_many (W : World) (n₀ p : Nat) (s : St) (F : Nat) (lb : Array Value) (most : Int) (hb : ∀ x ∈ s.1, 0 ≤ x ∧ x < 256) (hl : s.1.length ≤ 1099511627776) (hM : IM W n₀ p s) (hm : most ≤ 1073741824) (h0 : (takeU s).1.2 = 0) (hmx : max most 0 < ((takeU s).2 : Int)) :
    Calls Try.prog 65 #[.pointer (some ⟨p, 0, none⟩), .int .i64 most, .func (.func F) #[] lb] W fun e w' => e = .returned (.slice none 0 0) ∧ IM w' n₀ p (failS (takeU s).1 3) ∧ W.grownBy w' (some p) := by
  have hu := in_uint W n₀ p s hb hl hM
  have hlt := takeU_lt hb
  obtain ⟨t, n, hT⟩ : ∃ t n, takeU s = (t, n) := ⟨_, _, rfl⟩
  rw [hT] at hu h0 hmx hlt ⊢
  dsimp only at hu h0 hmx hlt ⊢
  have HU := Lib.hid hu; clear hu hT hM
  have HT := Lib.hid hlt; clear hlt
  have hb0 : (t.2 == 0) = true := by simp [h0]
  have hq0 : (0 : Int) ≤ max most 0 := by omega
  have hq1 : max most 0 ≤ 9223372036854775807 := by omega
  have hq2 : most < (n : Int) := by omega
  have hq3 : (0 : Int) < (n : Int) := by omega
  have hF : (failS t 3).2 = 3 := by simp [failS, h0]
  have HF := Lib.hid hF; clear hF
  by_cases hq : 0 ≤ most
  all_goals
    go_enter Try.func65, Try.ntmps65
    go_wp2_with fail
    refine HU.out.mono ?_; rintro e w1 ⟨rfl, hM1, hg1⟩
    have hMk := Lib.hid hM1
    obtain ⟨h1, h2, A, c, hP, h4, h5, h6, h7⟩ := hM1
    have k1 := hP.cell (i := 1) rfl
    clear hP h6
    go_wp2_with fail
    refine (in_fail w1 n₀ p _ 3 hMk.out).mono ?_; rintro e w2 ⟨rfl, hM2, hg2⟩
    have hMl := Lib.hid hM2
    obtain ⟨h1', h2', A', c', hP', _⟩ := hM2
    have k2 := hP'.cell (i := 1) rfl
    rw [HF.out] at k2
    clear hP' k1
    go_wp2_with fail
    go_loop [8, 26] (fun o i => o = .slice none 0 0 ∧ i = .int .u64 0) (fun _ _ => 0)
    case atStart => exact ⟨rfl, rfl⟩
    case round =>
      obtain ⟨rfl, rfl⟩ := hrel
      go_wp2_with fail
      go_ret
      exact ⟨rfl, hMl.out, grown_trans hg1 hg2⟩

/-- a list is read -/
theorem take_any (W : World) (n₀ p : Nat) (s : St) (one : St → St × Int) (F : Nat) (lb : Array Value) (hO : OneT evN one F lb) (most : Int) (hb : ∀ x ∈ s.1, 0 ≤ x ∧ x < 256) (hl : s.1.length ≤ 1099511627776) (hM : IM W n₀ p s) (hm : most ≤ 1073741824) :
    Calls Try.prog 65 #[.pointer (some ⟨p, 0, none⟩), .int .i64 most, .func (.func F) #[] lb] W fun e w' => ∃ v, e = .returned v ∧ w'.ownsRow W.heap.size 2 1 v (takeN one s most).2.length (cellsOf cvN (takeN one s most).2) ∧ IM w' n₀ p (takeN one s most).1 ∧ W.grownBy w' (some p) := by
  by_cases h0 : (takeU s).1.2 = 0
  · by_cases h1 : max most 0 < ((takeU s).2 : Int)
    · have e : takeN one s most = (failS (takeU s).1 3, []) := by unfold takeN; dsimp only; rw [if_pos h0, if_pos h1]
      rw [e]
      exact (take_many W n₀ p s F lb most hb hl hM hm h0 h1).mono fun e w' ⟨k1, k2, k3⟩ => ⟨_, k1, World.ownsRow_nil _ _ _ _, k2, k3⟩
    · by_cases h2 : 0 < (takeU s).2
      · exact take_ok W n₀ p s one F lb hO most hb hl hM hm h0 h1 h2
      · have h3 : (takeU s).2 = 0 := by omega
        have e : takeN one s most = ((takeU s).1, []) := by
          unfold takeN
          dsimp only
          rw [if_pos h0, if_neg h1, h3, takeL]
          dsimp only
          rw [if_pos h0]
        rw [e]
        exact (take_zero W n₀ p s F lb most hb hl hM hm h3).mono fun e w' ⟨k1, k2, k3⟩ => ⟨_, k1, World.ownsRow_nil _ _ _ _, k2, k3⟩
  · have e : takeN one s most = ((takeU s).1, []) := by unfold takeN; dsimp only; rw [if_neg h0]
    rw [e]
    exact (take_zero W n₀ p s F lb most hb hl hM hm (takeU_zero h0)).mono fun e w' ⟨k1, k2, k3⟩ => ⟨_, k1, World.ownsRow_nil _ _ _ _, k2, k3⟩

end Go.Proofs.Ytbhpokcnkdgcmaa.Cod
