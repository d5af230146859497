/- layer 5: numbers with a sign, bytes, all bytes. -/
import Derived.Test.YtbhpokcnkdgcmaaCod3
set_option linter.unusedSimpArgs false
set_option linter.unusedVariables false
namespace Go.Proofs.Ytbhpokcnkdgcmaa.Cod
open Go.RowKit Go.Shelf Go.Proofs.YtbhpokcnkdgcmaaW.PrintWords Go.Proofs.Ytbhpokcnkdgcmaa.CodL
attribute [local go_sem] Oper.semAt_some

theorem zb_bits {n : Nat} (h : n < 18446744073709551616) : bits .xor .i64 (wrap64 ((n : Int) / 2)) (wrap64 (-wrap64 (bits .and .u64 (n : Int) 1))) = zb n := by
  rw [u64_and1 n h]
  have e1 : wrap64 ((n : Int) / 2) = ((n / 2 : Nat) : Int) := by unfold wrap64; omega
  rw [e1]
  unfold zb
  by_cases h2 : n % 2 = 0
  · rw [if_pos h2, h2]
    have e2 : wrap64 (-wrap64 ((0 : Nat) : Int)) = 0 := by unfold wrap64; omega
    rw [e2, i64_xor0 (by omega) (by omega)]
  · rw [if_neg h2, show n % 2 = 1 from by omega]
    have e2 : wrap64 (-wrap64 ((1 : Nat) : Int)) = -1 := by unfold wrap64; omega
    rw [e2, i64_xorF (by omega) (by omega)]
set_option maxRecDepth 100000 in
set_option maxHeartbeats 4000000 in
theorem in_int (W : World) (n₀ p : Nat) (s : St) (hb : ∀ x ∈ s.1, 0 ≤ x ∧ x < 256) (hl : s.1.length ≤ 1099511627776) (hM : IM W n₀ p s) :
    Calls Try.prog 63 #[.pointer (some ⟨p, 0, none⟩)] W fun e w' => e = .returned (.int .i64 (takeI s).2) ∧ IM w' n₀ p (takeI s).1 ∧ W.grownBy w' (some p) := by
  have hlt := takeU_lt hb
  have hz := zb_bits hlt
  have HZ := Lib.hid hz; clear hz
  have HT := Lib.hid hlt; clear hlt
  have hn0 : (0 : Int) ≤ ((takeU s).2 : Int) := by omega
  go_enter Try.func63, Try.ntmps63
  go_wp2_with fail
  refine (in_uint W n₀ p s hb hl hM).mono ?_; rintro e w1 ⟨rfl, hM1, hg1⟩
  go_wp2_with fail
  go_ret
  rw [HZ.out]
  exact ⟨rfl, hM1, hg1⟩

set_option maxRecDepth 100000 in
set_option maxHeartbeats 4000000 in
theorem from_any (W : World) (bs : List Int) (A : Option Addr) (c : Nat) (hx : (Kd.int .u8).C W A bs.length bs) (hA0 : A = none → c = 0) (hl : bs.length ≤ 1099511627776) :
    Calls Try.prog 62 #[.slice A bs.length c] W fun e w' => ∃ p, W.heap.size ≤ p ∧ e = .returned (.pointer (some ⟨p, 0, none⟩)) ∧ IM w' w'.heap.size p (bs, 0) ∧ Below W.heap.size W w' := by
  go_enter Try.func62, Try.ntmps62
  go_wp2_with fail
  refine (clone_any W bs A c hx hA0 hl).mono ?_; rintro e w1 ⟨A1, c1, rfl, hR, hB⟩
  go_wp2_with fail
  go_ret
  obtain ⟨h4, _, h6⟩ := C_own hR
  have hbA : ∀ ad, A1 = some ad → ad.block < w1.heap.size := by
    intro ad e
    subst e
    rcases hR.2 with ⟨h, _⟩ | ⟨g, cap, cur, h, _, hg, _⟩
    · cases h
    · injection h with h1 h2 h3
      cases h1
      exact (Array.getElem?_eq_some_iff.1 hg).1
  refine ⟨_, hB.size, rfl, ⟨by simp, Nat.le_refl _, A1, c1, Blk.new w1 _ _, h4, fun e => ?_, Kd.C_alloc h6 _, fun ad e => ?_⟩, hB.alloc hB.size _⟩
  · subst e
    rcases hR.2 with ⟨h, _⟩ | ⟨g, cap, cur, h, _⟩
    · injection h
    · cases h
  · have := hbA ad e
    rw [World.size_alloc]
    omega

/-- the first bytes of a row -/
theorem C_takeB {w : World} {A : Option Addr} {bs : List Int} (h : (Kd.int .u8).C w A bs.length bs) {k : Nat} (hk : k ≤ bs.length) : (Kd.int .u8).C w A (bs.take k).length (bs.take k) := Kd.C_take h hk

set_option maxRecDepth 100000 in
set_option maxHeartbeats 4000000 in
theorem in_bytes_ok (W : World) (n₀ p : Nat) (s : St) (most : Int) (hb : ∀ x ∈ s.1, 0 ≤ x ∧ x < 256) (hl : s.1.length ≤ 1099511627776) (hM : IM W n₀ p s) (hm : most ≤ 9223372036854775807) (h0 : (takeU s).1.2 = 0) (hmx : ¬ max most 0 < ((takeU s).2 : Int)) (hn : (takeU s).2 ≤ (takeU s).1.1.length) :
    Calls Try.prog 67 #[.pointer (some ⟨p, 0, none⟩), .int .i64 most] W fun e w' => ∃ A c, e = .returned (.slice A (takeU s).2 c) ∧ w'.ownsRow W.heap.size 5 1 (.slice A (takeU s).2 c) (takeU s).2 (nums .u8 ((takeU s).1.1.take (takeU s).2)) ∧ IM w' n₀ p ((takeU s).1.1.drop (takeU s).2, 0) ∧ W.grownBy w' (some p) := by
  have hu := in_uint W n₀ p s hb hl hM
  have hln := takeU_len s
  have hlt := takeU_lt hb
  obtain ⟨⟨t, x⟩, n, hT⟩ : ∃ t n, takeU s = (t, n) := ⟨_, _, rfl⟩
  rw [hT] at hu h0 hmx hn hln hlt ⊢
  dsimp only at hu h0 hmx hn hln hlt ⊢
  subst h0
  have HU := Lib.hid hu; clear hu hT
  have HM := Lib.hid hM; clear hM
  have hmx1 : (n : Int) ≤ max most 0 := by omega
  have hn1 : (n : Int) ≤ (t.length : Int) := by omega
  have hn0 : (0 : Int) ≤ (n : Int) := by omega
  have hq0 : (0 : Int) ≤ max most 0 := by omega
  have hq1 : max most 0 ≤ 9223372036854775807 := by omega
  have ht1 : (t.length : Int) ≤ 1099511627776 := by omega
  have HL := Lib.hid hlt; clear hlt
  go_enter Try.func67, Try.ntmps67
  go_wp2_with fail
  refine HU.out.mono ?_; rintro e w1 ⟨rfl, hM1, hg1⟩
  obtain ⟨h1, h2, A, c, hP, h4, h5, h6, h7⟩ := hM1
  dsimp only at hP h4 h6
  have k0 := hP.cell (i := 0) rfl
  have k1 := hP.cell (i := 1) rfl
  have f0 := hP.frozen 0
  have hlk : (t.take n).length = n := by rw [List.length_take]; omega
  have hct := C_takeB h6 hn
  have hcl := clone_any w1 (t.take n) A n hct (fun e => by have := h5 e; omega) (by omega)
  rw [hlk] at hcl
  have HC := Lib.hid hcl; clear hcl
  have HK := Lib.hid hlk; clear hlk
  have hc1 : (n : Int) ≤ (c : Int) := by omega
  have hc2 : (t.length : Int) ≤ (c : Int) := by omega
  have hpl := hP.lt
  have hW := hg1.size
  have HH := Lib.hid hn; clear hn
  by_cases hq : 0 ≤ most
  all_goals
    clear hct
    go_wp2_with fail
    refine HC.out.mono ?_; rintro e w2 ⟨A2, c2, rfl, hR2, hb2⟩
    have hP2 := hP.belowS hb2
    have d0 := hP2.cell (i := 0) rfl
    have e0 := hP2.frozen 0
    have h6' := Kd.C_below h6 hb2
    have hap := own_apart hP2 hR2 (by decide)
    have hgs := grown_trans hg1 (⟨hb2.os, hb2.tape, hb2.output, hb2.size, fun k hk _ => hb2.block k hk⟩ : w1.grownBy w2 (some p))
    have hz2 := hb2.size
    have hR3 := own_weaken hR2 hW
    clear k0 k1 f0 h6 hb2 hP hR2 hW
    cases A with
    | none =>
      obtain rfl := h5 rfl
      have ht0 : t = [] := List.eq_nil_of_length_eq_zero (by omega)
      subst ht0
      obtain rfl : n = 0 := by have hh := HH.out; simpa using hh
      go_wp2_with fail
      go_ret
      exact ⟨A2, c2, rfl, own_setCell hR3 hap 0 _, ⟨h1, by simp; omega, none, 0, hP2.set 0 _, Nat.le_refl _, fun _ => rfl, Kd.C_nil _ _, fun _ h => by cases h⟩, grown_trans hgs (grownBy_setAt _ p 0 _)⟩
    | some ad =>
      by_cases ht0 : t.length = 0
      · have ht1 : t = [] := List.eq_nil_of_length_eq_zero ht0
        subst ht1
        obtain rfl : n = 0 := by have hh := HH.out; simpa using hh
        go_wp2_with fail
        go_ret
        exact ⟨A2, c2, rfl, own_setCell hR3 hap 0 _, ⟨h1, by simp; omega, some ad, c, hP2.set 0 _, Nat.zero_le _, by simp, ⟨rfl, by simp, fun h => absurd h (Nat.lt_irrefl 0)⟩, fun ad' h => by cases h; exact h7 _ rfl⟩, grown_trans hgs (grownBy_setAt _ p 0 _)⟩
      · obtain ⟨b, off, e, _⟩ := C_row h6' (by omega)
        cases e
        have h7b := h7 _ rfl
        go_wp2_with fail
        all_goals
          go_ret
          exact ⟨A2, c2, rfl, own_setCell hR3 hap 0 _, im_drop h1 (by omega) hP2 h4 h6' h7b HH.out _ _ (by first | exact .inl ⟨rfl, rfl⟩ | exact .inr ⟨by omega, rfl⟩), grown_trans hgs (grownBy_setAt _ p 0 _)⟩

set_option maxRecDepth 100000 in
set_option maxHeartbeats 4000000 in
theorem in_bytes_err (W : World) (n₀ p : Nat) (s : St) (most : Int) (hb : ∀ x ∈ s.1, 0 ≤ x ∧ x < 256) (hl : s.1.length ≤ 1099511627776) (hM : IM W n₀ p s) (h0 : (takeU s).1.2 ≠ 0) :
    Calls Try.prog 67 #[.pointer (some ⟨p, 0, none⟩), .int .i64 most] W fun e w' => e = .returned (.slice none 0 0) ∧ IM w' n₀ p (takeU s).1 ∧ W.grownBy w' (some p) := by
  have hu := in_uint W n₀ p s hb hl hM
  obtain ⟨⟨t, x⟩, n, hT⟩ : ∃ t n, takeU s = (t, n) := ⟨_, _, rfl⟩
  rw [hT] at hu h0 ⊢
  dsimp only at hu h0 ⊢
  have hxb : (x == 0) = false := by simpa using h0
  have HU := Lib.hid hu; clear hu hT h0 hM
  go_enter Try.func67, Try.ntmps67
  go_wp2_with fail
  refine HU.out.mono ?_; rintro e w1 ⟨rfl, hM1, hg1⟩
  have hM2 := Lib.hid hM1
  obtain ⟨h1, h2, A, c, hP, h4, h5, h6, h7⟩ := hM1
  have k1 := hP.cell (i := 1) rfl
  clear hP h6
  go_wp2_with fail
  go_ret
  exact ⟨rfl, hM2.out, hg1⟩
set_option maxRecDepth 100000 in
set_option maxHeartbeats 4000000 in
theorem in_bytes_long (W : World) (n₀ p : Nat) (s : St) (most : Int) (hb : ∀ x ∈ s.1, 0 ≤ x ∧ x < 256) (hl : s.1.length ≤ 1099511627776) (hM : IM W n₀ p s) (hm : most ≤ 9223372036854775807) (h0 : (takeU s).1.2 = 0) (hmx : max most 0 < ((takeU s).2 : Int)) :
    Calls Try.prog 67 #[.pointer (some ⟨p, 0, none⟩), .int .i64 most] W fun e w' => e = .returned (.slice none 0 0) ∧ IM w' n₀ p (failS (takeU s).1 2) ∧ W.grownBy w' (some p) := by
  have hu := in_uint W n₀ p s hb hl hM
  obtain ⟨⟨t, x⟩, n, hT⟩ : ∃ t n, takeU s = (t, n) := ⟨_, _, rfl⟩
  rw [hT] at hu h0 hmx ⊢
  dsimp only at hu h0 hmx ⊢
  subst h0
  have HU := Lib.hid hu; clear hu hT hM
  by_cases hq : 0 ≤ most
  all_goals
    have hq1 : max most 0 ≤ 9223372036854775807 := by omega
    have hq0 : (0 : Int) ≤ max most 0 := by omega
    have hq2 : most < (n : Int) := by omega
    have hq3 : (0 : Int) < (n : Int) := by omega
    go_enter Try.func67, Try.ntmps67
    go_wp2_with fail
    refine HU.out.mono ?_; rintro e w1 ⟨rfl, hM1, hg1⟩
    have hM2 := Lib.hid hM1
    obtain ⟨h1, h2, A, c, hP, h4, h5, h6, h7⟩ := hM1
    have k1 := hP.cell (i := 1) rfl
    clear hP h6
    go_wp2_with fail
    refine (in_fail w1 n₀ p _ 2 hM2.out).mono ?_; rintro e w2 ⟨rfl, hM3, hg2⟩
    go_wp2_with fail
    go_ret
    exact ⟨rfl, hM3, grown_trans hg1 hg2⟩
set_option maxRecDepth 100000 in
set_option maxHeartbeats 4000000 in
theorem in_bytes_short (W : World) (n₀ p : Nat) (s : St) (most : Int) (hb : ∀ x ∈ s.1, 0 ≤ x ∧ x < 256) (hl : s.1.length ≤ 1099511627776) (hM : IM W n₀ p s) (hm : most ≤ 9223372036854775807) (h0 : (takeU s).1.2 = 0) (hmx : ¬ max most 0 < ((takeU s).2 : Int)) (hn : (takeU s).1.1.length < (takeU s).2) :
    Calls Try.prog 67 #[.pointer (some ⟨p, 0, none⟩), .int .i64 most] W fun e w' => e = .returned (.slice none 0 0) ∧ IM w' n₀ p (failS (takeU s).1 21) ∧ W.grownBy w' (some p) := by
  have hu := in_uint W n₀ p s hb hl hM
  have hln := takeU_len s
  obtain ⟨⟨t, x⟩, n, hT⟩ : ∃ t n, takeU s = (t, n) := ⟨_, _, rfl⟩
  rw [hT] at hu h0 hmx hn hln ⊢
  dsimp only at hu h0 hmx hn hln ⊢
  subst h0
  have HU := Lib.hid hu; clear hu hT hM
  have hq0 : 0 ≤ most := by omega
  have hq1 : max most 0 ≤ 9223372036854775807 := by omega
  have hq2 : (n : Int) ≤ most := by omega
  have hq3 : (t.length : Int) < (n : Int) := by omega
  have hq4 : (t.length : Int) ≤ 1099511627776 := by omega
  go_enter Try.func67, Try.ntmps67
  go_wp2_with fail
  refine HU.out.mono ?_; rintro e w1 ⟨rfl, hM1, hg1⟩
  have hM2 := Lib.hid hM1
  obtain ⟨h1, h2, A, c, hP, h4, h5, h6, h7⟩ := hM1
  have k0 := hP.cell (i := 0) rfl
  have k1 := hP.cell (i := 1) rfl
  dsimp only at k0
  clear hP h6
  go_wp2_with fail
  refine (in_fail w1 n₀ p _ 21 hM2.out).mono ?_; rintro e w2 ⟨rfl, hM3, hg2⟩
  go_wp2_with fail
  go_ret
  exact ⟨rfl, hM3, grown_trans hg1 hg2⟩

/-- bytes are read -/
theorem in_bytes (W : World) (n₀ p : Nat) (s : St) (most : Int) (hb : ∀ x ∈ s.1, 0 ≤ x ∧ x < 256) (hl : s.1.length ≤ 1099511627776) (hM : IM W n₀ p s) (hm : most ≤ 9223372036854775807) :
    Calls Try.prog 67 #[.pointer (some ⟨p, 0, none⟩), .int .i64 most] W fun e w' => ∃ A c, e = .returned (.slice A (takeB s most).2.length c) ∧ w'.ownsRow W.heap.size 5 1 (.slice A (takeB s most).2.length c) (takeB s most).2.length (nums .u8 (takeB s most).2) ∧ IM w' n₀ p (takeB s most).1 ∧ W.grownBy w' (some p) := by
  unfold takeB
  dsimp only
  by_cases h0 : (takeU s).1.2 = 0
  · rw [if_pos h0]
    by_cases h1 : max most 0 < ((takeU s).2 : Int)
    · rw [if_pos h1]
      exact (in_bytes_long W n₀ p s most hb hl hM hm h0 h1).mono fun e w' ⟨k1, k2, k3⟩ => ⟨none, 0, k1, World.ownsRow_nil _ _ _ _, k2, k3⟩
    · rw [if_neg h1]
      by_cases h2 : (takeU s).1.1.length < (takeU s).2
      · rw [if_pos h2]
        exact (in_bytes_short W n₀ p s most hb hl hM hm h0 h1 h2).mono fun e w' ⟨k1, k2, k3⟩ => ⟨none, 0, k1, World.ownsRow_nil _ _ _ _, k2, k3⟩
      · rw [if_neg h2]
        have e : ((takeU s).1.1.take (takeU s).2).length = (takeU s).2 := by rw [List.length_take]; omega
        refine (in_bytes_ok W n₀ p s most hb hl hM hm h0 h1 (by omega)).mono fun e' w' ⟨A, c, k1, k2, k3, k4⟩ => ⟨A, c, ?_⟩
        rw [e]
        exact ⟨k1, k2, k3, k4⟩
  · rw [if_neg h0]
    exact (in_bytes_err W n₀ p s most hb hl hM h0).mono fun e w' ⟨k1, k2, k3⟩ => ⟨none, 0, k1, World.ownsRow_nil _ _ _ _, k2, k3⟩

end Go.Proofs.Ytbhpokcnkdgcmaa.Cod
