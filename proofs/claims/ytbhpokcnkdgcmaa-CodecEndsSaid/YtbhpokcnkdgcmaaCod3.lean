/- layer 5: a whole number is read. -/
import Derived.Test.YtbhpokcnkdgcmaaCod2
set_option linter.unusedSimpArgs false
set_option linter.unusedVariables false
namespace Go.Proofs.Ytbhpokcnkdgcmaa.Cod
open Go.RowKit Go.Shelf Go.Proofs.YtbhpokcnkdgcmaaW.PrintWords Go.Proofs.Ytbhpokcnkdgcmaa.CodL
attribute [local go_sem] Oper.semAt_some

/-- the first bytes are behind: where the row has room, or none -/
theorem im_drop {W : World} {n₀ p b off c k : Nat} {bs : List Int} (h1 : p < n₀) (h2 : n₀ ≤ W.heap.size) (hP : Blk W p 136 [.slice (some ⟨b, off, none⟩) bs.length c, .int .i64 0]) (h4 : bs.length ≤ c) (h6 : (Kd.int .u8).C W (some ⟨b, off, none⟩) bs.length bs) (h7 : b < n₀ ∧ b ≠ p) (hk : k ≤ bs.length) (off' c' : Nat) (ho : (off' = off + k ∧ c' = c - k) ∨ (c = k ∧ c' = 0)) :
    IM (W.setCell ⟨p, 0, none⟩ (.slice (some ⟨b, off', none⟩) (bs.length - k) c')) n₀ p (bs.drop k, 0) := by
  have e : (bs.drop k).length = bs.length - k := List.length_drop
  have hP2 := hP.set 0 (.slice (some ⟨b, off', none⟩) (bs.length - k) c')
  refine ⟨h1, by simpa using h2, some ⟨b, off', none⟩, c', by rw [e]; exact hP2, by rw [e]; omega, by simp, C_mk (by rw [e]; have := h6.2.1; omega) (fun j x hx => ?_), fun ad e => by cases e; exact h7⟩
  have hj := (List.getElem?_eq_some_iff.1 hx).1
  rw [e] at hj
  rw [List.getElem?_drop] at hx
  rcases ho with ⟨rfl, rfl⟩ | ⟨rfl, rfl⟩
  · obtain ⟨b', off'', e', _, hcell⟩ := C_row h6 (by omega)
    cases e'
    have := hcell _ _ hx
    unfold World.cell? at this ⊢
    rw [Below.heap_setCell W ⟨p, 0, none⟩ _ b h7.2, Nat.add_assoc]
    exact this
  · omega

set_option maxRecDepth 100000 in
set_option maxHeartbeats 4000000 in
theorem in_uint_ok (W : World) (n₀ p : Nat) (bs : List Int) (hb : ∀ x ∈ bs, 0 ≤ x ∧ x < 256) (hl : bs.length ≤ 1099511627776) (hM : IM W n₀ p (bs, 0)) (h0 : (lenAux 0 bs).2 = 0) :
    Calls Try.prog 68 #[.pointer (some ⟨p, 0, none⟩)] W fun e w' => e = .returned (.int .u64 (val (bs.take (lenAux 0 bs).1) : Int)) ∧ IM w' n₀ p (bs.drop (lenAux 0 bs).1, 0) ∧ W.grownBy w' (some p) := by
  obtain ⟨h1, h2, A, c, hP, h4, h5, h6, h7⟩ := hM
  dsimp only at hP h4 h6
  have k0 := hP.cell (i := 0) rfl
  have k1 := hP.cell (i := 1) rfl
  have f0 := hP.frozen 0
  obtain ⟨q1, q2, q3, q4⟩ := lenAux_ok bs 0 (by omega) h0
  have hlen := length_any W A c bs hl h6 h4
  rw [h0] at hlen
  obtain ⟨n, hn⟩ : ∃ n, (lenAux 0 bs).1 = n := ⟨_, rfl⟩
  rw [hn] at hlen q1 q2 q3 q4 ⊢
  have hvs := fun i hi hil => val_step (i := i) hb h0 hn hi hil
  have HN := Lib.hid hn; clear hn
  have H0 := Lib.hid h0; clear h0
  have HL := Lib.hid hlen; clear hlen
  have hc1 : (n : Int) ≤ (bs.length : Int) := by omega
  have hc2 : (bs.length : Int) ≤ (c : Int) := by omega
  have hc3 : (n : Int) ≤ (c : Int) := by omega
  have hc4 : (bs.length : Int) ≤ 1099511627776 := by omega
  have hc5 : (n : Int) ≤ 10 := by omega
  have hc6 : (0 : Int) ≤ (n : Int) := by omega
  obtain ⟨b, off, rfl, hbl, hcell⟩ := C_row h6 (by omega)
  have h7b := h7 _ rfl
  go_enter Try.func68, Try.ntmps68
  go_wp2_with fail
  refine HL.out.mono ?_; rintro e w1 ⟨rfl, m1, rfl⟩
  go_wp2_with fail
  go_loop [5, 33] (fun o i => ∃ k : Nat, k ≤ n ∧ i = .int .i64 (k : Int) ∧ o = .int .u64 (val (bs.take k) : Int)) (fun _ i => (n - (intOf i).toNat))
  case atStart => exact ⟨0, Nat.zero_le _, rfl, rfl⟩
  case round =>
    obtain ⟨k, hk, rfl, rfl⟩ := hrel
    by_cases hin : k < n
    · have hil : k < bs.length := by omega
      obtain ⟨v1, v2, v3, v4⟩ := hvs k hin hil
      have hcl := hcell k bs[k] (List.getElem?_eq_getElem hil)
      have hbk := hb bs[k] (List.getElem_mem hil)
      have HV := Lib.hid v1; clear v1 hvs hcell q4
      generalize hx : bs[k] = x at *
      have HX := Lib.hid hx; clear hx
      generalize hy : val (bs.take k) = y at *
      have HY := Lib.hid hy; clear hy
      have k0' : (0 : Int) ≤ (k : Int) := by omega
      have k1' : (k : Int) < (n : Int) := by omega
      have k2' : (k : Int) ≤ 10 := by omega
      have hx0 := hbk.1
      have hx1 := hbk.2
      go_wp2_with fail
      refine ⟨⟨k + 1, by omega, by go_num, ?_⟩, by simp [intOf]; omega⟩
      rw [u64_or_shl hx0 hx1 v2 v3 v4, HV.out]
    · obtain rfl : k = n := by omega
      have hmt := Kd.C_below h6 (pw_below_drewN (Below.refl _ W) m1)
      clear hvs q4 hcell
      have k0' : (W.drewN m1).cell? ⟨p, 0, none⟩ = some (.slice (some ⟨b, off, none⟩) bs.length c) := k0
      have f0' : (W.drewN m1).frozen? ⟨p, 0, none⟩ = false := f0
      go_wp2_with fail
      all_goals
        go_ret
        exact ⟨rfl, im_drop (W := W.drewN m1) h1 h2 hP h4 hmt h7b (by omega) _ _ (by first | exact .inl ⟨rfl, rfl⟩ | exact .inr ⟨by omega, rfl⟩), grown_trans (grown_drewN W m1 _) (grownBy_setAt _ p 0 _)⟩

set_option maxRecDepth 100000 in
set_option maxHeartbeats 4000000 in
theorem in_uint_bad (W : World) (n₀ p : Nat) (bs : List Int) (hl : bs.length ≤ 1099511627776) (hM : IM W n₀ p (bs, 0)) (h0 : (lenAux 0 bs).2 ≠ 0) :
    Calls Try.prog 68 #[.pointer (some ⟨p, 0, none⟩)] W fun e w' => e = .returned (.int .u64 0) ∧ IM w' n₀ p (failS (bs, 0) (lenAux 0 bs).2) ∧ W.grownBy w' (some p) := by
  have hM0 := Lib.hid hM
  obtain ⟨h1, h2, A, c, hP, h4, h5, h6, h7⟩ := hM
  dsimp only at hP h4 h6
  have k0 := hP.cell (i := 0) rfl
  have k1 := hP.cell (i := 1) rfl
  have hlen := length_any W A c bs hl h6 h4
  obtain ⟨r, hr⟩ : ∃ r, (lenAux 0 bs).2 = r := ⟨_, rfl⟩
  rw [hr] at hlen h0 ⊢
  have HL := Lib.hid hlen; clear hlen
  have hrb : (r == 0) = false := by simpa using h0
  clear h0 hP h6
  go_enter Try.func68, Try.ntmps68
  go_wp2_with fail
  refine HL.out.mono ?_; rintro e w1 ⟨rfl, m1, rfl⟩
  go_wp2_with fail
  refine (in_fail (W.drewN m1) n₀ p (bs, 0) r (hM0.out.grown (grown_drewN W m1 none) (by simp))).mono ?_; rintro e w2 ⟨rfl, hM2, hg2⟩
  go_wp2_with fail
  go_ret
  exact ⟨rfl, hM2, grown_trans (grown_drewN W m1 _) hg2⟩

set_option maxRecDepth 100000 in
set_option maxHeartbeats 4000000 in
theorem in_uint_err (W : World) (n₀ p : Nat) (s : St) (hM : IM W n₀ p s) (h0 : s.2 ≠ 0) :
    Calls Try.prog 68 #[.pointer (some ⟨p, 0, none⟩)] W fun e w' => e = .returned (.int .u64 0) ∧ W = w' := by
  obtain ⟨h1, h2, A, c, hP, h4, h5, h6, h7⟩ := hM
  have k1 := hP.cell (i := 1) rfl
  have hrb : (s.2 == 0) = false := by simpa using h0
  clear h0 hP h6
  go_enter Try.func68, Try.ntmps68
  go_wp2_with fail
  go_ret
  exact ⟨rfl, rfl⟩

/-- a whole number is read -/
theorem in_uint (W : World) (n₀ p : Nat) (s : St) (hb : ∀ x ∈ s.1, 0 ≤ x ∧ x < 256) (hl : s.1.length ≤ 1099511627776) (hM : IM W n₀ p s) :
    Calls Try.prog 68 #[.pointer (some ⟨p, 0, none⟩)] W fun e w' => e = .returned (.int .u64 ((takeU s).2 : Int)) ∧ IM w' n₀ p (takeU s).1 ∧ W.grownBy w' (some p) := by
  obtain ⟨bs, x⟩ := s
  by_cases hx : x = 0
  · subst hx
    by_cases h0 : (lenAux 0 bs).2 = 0
    · have e : takeU (bs, 0) = ((bs.drop (lenAux 0 bs).1, 0), val (bs.take (lenAux 0 bs).1)) := by unfold takeU; rw [if_pos rfl, if_pos h0]
      rw [e]
      exact in_uint_ok W n₀ p bs hb hl hM h0
    · have e : takeU (bs, 0) = (failS (bs, 0) (lenAux 0 bs).2, 0) := by unfold takeU; rw [if_pos rfl, if_neg h0]
      rw [e]
      exact in_uint_bad W n₀ p bs hl hM h0
  · have e : takeU (bs, x) = ((bs, x), 0) := by unfold takeU; rw [if_neg hx]
    rw [e]
    exact (in_uint_err W n₀ p (bs, x) hM hx).mono fun _ _ ⟨h1, h2⟩ => by subst h2; exact ⟨h1, hM, ⟨rfl, rfl, rfl, Nat.le_refl _, fun _ _ _ => rfl⟩⟩

end Go.Proofs.Ytbhpokcnkdgcmaa.Cod
