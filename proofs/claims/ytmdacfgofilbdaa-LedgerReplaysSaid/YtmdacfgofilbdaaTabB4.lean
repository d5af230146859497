/- table B: a value is put by a key. -/
import Derived.Test.YtmdacfgofilbdaaTabB2
import Derived.Deep.LoopGhost
set_option linter.unusedSimpArgs false
set_option linter.unusedVariables false
namespace Go.Proofs.Ytmdacfgofilbdaa.TabB
open Go.RowKit Go.Proofs.Ytmdacfgofilbdaa.TabL

theorem cmp_lt (W : World) {a b : Int} (h : ltI a b = true) : Calls Try.prog 104 #[(.int .i64 a), (.int .i64 b)] W fun e w' => e = .returned (.int .i64 (-1)) ∧ W = w' := by
  have := cmp_any W a b
  rwa [show cmpV ltI a b = -1 from by unfold cmpV; rw [if_pos h]] at this
theorem cmp_gt (W : World) {a b : Int} (h : ltI b a = true) : Calls Try.prog 104 #[(.int .i64 a), (.int .i64 b)] W fun e w' => e = .returned (.int .i64 1) ∧ W = w' := by
  have := cmp_any W a b
  rwa [show cmpV ltI a b = 1 from by unfold cmpV; rw [if_neg (by rw [lin.asym h]; simp), if_pos h]] at this
theorem cmp_eq (W : World) (a : Int) : Calls Try.prog 104 #[(.int .i64 a), (.int .i64 a)] W fun e w' => e = .returned (.int .i64 0) ∧ W = w' := by
  have := cmp_any W a a
  rwa [show cmpV ltI a a = 0 from by unfold cmpV; rw [lin.irr]; rfl] at this
/-- three ways -/
theorem ways (a b : Int) : ltI a b = true ∨ ltI b a = true ∨ a = b := by
  cases h1 : ltI a b
  · cases h2 : ltI b a
    · exact .inr (.inr (lin.tot h1 h2))
    · exact .inr (.inl rfl)
  · exact .inl rfl
theorem putL_len (l : List (Int × Int)) (k : Int) (v : Int) : (putL ltI l k v).length ≤ l.length + 1 := by
  induction l with
  | nil => simp [putL]
  | cons p r ih =>
    unfold putL
    split
    · simp
    · split
      · simp; omega
      · simp

set_option maxRecDepth 100000 in
set_option maxHeartbeats 4000000 in
theorem put_any (k : Int) (v : Int) : ∀ (t : Tr) (W : World) (p : Option Addr), T W p t → Sd ltI t.toL → t.toL.length < 1099511627776 → Calls Try.prog 106 #[.pointer p, (.int .i64 k), (.int .i64 v)] W fun e w' => Ev W (putL ltI t.toL k v) e w' := by
  intro t
  induction t with
  | leaf =>
    intro W p hT hS hL
    obtain rfl : p = none := hT
    have J := Lib.hid (join_any W k v none none .leaf .leaf rfl rfl (by unfold Fit; simp [BT.toL]) (by unfold Fit; simp [BT.toL]))
    go_enter Try.func106, Try.ntmps106
    go_wp2_with fail
    refine J.out.mono ?_; rintro e w1 ⟨q1, rfl, hT1, hb1⟩
    go_wp2_with fail
    go_ret
    exact ⟨_, _, rfl, hT1, rfl, hb1⟩
  | node l k0 v0 r ihl ihr =>
    intro W p hT hS hL
    obtain ⟨bn, pl, pr, rfl, hn, hl, hr⟩ := hT
    have n0 := hn.cell (i := 0) rfl
    have n1 := hn.cell (i := 1) rfl
    have n2 := hn.cell (i := 2) rfl
    have n3 := hn.cell (i := 3) rfl
    have nlt := hn.lt
    unfold ek at n0
    unfold ev at n1
    clear hn
    simp only [BT.toL] at hS hL ⊢
    obtain ⟨sl, sr, kl, kr⟩ := hS.parts
    rw [List.length_append, List.length_cons] at hL
    rcases ways k k0 with hk | hk | hk
    · have hp := putL_lt (v := v) lin hk (L := l.toL) (R := r.toL) (p := (k0, v0))
      have hpl := putL_len l.toL k v
      have IH := fun w (hw : Below W.heap.size W w) => ihl w pl (hl.below hw) sl (by omega)
      have EV := fun w (hw : Below W.heap.size W w) q (t : Tr) (hq : T w q t) (ht : t.toL = putL ltI l.toL k v) => even_any w k0 v0 q pr t r hq (hr.below hw) (by unfold Fit; simp only [BT.toL, List.length_append, List.length_cons]; rw [ht]; omega)
      have HI := Lib.hid IH; have HE := Lib.hid EV; have HP := Lib.hid hp; have HC := Lib.hid (cmp_lt W hk)
      clear IH EV hp hk hS sl sr kl kr ihl ihr hl hr
      go_enter Try.func106, Try.ntmps106
      go_wp2_with fail
      refine HC.out.mono ?_; rintro e w1 ⟨rfl, rfl⟩
      go_wp2_with fail
      go_region_held3 (fun w' => w'.cell? ⟨bn, 0, none⟩ = some (.int .i64 k0) ∧ w'.cell? ⟨bn, 1, none⟩ = some (.int .i64 v0) ∧ w'.cell? ⟨bn, 2, none⟩ = some (.pointer pl) ∧ w'.cell? ⟨bn, 3, none⟩ = some (.pointer pr)) (go_keep) ((first
        | (go_at_call 106; (with_reducible refine (HI.out _ ((Below.refl _ _).drew)).mono ?_); rintro e w3 ⟨q3, t3, rfl, hT3, ht3, hb3'⟩; have hb3 := Below.trans (Below.drew (Below.refl W.heap.size W)) hb3'; clear hb3'; obtain ⟨hc3, hf3⟩ := bcell hb3; have hz3 := Nat.lt_of_lt_of_le nlt hb3.size; have HT3 := Lib.hid ht3; clear ht3)
        | (go_at_call 109; (with_reducible refine (HE.out _ hb3 _ _ hT3 HT3.out).mono ?_); rintro e w4 ⟨q4, t4, rfl, hT4, ht4, hb4⟩; obtain ⟨hc4, hf4⟩ := bcell hb4; have HT4 := Lib.hid ht4; clear ht4)))
      go_wp2_with fail
      go_ret
      rw [HP.out]
      exact ⟨_, _, rfl, hT4, by rw [HT4.out, HT3.out], hb3.trans (hb4.mono hb3.size)⟩
    · have hp := putL_gt (v := v) lin kl hk (R := r.toL)
      have hpl := putL_len r.toL k v
      have IH := fun w (hw : Below W.heap.size W w) => ihr w pr (hr.below hw) sr (by omega)
      have EV := fun w (hw : Below W.heap.size W w) q (t : Tr) (hq : T w q t) (ht : t.toL = putL ltI r.toL k v) => even_any w k0 v0 pl q l t (hl.below hw) hq (by unfold Fit; simp only [BT.toL, List.length_append, List.length_cons]; rw [ht]; omega)
      have HI := Lib.hid IH; have HE := Lib.hid EV; have HP := Lib.hid hp; have HC := Lib.hid (cmp_gt W hk)
      clear IH EV hp hk hS sl sr kl kr ihl ihr hl hr
      go_enter Try.func106, Try.ntmps106
      go_wp2_with fail
      refine HC.out.mono ?_; rintro e w1 ⟨rfl, rfl⟩
      go_wp2_with fail
      go_region_held3 (fun w' => w'.cell? ⟨bn, 0, none⟩ = some (.int .i64 k0) ∧ w'.cell? ⟨bn, 1, none⟩ = some (.int .i64 v0) ∧ w'.cell? ⟨bn, 2, none⟩ = some (.pointer pl) ∧ w'.cell? ⟨bn, 3, none⟩ = some (.pointer pr)) (go_keep) ((first
        | (go_at_call 106; (with_reducible refine (HI.out _ ((Below.refl _ _).drew)).mono ?_); rintro e w3 ⟨q3, t3, rfl, hT3, ht3, hb3'⟩; have hb3 := Below.trans (Below.drew (Below.refl W.heap.size W)) hb3'; clear hb3'; obtain ⟨hc3, hf3⟩ := bcell hb3; have hz3 := Nat.lt_of_lt_of_le nlt hb3.size; have HT3 := Lib.hid ht3; clear ht3)
        | (go_at_call 109; (with_reducible refine (HE.out _ hb3 _ _ hT3 HT3.out).mono ?_); rintro e w4 ⟨q4, t4, rfl, hT4, ht4, hb4⟩; obtain ⟨hc4, hf4⟩ := bcell hb4; have HT4 := Lib.hid ht4; clear ht4)))
      go_wp2_with fail
      go_ret
      rw [HP.out]
      exact ⟨_, _, rfl, hT4, by rw [HT4.out, HT3.out], hb3.trans (hb4.mono hb3.size)⟩
    · subst hk
      have hp := putL_eq (v := v) lin kl (R := r.toL)
      dsimp only at hp
      have J := fun w (hw : Below W.heap.size W w) => join_any w k v pl pr l r (hl.below hw) (hr.below hw) (by unfold Fit; omega) (by unfold Fit; omega)
      have HJ := Lib.hid J; have HP := Lib.hid hp; have HC := Lib.hid (cmp_eq W k)
      clear J hp hS sl sr kl kr ihl ihr hl hr
      go_enter Try.func106, Try.ntmps106
      go_wp2_with fail
      refine HC.out.mono ?_; rintro e w1 ⟨rfl, rfl⟩
      go_wp2_with fail
      go_region_held3 (fun w' => w'.cell? ⟨bn, 2, none⟩ = some (.pointer pl) ∧ w'.cell? ⟨bn, 3, none⟩ = some (.pointer pr)) (go_keep) ((go_at_call 111; (with_reducible refine (HJ.out _ ((Below.refl _ _).drew)).mono ?_); rintro e w3 ⟨q3, rfl, hT3, hb3'⟩; have hb3 := Below.trans (Below.drew (Below.refl W.heap.size W)) hb3'; clear hb3'; obtain ⟨hc3, hf3⟩ := bcell hb3))
      go_wp2_with fail
      go_ret
      rw [HP.out]
      exact ⟨_, _, rfl, hT3, rfl, hb3⟩

end Go.Proofs.Ytmdacfgofilbdaa.TabB

/- table B: the least node is taken off; a key is dropped. -/
set_option linter.unusedSimpArgs false
set_option linter.unusedVariables false
namespace Go.Proofs.Ytmdacfgofilbdaa.TabB
open Go.RowKit Go.Proofs.Ytmdacfgofilbdaa.TabL

theorem below_drewN (W : World) (n : Nat) : Below W.heap.size W (W.drewN n) := by
  have h := Below.refl W.heap.size W
  exact ⟨h.os, h.tape, h.output, h.size, h.block⟩
def Fst (W : World) (xs : List (Int × Int)) (e : Ending) (w' : World) : Prop := ∃ b k0 v0 q t', e = .returned (.tuple #[.pointer (some ⟨b, 0, none⟩), .pointer q]) ∧ b < W.heap.size ∧ W.cell? ⟨b, 0, none⟩ = some (.int .i64 k0) ∧ W.cell? ⟨b, 1, none⟩ = some (.int .i64 v0) ∧ T w' q t' ∧ xs = (k0, v0) :: t'.toL ∧ Below W.heap.size W w'
set_option maxRecDepth 100000 in
set_option maxHeartbeats 4000000 in
theorem first_any : ∀ (t : Tr) (W : World) (p : Option Addr), T W p t → t ≠ .leaf → Fit t → Calls Try.prog 110 #[.pointer p] W fun e w' => Fst W t.toL e w' := by
  intro t
  induction t with
  | leaf => intro W p _ h; exact absurd rfl h
  | node l k0 v0 r ihl ihr =>
    intro W p hT _ hF
    obtain ⟨bn, pl, pr, rfl, hn, hl, hr⟩ := hT
    have n0 := hn.cell (i := 0) rfl
    have n1 := hn.cell (i := 1) rfl
    have n2 := hn.cell (i := 2) rfl
    have n3 := hn.cell (i := 3) rfl
    have nlt := hn.lt
    unfold ek at n0
    unfold ev at n1
    clear hn
    have hF2 : Fit l ∧ Fit r := by unfold Fit at *; simp only [BT.toL, List.length_append, List.length_cons] at hF; omega
    cases l with
    | leaf =>
      obtain rfl : pl = none := hl
      have HR := Lib.hid hr
      clear hr ihl ihr hF hF2
      go_enter Try.func110, Try.ntmps110
      go_wp2_with fail
      go_region_held3 (fun w' => w'.cell? ⟨bn, 3, none⟩ = some (.pointer pr)) (go_keep) ((fail))
      go_wp2_with fail
      go_ret2
      exact ⟨_, k0, v0, _, r, rfl, nlt, n0, n1, HR.out.drewN _, rfl, below_drewN _ _⟩
    | node a ak av b =>
      obtain ⟨bl, rfl⟩ : ∃ b, pl = some ⟨b, 0, none⟩ := by obtain ⟨b, _, _, h, _⟩ := hl; exact ⟨b, h⟩
      have HI := Lib.hid (ihl W _ hl (by simp) hF2.1)
      have HR := Lib.hid hr
      have HF := Lib.hid hF
      clear hr ihl ihr hl hF hF2
      go_enter Try.func110, Try.ntmps110
      go_wp2_with fail
      refine HI.out.mono ?_; rintro e w1 ⟨b1, k1, v1, q1, t1, rfl, hb1lt, hk1, hv1, hT1, ht1, hb1⟩
      have HT1 := Lib.hid ht1
      have HK1 := Lib.hid hk1
      have HV1 := Lib.hid hv1
      clear ht1 hk1 hv1
      obtain ⟨hc1, hf1⟩ := bcell hb1
      have n0' := (hc1 bn 0 nlt).trans n0
      have n1' := (hc1 bn 1 nlt).trans n1
      have n2' := (hc1 bn 2 nlt).trans n2
      have n3' := (hc1 bn 3 nlt).trans n3
      have EV := fun w (hw : Below w1.heap.size w1 w) => even_any w k0 v0 q1 pr t1 r (hT1.below hw) (HR.out.below (hb1.trans (hw.mono hb1.size))) (by
        have hF := HF.out
        have ht1 := HT1.out
        unfold Fit at *
        simp only [BT.toL, List.length_append, List.length_cons] at hF ht1 ⊢
        have h2 := congrArg List.length ht1
        simp only [List.length_append, List.length_cons] at h2
        omega)
      have HE := Lib.hid EV
      clear EV n0 n1 n2 n3 hc1 hf1
      go_wp2_with fail
      go_region_held3 (fun w' => w'.cell? ⟨bn, 0, none⟩ = some (.int .i64 k0) ∧ w'.cell? ⟨bn, 1, none⟩ = some (.int .i64 v0) ∧ w'.cell? ⟨bn, 3, none⟩ = some (.pointer pr)) (go_keep) ((
        (go_at_call 109; (with_reducible refine (HE.out _ ((Below.refl _ _).drew)).mono ?_); rintro e w4 ⟨q4, t4, rfl, hT4, ht4, hb4'⟩; have hb4 := Below.trans (Below.drew (Below.refl w1.heap.size w1)) hb4'; clear hb4'; obtain ⟨hc4, hf4⟩ := bcell hb4; have hz4 := Nat.lt_of_lt_of_le nlt hb1.size; have HT4 := Lib.hid ht4; clear ht4)))
      go_wp2_with fail
      go_ret2
      refine ⟨_, k1, v1, _, t4, rfl, hb1lt, HK1.out, HV1.out, hT4, ?_, hb1.trans (hb4.mono hb1.size)⟩
      rw [HT4.out, BT.toL, HT1.out]
      rfl

set_option maxRecDepth 100000 in
set_option maxHeartbeats 4000000 in
theorem drop_any (k : Int) : ∀ (t : Tr) (W : World) (p : Option Addr), T W p t → Sd ltI t.toL → Fit t → Calls Try.prog 105 #[.pointer p, (.int .i64 k)] W fun e w' => Ev W (dropL ltI t.toL k) e w' := by
  intro t
  induction t with
  | leaf =>
    intro W p hT hS hL
    obtain rfl : p = none := hT
    go_enter Try.func105, Try.ntmps105
    go_wp2_with fail
    go_ret
    exact ⟨none, .leaf, rfl, rfl, rfl, Below.refl _ _⟩
  | node l k0 v0 r ihl ihr =>
    intro W p hT hS hL
    obtain ⟨bn, pl, pr, rfl, hn, hl, hr⟩ := hT
    have n0 := hn.cell (i := 0) rfl
    have n1 := hn.cell (i := 1) rfl
    have n2 := hn.cell (i := 2) rfl
    have n3 := hn.cell (i := 3) rfl
    have nlt := hn.lt
    unfold ek at n0
    unfold ev at n1
    clear hn
    unfold Fit at hL
    simp only [BT.toL] at hS hL ⊢
    obtain ⟨sl, sr, kl, kr⟩ := hS.parts
    rw [List.length_append, List.length_cons] at hL
    rcases ways k k0 with hk | hk | hk
    · have hp := dropL_lt lin kr hk (L := l.toL)
      have hpl : (dropL ltI l.toL k).length ≤ l.toL.length := List.length_filter_le _ _
      have IH := fun w (hw : Below W.heap.size W w) => ihl w pl (hl.below hw) sl (by unfold Fit; omega)
      have EV := fun w (hw : Below W.heap.size W w) q (t : Tr) (hq : T w q t) (ht : t.toL = dropL ltI l.toL k) => even_any w k0 v0 q pr t r hq (hr.below hw) (by unfold Fit; simp only [BT.toL, List.length_append, List.length_cons]; rw [ht]; omega)
      have HI := Lib.hid IH; have HE := Lib.hid EV; have HP := Lib.hid hp; have HC := Lib.hid (cmp_lt W hk)
      clear IH EV hp hk hS sl sr kl kr ihl ihr hl hr
      go_enter Try.func105, Try.ntmps105
      go_wp2_with fail
      refine HC.out.mono ?_; rintro e w1 ⟨rfl, rfl⟩
      go_wp2_with fail
      go_region_held3 (fun w' => w'.cell? ⟨bn, 0, none⟩ = some (.int .i64 k0) ∧ w'.cell? ⟨bn, 1, none⟩ = some (.int .i64 v0) ∧ w'.cell? ⟨bn, 2, none⟩ = some (.pointer pl) ∧ w'.cell? ⟨bn, 3, none⟩ = some (.pointer pr)) (go_keep) ((first
        | (go_at_call 105; (with_reducible refine (HI.out _ ((Below.refl _ _).drew)).mono ?_); rintro e w3 ⟨q3, t3, rfl, hT3, ht3, hb3'⟩; have hb3 := Below.trans (Below.drew (Below.refl W.heap.size W)) hb3'; clear hb3'; obtain ⟨hc3, hf3⟩ := bcell hb3; have hz3 := Nat.lt_of_lt_of_le nlt hb3.size; have HT3 := Lib.hid ht3; clear ht3)
        | (go_at_call 109; (with_reducible refine (HE.out _ hb3 _ _ hT3 HT3.out).mono ?_); rintro e w4 ⟨q4, t4, rfl, hT4, ht4, hb4⟩; obtain ⟨hc4, hf4⟩ := bcell hb4; have HT4 := Lib.hid ht4; clear ht4)))
      go_wp2_with fail
      go_ret
      rw [HP.out]
      exact ⟨_, _, rfl, hT4, by rw [HT4.out, HT3.out], hb3.trans (hb4.mono hb3.size)⟩
    · have hp := dropL_gt lin kl hk (R := r.toL)
      have hpl : (dropL ltI r.toL k).length ≤ r.toL.length := List.length_filter_le _ _
      have IH := fun w (hw : Below W.heap.size W w) => ihr w pr (hr.below hw) sr (by unfold Fit; omega)
      have EV := fun w (hw : Below W.heap.size W w) q (t : Tr) (hq : T w q t) (ht : t.toL = dropL ltI r.toL k) => even_any w k0 v0 pl q l t (hl.below hw) hq (by unfold Fit; simp only [BT.toL, List.length_append, List.length_cons]; rw [ht]; omega)
      have HI := Lib.hid IH; have HE := Lib.hid EV; have HP := Lib.hid hp; have HC := Lib.hid (cmp_gt W hk)
      clear IH EV hp hk hS sl sr kl kr ihl ihr hl hr
      go_enter Try.func105, Try.ntmps105
      go_wp2_with fail
      refine HC.out.mono ?_; rintro e w1 ⟨rfl, rfl⟩
      go_wp2_with fail
      go_region_held3 (fun w' => w'.cell? ⟨bn, 0, none⟩ = some (.int .i64 k0) ∧ w'.cell? ⟨bn, 1, none⟩ = some (.int .i64 v0) ∧ w'.cell? ⟨bn, 2, none⟩ = some (.pointer pl) ∧ w'.cell? ⟨bn, 3, none⟩ = some (.pointer pr)) (go_keep) ((first
        | (go_at_call 105; (with_reducible refine (HI.out _ ((Below.refl _ _).drew)).mono ?_); rintro e w3 ⟨q3, t3, rfl, hT3, ht3, hb3'⟩; have hb3 := Below.trans (Below.drew (Below.refl W.heap.size W)) hb3'; clear hb3'; obtain ⟨hc3, hf3⟩ := bcell hb3; have hz3 := Nat.lt_of_lt_of_le nlt hb3.size; have HT3 := Lib.hid ht3; clear ht3)
        | (go_at_call 109; (with_reducible refine (HE.out _ hb3 _ _ hT3 HT3.out).mono ?_); rintro e w4 ⟨q4, t4, rfl, hT4, ht4, hb4⟩; obtain ⟨hc4, hf4⟩ := bcell hb4; have HT4 := Lib.hid ht4; clear ht4)))
      go_wp2_with fail
      go_ret
      rw [HP.out]
      exact ⟨_, _, rfl, hT4, by rw [HT4.out, HT3.out], hb3.trans (hb4.mono hb3.size)⟩
    · subst hk
      have hp := dropL_eq lin kl kr
      dsimp only at hp
      cases r with
      | leaf =>
        obtain rfl : pr = none := hr
        have HP := Lib.hid hp; have HC := Lib.hid (cmp_eq W k); have HL := Lib.hid hl
        clear hp hS sl sr kl kr ihl ihr hl
        go_enter Try.func105, Try.ntmps105
        go_wp2_with fail
        refine HC.out.mono ?_; rintro e w1 ⟨rfl, rfl⟩
        go_wp2_with fail
        go_ret
        rw [HP.out]
        exact ⟨_, l, rfl, HL.out, by simp [BT.toL], Below.refl _ _⟩
      | node ra rk rv rb =>
        obtain ⟨br, rfl⟩ : ∃ b, pr = some ⟨b, 0, none⟩ := by obtain ⟨b, _, _, h, _⟩ := hr; exact ⟨b, h⟩
        have FI := first_any _ W _ hr (by simp) (by unfold Fit; omega)
        have HI := Lib.hid FI; have HP := Lib.hid hp; have HC := Lib.hid (cmp_eq W k); have HL := Lib.hid hl
        obtain ⟨R, hR⟩ : ∃ R, (BT.node ra rk rv rb).toL = R := ⟨_, rfl⟩
        rw [hR] at HI HP hL ⊢
        clear FI hp hS sl sr kl kr ihl ihr hl hr hR
        go_enter Try.func105, Try.ntmps105
        go_wp2_with fail
        refine HC.out.mono ?_; rintro e w1 ⟨rfl, rfl⟩
        go_wp2_with fail
        refine HI.out.mono ?_; rintro e w1 ⟨b1, k1, v1, q1, t1, rfl, hb1lt, hk1, hv1, hT1, ht1, hb1⟩
        subst ht1
        obtain ⟨hc1, hf1⟩ := bcell hb1
        have n2' := (hc1 bn 2 nlt).trans n2
        have k1' := (hc1 b1 0 hb1lt).trans hk1
        have v1' := (hc1 b1 1 hb1lt).trans hv1
        have hz1 := Nat.lt_of_lt_of_le nlt hb1.size
        have hz2 := Nat.lt_of_lt_of_le hb1lt hb1.size
        have EV := fun w (hw : Below w1.heap.size w1 w) => even_any w k1 v1 pl q1 l t1 (HL.out.below (hb1.trans (hw.mono hb1.size))) (hT1.below hw) (by
          unfold Fit
          simp only [BT.toL, List.length_append, List.length_cons] at hL ⊢
          omega)
        have HE := Lib.hid EV
        clear EV n0 n1 n2 n3 hk1 hv1 hc1 hf1
        go_wp2_with fail
        go_region_held3 (fun w' => w'.cell? ⟨b1, 0, none⟩ = some (.int .i64 k1) ∧ w'.cell? ⟨b1, 1, none⟩ = some (.int .i64 v1) ∧ w'.cell? ⟨bn, 2, none⟩ = some (.pointer pl)) (go_keep) ((
          (go_at_call 109; (with_reducible refine (HE.out _ ((Below.refl _ _).drew)).mono ?_); rintro e w4 ⟨q4, t4, rfl, hT4, ht4, hb4'⟩; have hb4 := Below.trans (Below.drew (Below.refl w1.heap.size w1)) hb4'; clear hb4'; obtain ⟨hc4, hf4⟩ := bcell hb4; have HT4 := Lib.hid ht4; clear ht4)))
        go_wp2_with fail
        go_ret
        rw [HP.out]
        exact ⟨_, _, rfl, hT4, HT4.out, hb1.trans (hb4.mono hb1.size)⟩


/-- what find says -/
def Fnd (W : World) (xs : List (Int × Int)) (k : Int) (q : Option Addr) : Prop := (getL ltI xs k = none ∧ q = none) ∨ ∃ v b, getL ltI xs k = some v ∧ q = some ⟨b, 0, none⟩ ∧ W.cell? ⟨b, 1, none⟩ = some (.int .i64 v)
set_option maxRecDepth 100000 in
set_option maxHeartbeats 4000000 in
theorem find_any (k : Int) (t0 : Tr) (W : World) (p0 : Option Addr) (hT : T W p0 t0) (hS : Sd ltI t0.toL) :
    Calls Try.prog 88 #[.pointer p0, (.int .i64 k)] W fun e w' => W = w' ∧ ∃ q, e = .returned (.pointer q) ∧ Fnd W t0.toL k q := by
  go_enter Try.func88, Try.ntmps88
  go_wp2_with fail
  go_loopg [0] t0.ht (fun g p wr => W = wr ∧ ∃ (t : Tr) (q : Option Addr), p = .pointer q ∧ T W q t ∧ Sd ltI t.toL ∧ t.ht ≤ g ∧ getL ltI t.toL k = getL ltI t0.toL k)
  case atStart => exact ⟨rfl, t0, p0, rfl, hT, hS, Nat.le_refl _, rfl⟩
  case round =>
    obtain ⟨rfl, t, q, rfl, ht, hs, hg, he⟩ := hrel
    have HT := Lib.hid hT; have HS := Lib.hid hS
    clear hT hS
    cases t with
    | leaf =>
      obtain rfl : q = none := ht
      have HE := Lib.hid he
      clear he hs hg
      go_wp2_with fail
      go_ret
      exact ⟨rfl, _, rfl, .inl ⟨by rw [← HE.out]; rfl, rfl⟩⟩
    | node l k0 v0 r =>
      obtain ⟨bn, pl, pr, rfl, hn, hl, hr⟩ := ht
      have n0 := hn.cell (i := 0) rfl
      have n1 := hn.cell (i := 1) rfl
      have n2 := hn.cell (i := 2) rfl
      have n3 := hn.cell (i := 3) rfl
      unfold ek at n0
      unfold ev at n1
      clear hn
      simp only [BT.toL] at hs he
      obtain ⟨sl, sr, kl, kr⟩ := hs.parts
      rcases ways k k0 with hk | hk | hk
      · have hp := getL_lt lin kr hk (L := l.toL)
        have HC := Lib.hid (cmp_lt W hk)
        have A := Lib.hid (show T W pl l ∧ Sd ltI l.toL ∧ l.ht < (BT.node l k0 v0 r).ht ∧ (BT.node l k0 v0 r).ht ≤ gk ∧ getL ltI l.toL k = getL ltI t0.toL k from ⟨hl, sl, by simp only [BT.ht]; omega, hg, by rw [← he, ← hp]⟩)
        clear hp hk hs sl sr kl kr hl hr he hg
        go_wp2_with fail
        refine HC.out.mono ?_; rintro e w1 ⟨rfl, rfl⟩
        go_wp2_with fail
        obtain ⟨a1, a2, a3, a4, a5⟩ := A.out
        go_roundg l.ht
        case measure => omega
        case rel => exact ⟨rfl, l, pl, rfl, a1, a2, Nat.le_refl _, a5⟩
      · have hp := getL_gt lin kl hk (R := r.toL)
        have HC := Lib.hid (cmp_gt W hk)
        have A := Lib.hid (show T W pr r ∧ Sd ltI r.toL ∧ r.ht < (BT.node l k0 v0 r).ht ∧ (BT.node l k0 v0 r).ht ≤ gk ∧ getL ltI r.toL k = getL ltI t0.toL k from ⟨hr, sr, by simp only [BT.ht]; omega, hg, by rw [← he, ← hp]⟩)
        clear hp hk hs sl sr kl kr hl hr he hg
        go_wp2_with fail
        refine HC.out.mono ?_; rintro e w1 ⟨rfl, rfl⟩
        go_wp2_with fail
        obtain ⟨a1, a2, a3, a4, a5⟩ := A.out
        go_roundg r.ht
        case measure => omega
        case rel => exact ⟨rfl, r, pr, rfl, a1, a2, Nat.le_refl _, a5⟩
      · subst hk
        have hp := getL_eq lin kl (R := r.toL)
        dsimp only at hp
        have HC := Lib.hid (cmp_eq W k)
        have A := Lib.hid (show getL ltI t0.toL k = some v0 from by rw [← he, hp])
        clear hp hs sl sr kl kr hl hr he hg
        go_wp2_with fail
        refine HC.out.mono ?_; rintro e w1 ⟨rfl, rfl⟩
        go_wp2_with fail
        go_ret
        exact ⟨rfl, _, rfl, .inr ⟨v0, bn, A.out, rfl, n1⟩⟩

end Go.Proofs.Ytmdacfgofilbdaa.TabB
