/- table B: a value is put by a key. -/
import Derived.Test.YtmdacfgofilbdaaTabB2
set_option linter.unusedSimpArgs false
set_option linter.unusedVariables false
namespace Go.Proofs.Ytmdacfgofilbdaa.TabB
open Go.RowKit Go.Proofs.Ytmdacfgofilbdaa.TabL

theorem cmp_lt (W : World) {a b : Int} (h : ltI a b = true) : Calls Try.prog 104 #[(.int .i64 a), (.int .i64 b)] W fun e w' => e = .returned (.int .i64 (-1)) ∧ W = w' := by
  have := cmp_any W a b
  rwa [show cmpV ltI a b = -1 from by unfold cmpV; rw [if_pos h]] at this
theorem cmp_gt (W : World) {a b : Int} (h : ltI b a = true) : Calls Try.prog 104 #[(.int .i64 a), (.int .i64 b)] W fun e w' => e = .returned (.int .i64 1) ∧ W = w' := by
  have := cmp_any W a b
  rwa [show cmpV ltI a b = 1 from by unfold cmpV; rw [if_neg (by rw [lin.asym h]; simp), if_pos h]] at this
theorem cmp_eq (W : World) (a : Int) : Calls Try.prog 104 #[(.int .i64 a), (.int .i64 a)] W fun e w' => e = .returned (.int .i64 0) ∧ W = w' := by
  have := cmp_any W a a
  rwa [show cmpV ltI a a = 0 from by unfold cmpV; rw [lin.irr]; rfl] at this
/-- three ways -/
theorem ways (a b : Int) : ltI a b = true ∨ ltI b a = true ∨ a = b := by
  cases h1 : ltI a b
  · cases h2 : ltI b a
    · exact .inr (.inr (lin.tot h1 h2))
    · exact .inr (.inl rfl)
  · exact .inl rfl
theorem putL_len (l : List (Int × Int)) (k : Int) (v : Int) : (putL ltI l k v).length ≤ l.length + 1 := by
  induction l with
  | nil => simp [putL]
  | cons p r ih =>
    unfold putL
    split
    · simp
    · split
      · simp; omega
      · simp

set_option maxRecDepth 100000 in
set_option maxHeartbeats 4000000 in
theorem put_any (k : Int) (v : Int) : ∀ (t : Tr) (W : World) (p : Option Addr), T W p t → Sd ltI t.toL → t.toL.length < 1099511627776 → Calls Try.prog 106 #[.pointer p, (.int .i64 k), (.int .i64 v)] W fun e w' => Ev W (putL ltI t.toL k v) e w' := by
  intro t
  induction t with
  | leaf =>
    intro W p hT hS hL
    obtain rfl : p = none := hT
    have J := Lib.hid (join_any W k v none none .leaf .leaf rfl rfl (by unfold Fit; simp [BT.toL]) (by unfold Fit; simp [BT.toL]))
    go_enter Try.func106, Try.ntmps106
    go_wp2_with fail
    refine J.out.mono ?_; rintro e w1 ⟨q1, rfl, hT1, hb1⟩
    go_wp2_with fail
    go_ret
    exact ⟨_, _, rfl, hT1, rfl, hb1⟩
  | node l k0 v0 r ihl ihr =>
    intro W p hT hS hL
    obtain ⟨bn, pl, pr, rfl, hn, hl, hr⟩ := hT
    have n0 := hn.cell (i := 0) rfl
    have n1 := hn.cell (i := 1) rfl
    have n2 := hn.cell (i := 2) rfl
    have n3 := hn.cell (i := 3) rfl
    have nlt := hn.lt
    unfold ek at n0
    unfold ev at n1
    clear hn
    simp only [BT.toL] at hS hL ⊢
    obtain ⟨sl, sr, kl, kr⟩ := hS.parts
    rw [List.length_append, List.length_cons] at hL
    rcases ways k k0 with hk | hk | hk
    · have hp := putL_lt (v := v) lin hk (L := l.toL) (R := r.toL) (p := (k0, v0))
      have hpl := putL_len l.toL k v
      have IH := fun w (hw : Below W.heap.size W w) => ihl w pl (hl.below hw) sl (by omega)
      have EV := fun w (hw : Below W.heap.size W w) q (t : Tr) (hq : T w q t) (ht : t.toL = putL ltI l.toL k v) => even_any w k0 v0 q pr t r hq (hr.below hw) (by unfold Fit; simp only [BT.toL, List.length_append, List.length_cons]; rw [ht]; omega)
      have HI := Lib.hid IH; have HE := Lib.hid EV; have HP := Lib.hid hp; have HC := Lib.hid (cmp_lt W hk)
      clear IH EV hp hk hS sl sr kl kr ihl ihr hl hr
      go_enter Try.func106, Try.ntmps106
      go_wp2_with fail
      refine HC.out.mono ?_; rintro e w1 ⟨rfl, rfl⟩
      go_wp2_with fail
      go_region_held3 (fun w' => w'.cell? ⟨bn, 0, none⟩ = some (.int .i64 k0) ∧ w'.cell? ⟨bn, 1, none⟩ = some (.int .i64 v0) ∧ w'.cell? ⟨bn, 2, none⟩ = some (.pointer pl) ∧ w'.cell? ⟨bn, 3, none⟩ = some (.pointer pr)) (go_keep) ((first
        | (go_at_call 106; (with_reducible refine (HI.out _ ((Below.refl _ _).drew)).mono ?_); rintro e w3 ⟨q3, t3, rfl, hT3, ht3, hb3'⟩; have hb3 := Below.trans (Below.drew (Below.refl W.heap.size W)) hb3'; clear hb3'; obtain ⟨hc3, hf3⟩ := bcell hb3; have hz3 := Nat.lt_of_lt_of_le nlt hb3.size; have HT3 := Lib.hid ht3; clear ht3)
        | (go_at_call 109; (with_reducible refine (HE.out _ hb3 _ _ hT3 HT3.out).mono ?_); rintro e w4 ⟨q4, t4, rfl, hT4, ht4, hb4⟩; obtain ⟨hc4, hf4⟩ := bcell hb4; have HT4 := Lib.hid ht4; clear ht4)))
      go_wp2_with fail
      go_ret
      rw [HP.out]
      exact ⟨_, _, rfl, hT4, by rw [HT4.out, HT3.out], hb3.trans (hb4.mono hb3.size)⟩
    · have hp := putL_gt (v := v) lin kl hk (R := r.toL)
      have hpl := putL_len r.toL k v
      have IH := fun w (hw : Below W.heap.size W w) => ihr w pr (hr.below hw) sr (by omega)
      have EV := fun w (hw : Below W.heap.size W w) q (t : Tr) (hq : T w q t) (ht : t.toL = putL ltI r.toL k v) => even_any w k0 v0 pl q l t (hl.below hw) hq (by unfold Fit; simp only [BT.toL, List.length_append, List.length_cons]; rw [ht]; omega)
      have HI := Lib.hid IH; have HE := Lib.hid EV; have HP := Lib.hid hp; have HC := Lib.hid (cmp_gt W hk)
      clear IH EV hp hk hS sl sr kl kr ihl ihr hl hr
      go_enter Try.func106, Try.ntmps106
      go_wp2_with fail
      refine HC.out.mono ?_; rintro e w1 ⟨rfl, rfl⟩
      go_wp2_with fail
      go_region_held3 (fun w' => w'.cell? ⟨bn, 0, none⟩ = some (.int .i64 k0) ∧ w'.cell? ⟨bn, 1, none⟩ = some (.int .i64 v0) ∧ w'.cell? ⟨bn, 2, none⟩ = some (.pointer pl) ∧ w'.cell? ⟨bn, 3, none⟩ = some (.pointer pr)) (go_keep) ((first
        | (go_at_call 106; (with_reducible refine (HI.out _ ((Below.refl _ _).drew)).mono ?_); rintro e w3 ⟨q3, t3, rfl, hT3, ht3, hb3'⟩; have hb3 := Below.trans (Below.drew (Below.refl W.heap.size W)) hb3'; clear hb3'; obtain ⟨hc3, hf3⟩ := bcell hb3; have hz3 := Nat.lt_of_lt_of_le nlt hb3.size; have HT3 := Lib.hid ht3; clear ht3)
        | (go_at_call 109; (with_reducible refine (HE.out _ hb3 _ _ hT3 HT3.out).mono ?_); rintro e w4 ⟨q4, t4, rfl, hT4, ht4, hb4⟩; obtain ⟨hc4, hf4⟩ := bcell hb4; have HT4 := Lib.hid ht4; clear ht4)))
      go_wp2_with fail
      go_ret
      rw [HP.out]
      exact ⟨_, _, rfl, hT4, by rw [HT4.out, HT3.out], hb3.trans (hb4.mono hb3.size)⟩
    · subst hk
      have hp := putL_eq (v := v) lin kl (R := r.toL)
      dsimp only at hp
      have J := fun w (hw : Below W.heap.size W w) => join_any w k v pl pr l r (hl.below hw) (hr.below hw) (by unfold Fit; omega) (by unfold Fit; omega)
      have HJ := Lib.hid J; have HP := Lib.hid hp; have HC := Lib.hid (cmp_eq W k)
      clear J hp hS sl sr kl kr ihl ihr hl hr
      go_enter Try.func106, Try.ntmps106
      go_wp2_with fail
      refine HC.out.mono ?_; rintro e w1 ⟨rfl, rfl⟩
      go_wp2_with fail
      go_region_held3 (fun w' => w'.cell? ⟨bn, 2, none⟩ = some (.pointer pl) ∧ w'.cell? ⟨bn, 3, none⟩ = some (.pointer pr)) (go_keep) ((go_at_call 111; (with_reducible refine (HJ.out _ ((Below.refl _ _).drew)).mono ?_); rintro e w3 ⟨q3, rfl, hT3, hb3'⟩; have hb3 := Below.trans (Below.drew (Below.refl W.heap.size W)) hb3'; clear hb3'; obtain ⟨hc3, hf3⟩ := bcell hb3))
      go_wp2_with fail
      go_ret
      rw [HP.out]
      exact ⟨_, _, rfl, hT3, rfl, hb3⟩

end Go.Proofs.Ytmdacfgofilbdaa.TabB
