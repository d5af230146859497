/- table S: the least node is taken off; a key is dropped. -/
import Derived.Test.YtgoomogpcfpekaaTabS3
import Derived.Deep.LoopGhost
set_option linter.unusedSimpArgs false
set_option linter.unusedVariables false
namespace Go.Proofs.Ytgoomogpcfpekaa.TabS
open Go.RowKit Go.Proofs.Ytgoomogpcfpekaa.TabL

theorem below_drewN (W : World) (n : Nat) : Below W.heap.size W (W.drewN n) := by
  have h := Below.refl W.heap.size W
  exact ⟨h.os, h.tape, h.output, h.size, h.block⟩

/-- what find says -/
def Fnd (W : World) (xs : List (Int × ByteArray)) (k : Int) (q : Option Addr) : Prop := (getL ltI xs k = none ∧ q = none) ∨ ∃ v b, getL ltI xs k = some v ∧ q = some ⟨b, 0, none⟩ ∧ W.cell? ⟨b, 1, none⟩ = some (.string v)
set_option maxRecDepth 100000 in
set_option maxHeartbeats 4000000 in
theorem find_any (k : Int) (t0 : Tr) (W : World) (p0 : Option Addr) (hT : T W p0 t0) (hS : Sd ltI t0.toL) :
    Calls Try.prog 63 #[.pointer p0, (.int .i64 k)] W fun e w' => W = w' ∧ ∃ q, e = .returned (.pointer q) ∧ Fnd W t0.toL k q := by
  go_enter Try.func63, Try.ntmps63
  go_wp2_with fail
  go_loopg [0] t0.ht (fun g p wr => W = wr ∧ ∃ (t : Tr) (q : Option Addr), p = .pointer q ∧ T W q t ∧ Sd ltI t.toL ∧ t.ht ≤ g ∧ getL ltI t.toL k = getL ltI t0.toL k)
  case atStart => exact ⟨rfl, t0, p0, rfl, hT, hS, Nat.le_refl _, rfl⟩
  case round =>
    obtain ⟨rfl, t, q, rfl, ht, hs, hg, he⟩ := hrel
    have HT := Lib.hid hT; have HS := Lib.hid hS
    clear hT hS
    cases t with
    | leaf =>
      obtain rfl : q = none := ht
      have HE := Lib.hid he
      clear he hs hg
      go_wp2_with fail
      go_ret
      exact ⟨rfl, _, rfl, .inl ⟨by rw [← HE.out]; rfl, rfl⟩⟩
    | node l k0 v0 r =>
      obtain ⟨bn, pl, pr, rfl, hn, hl, hr⟩ := ht
      have n0 := hn.cell (i := 0) rfl
      have n1 := hn.cell (i := 1) rfl
      have n2 := hn.cell (i := 2) rfl
      have n3 := hn.cell (i := 3) rfl
      unfold ek at n0
      unfold ev at n1
      clear hn
      simp only [BT.toL] at hs he
      obtain ⟨sl, sr, kl, kr⟩ := hs.parts
      rcases ways k k0 with hk | hk | hk
      · have hp := getL_lt lin kr hk (L := l.toL)
        have HC := Lib.hid (cmp_lt W hk)
        have A := Lib.hid (show T W pl l ∧ Sd ltI l.toL ∧ l.ht < (BT.node l k0 v0 r).ht ∧ (BT.node l k0 v0 r).ht ≤ gk ∧ getL ltI l.toL k = getL ltI t0.toL k from ⟨hl, sl, by simp only [BT.ht]; omega, hg, by rw [← he, ← hp]⟩)
        clear hp hk hs sl sr kl kr hl hr he hg
        go_wp2_with fail
        refine HC.out.mono ?_; rintro e w1 ⟨rfl, rfl⟩
        go_wp2_with fail
        obtain ⟨a1, a2, a3, a4, a5⟩ := A.out
        go_roundg l.ht
        case measure => omega
        case rel => exact ⟨rfl, l, pl, rfl, a1, a2, Nat.le_refl _, a5⟩
      · have hp := getL_gt lin kl hk (R := r.toL)
        have HC := Lib.hid (cmp_gt W hk)
        have A := Lib.hid (show T W pr r ∧ Sd ltI r.toL ∧ r.ht < (BT.node l k0 v0 r).ht ∧ (BT.node l k0 v0 r).ht ≤ gk ∧ getL ltI r.toL k = getL ltI t0.toL k from ⟨hr, sr, by simp only [BT.ht]; omega, hg, by rw [← he, ← hp]⟩)
        clear hp hk hs sl sr kl kr hl hr he hg
        go_wp2_with fail
        refine HC.out.mono ?_; rintro e w1 ⟨rfl, rfl⟩
        go_wp2_with fail
        obtain ⟨a1, a2, a3, a4, a5⟩ := A.out
        go_roundg r.ht
        case measure => omega
        case rel => exact ⟨rfl, r, pr, rfl, a1, a2, Nat.le_refl _, a5⟩
      · subst hk
        have hp := getL_eq lin kl (R := r.toL)
        dsimp only at hp
        have HC := Lib.hid (cmp_eq W k)
        have A := Lib.hid (show getL ltI t0.toL k = some v0 from by rw [← he, hp])
        clear hp hs sl sr kl kr hl hr he hg
        go_wp2_with fail
        refine HC.out.mono ?_; rintro e w1 ⟨rfl, rfl⟩
        go_wp2_with fail
        go_ret
        exact ⟨rfl, _, rfl, .inr ⟨v0, bn, A.out, rfl, n1⟩⟩

end Go.Proofs.Ytgoomogpcfpekaa.TabS
