/- HeapSorts. -/
import Derived.Test.YtbhpokcnkdgcmaaHeapSo
import Derived.Deep.RegionHeld3
set_option linter.unusedSimpArgs false
set_option linter.unusedVariables false
namespace Go.Proofs.Ytbhpokcnkdgcmaa.HeapP
open Go.RowKit Go.Shelf Go.Proofs.Ytbhpokcnkdgcmaa.HeapL
attribute [local go_sem] Oper.semAt_some

set_option maxRecDepth 100000 in
set_option maxHeartbeats 100000000 in
theorem sorts_neg (W : World) (sv : Value) (zs : List (Int × Int)) (hR : Rd cv 2 W.heap.size W sv zs) (hL : zs.length ≤ maxLen) (_ : ∀ z ∈ zs, (Lit.int .i64 z.1).wf = true ∧ (Lit.int .i64 z.2).wf = true) (n : Int) (hl : zs.length ≤ 200) (hn0 : n < 0) :
    Calls Try.prog 7 #[sv, .int .i64 n] W fun e w' => e = .returned (.bool true) ∧ Below W.heap.size W w' := by
  obtain ⟨a, cap, rfl, -⟩ := Rd.cells hR
  unfold maxLen at hL
  go_enter Try.func7, Try.ntmps7
  go_wp2_with fail
  refine (HeapI.alive_any W).mono ?_; rintro e w1 ⟨rfl, hB1⟩
  have hR1 := (hR.below hB1).mono hB1.size
  have hl' : (zs.length : Int) ≤ 200 := by omega
  have hsm : zs.length < 1099511627776 := by omega
  go_wp2_with fail
  refine (of_ref w1 _ zs hsm hR1).mono ?_; rintro e w2 ⟨u, rfl, hO, hB2⟩
  have hR2 := (hR1.below hB2).mono hB2.size
  have hRo := Rd.of_own cv_length (0, 0) hO
  obtain ⟨oa, oc, rfl⟩ := own_slice hO
  have hcap := own_cap hO
  rw [sortV_length] at hRo hcap ⊢
  have hcap2 : (zs.length : Int) ≤ (oc : Int) := by omega
  have hsl : (sortV ltP zs).length < 1099511627776 := by rw [sortV_length]; exact hsm
  have hR2d : Rd cv 2 w2.drew.heap.size w2.drew (.slice a zs.length cap) zs := hR2
  have hRod : Rd cv 2 w2.drew.heap.size w2.drew (.slice oa zs.length oc) (sortV ltP zs) := hRo
  have hB2d : Below w1.heap.size w1 w2.drew := hB2.drew
  have C0 : ∀ w4, Below w2.drew.heap.size w2.drew w4 → Rd cv 2 w4.heap.size w4 (.slice oa zs.length oc) (sortV ltP zs) ∧ Rd cv 2 w4.heap.size w4 (.slice a zs.length cap) zs := fun w4 hb => ⟨(hRod.below hb).mono hb.size, (hR2d.below hb).mono hb.size⟩
  have C1 : ∀ w w3 : World, Rd cv 2 w.heap.size w (.slice a zs.length cap) zs → w3 = w.alloc (.cells #[.slice a zs.length cap] 39) → Gives 98 #[.pointer (some ⟨w.heap.size, 0, none⟩)] w3.heap.size w3 ev zs (0, 0) ∧ Below w.heap.size w w3 := fun w w3 h hw => ⟨gives_of hsm h hw, by rw [hw]; exact (Below.refl _ w).alloc (Nat.le_refl _) _⟩
  have C2 : ∀ k, k ≤ zs.length → ((sortV ltP zs).take k).length < 1099511627776 := fun k hk => by rw [List.length_take]; omega
  have C3 : ∀ (w : World) k, k ≤ zs.length → Rd cv 2 w.heap.size w (.slice oa zs.length oc) (sortV ltP zs) → Rd cv 2 w.heap.size w (.slice oa k oc) ((sortV ltP zs).take k) := fun w k hk h => Rd.take h (by rw [sortV_length]; exact hk)
  have HK : Hid ((sortV ltP zs).take (Int.toNat n) = (sortV ltP zs).take 0) := Lib.hid (by rw [show n.toNat = 0 from by omega])
  have HKL : 0 ≤ zs.length := by omega
  have hn2 : n < 0 := by omega
  go_wp2_with fail
  go_region_with ((first
    | (go_at_call 41; refine (values_any w5 _ _ _).mono ?_; rintro e w6 ⟨rfl, hw6⟩; obtain ⟨hG6, hB6⟩ := C1 _ _ hR5 hw6; clear hw6)
    | (go_at_call 41; refine (values_any w2.drew _ _ _).mono ?_; rintro e w3 ⟨rfl, hw3⟩; obtain ⟨hG3, hB3⟩ := C1 _ _ hR2d hw3; clear hw3)
    | (go_at_call 40; refine (sorted_any ltP ltP_ord w3 _ #[] _ _ zs hsm (fun b p W' _ _ _ => before_bf _ _ _) hG3).mono ?_; rintro e w4 ⟨v4, rfl, hO4, hB4⟩; have hB24 := hB3.trans (hB4.mono hB3.size); obtain ⟨hRo4, hR4⟩ := C0 _ hB24; have hQ4 := Rd.of_own cv_length (0, 0) hO4)
    | (go_at_call 38; refine (same_true w7 _ _ _ (C2 0 HKL) hQ7 (C3 _ 0 HKL hRo7)).mono ?_; rintro e w8 ⟨rfl, hB8⟩; have hBf := hB25.trans ((hB57.trans (hB8.mono hB57.size)).mono hB25.size))
    | (go_at_call 38; refine (same_true w4 _ _ _ hsl hQ4 hRo4).mono ?_; rintro e w5 ⟨rfl, hB5⟩; have hB25 := hB24.trans (hB5.mono hB24.size); obtain ⟨hRo5, hR5⟩ := C0 _ hB25)
    | (go_at_call 42; refine (firsts_any ltP ltP_ord w6 _ _ #[] _ _ zs hsm (fun W' _ => before_bf _ _ _) hG6).mono ?_; rintro e w7 ⟨v7, rfl, hO7, hB7⟩; have hB57 := hB6.trans (hB7.mono hB6.size); obtain ⟨hRo7, -⟩ := C0 _ (hB25.trans (hB57.mono hB25.size)); have hQ7 := Rd.of_own cv_length (0, 0) hO7; rw [HK.out] at hQ7)))
  go_wp2_with fail
  go_ret
  exact ⟨rfl, hB1.trans ((hB2d.trans (hBf.mono hB2d.size)).mono hB1.size)⟩

end Go.Proofs.Ytbhpokcnkdgcmaa.HeapP
