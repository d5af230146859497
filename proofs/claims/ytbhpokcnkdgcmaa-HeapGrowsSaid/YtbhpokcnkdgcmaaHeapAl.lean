/- the heap laws' own functions: comparisons, the document's example. -/
import Derived.Test.YtbhpokcnkdgcmaaHeapI14
set_option linter.unusedSimpArgs false
set_option linter.unusedVariables false
namespace Go.Proofs.Ytbhpokcnkdgcmaa.HeapI
open Go.RowKit Go.Shelf Go.Proofs.Ytbhpokcnkdgcmaa.HeapL
attribute [local go_sem] Oper.semAt_some

def ltI (x y : Int) : Bool := decide (x < y)
def gtI (x y : Int) : Bool := decide (y < x)
theorem ltI_ord : Ord ltI where
  asym x y h := by simp [ltI] at *; omega
  tr x y z h1 h2 := by simp [ltI] at *; omega
theorem gtI_ord : Ord gtI where
  asym x y h := by simp [gtI] at *; omega
  tr x y z h1 h2 := by simp [gtI] at *; omega

set_option maxHeartbeats 400000 in
theorem bf1 (b p : Nat) (W : World) : BF ltI b p W 79 #[] := by
  refine ⟨enters_of Try.func79 (by kernel_rfl) rfl, fun x y W' _ => ?_⟩
  show Calls Try.prog 79 #[.int .i64 x, .int .i64 y] W' _
  go_enter Try.func79, Try.ntmps79
  go_wp2_with fail
  go_ret
  exact ⟨rfl, Below.refl _ _⟩
set_option maxHeartbeats 400000 in
theorem bf2 (b p : Nat) (W : World) : BF gtI b p W 86 #[] := by
  refine ⟨enters_of Try.func86 (by kernel_rfl) rfl, fun x y W' _ => ?_⟩
  show Calls Try.prog 86 #[.int .i64 x, .int .i64 y] W' _
  go_enter Try.func86, Try.ntmps86
  go_wp2_with fail
  go_ret
  exact ⟨rfl, Below.refl _ _⟩
set_option maxHeartbeats 400000 in
theorem bf3 (b p : Nat) (W : World) : BF ltI b p W 89 #[] := by
  refine ⟨enters_of Try.func89 (by kernel_rfl) rfl, fun x y W' _ => ?_⟩
  show Calls Try.prog 89 #[.int .i64 x, .int .i64 y] W' _
  go_enter Try.func89, Try.ntmps89
  go_wp2_with fail
  go_ret
  exact ⟨rfl, Below.refl _ _⟩
set_option maxHeartbeats 400000 in
theorem bf4 (b p : Nat) (W : World) : BF ltI b p W 91 #[] := by
  refine ⟨enters_of Try.func91 (by kernel_rfl) rfl, fun x y W' _ => ?_⟩
  show Calls Try.prog 91 #[.int .i64 x, .int .i64 y] W' _
  go_enter Try.func91, Try.ntmps91
  go_wp2_with fail
  go_ret
  exact ⟨rfl, Below.refl _ _⟩

theorem gives2 {W W2 : World} {a b : Int} {arr : TypeId} (hw : W2 = (W.alloc (.cells #[.int .i64 a, .int .i64 b] arr)).alloc (.cells #[.slice (some ⟨W.heap.size, 0, none⟩) 2 2] 110)) : Gives 117 #[.pointer (some ⟨W.heap.size + 1, 0, none⟩)] W2.heap.size W2 ev [a, b] 0 := by
  have h2 := Blk.new2 W (.cells #[.int .i64 a, .int .i64 b] arr) [.slice (some ⟨W.heap.size, 0, none⟩) 2 2] 110
  have h1 := (Blk.new W [.int .i64 a, .int .i64 b] arr).alloc (.cells #[.slice (some ⟨W.heap.size, 0, none⟩) 2 2] 110)
  have hz : W2.heap.size = W.heap.size + 2 := by rw [hw]; simp
  rw [hz, hw]
  refine values_gives _ _ _ (.slice (some ⟨W.heap.size, 0, none⟩) 2 2) [a, b] (by simp) (by omega) h2 (.inr ⟨W.heap.size, 0, 2, rfl, by omega, fun j x hx c v hv => ?_⟩)
  have hc : c = 0 := by have := (List.getElem?_eq_some_iff.1 hv).1; simp [cv] at this; omega
  subst hc
  rcases j with _ | _ | j
  · simp at hx; subst hx; exact h1.cell (i := 0) (by simpa [cv] using hv)
  · simp at hx; subst hx; exact h1.cell (i := 1) (by simpa [cv] using hv)
  · simp at hx

set_option maxRecDepth 100000 in
set_option maxHeartbeats 4000000 in
theorem alive_any (W : World) : Calls Try.prog 29 #[] W fun e w' => e = .returned (.bool true) ∧ Below W.heap.size W w' := by
  go_enter Try.func29, Try.ntmps29
  go_wp2_with fail
  refine (new_hs ltI W 79 #[]).mono ?_; rintro e w1 ⟨rfl, hS1, hw1⟩
  have hB1 : Below W.heap.size W w1 := by rw [hw1]; exact (Below.refl _ W).alloc (Nat.le_refl _) _
  clear hw1
  obtain ⟨p, hp⟩ : ∃ p, W.heap.size = p := ⟨_, rfl⟩
  rw [hp] at hS1 hB1 ⊢
  go_wp2_with fail
  refine (put_hs ltI ltI_ord w1 p p _ #[] [] 0 3 (by omega) (by simp) hS1 (bf1 _ _ _)).mono ?_; rintro e w2 ⟨rfl, hS2, hF2⟩
  go_wp2_with fail
  refine (put_hs ltI ltI_ord w2 p p _ #[] _ 1 1 (by omega) (by simp [insV]) hS2 (bf1 _ _ _)).mono ?_; rintro e w3 ⟨rfl, hS3, hF3⟩
  go_wp2_with fail
  refine (put_hs ltI ltI_ord w3 p p _ #[] _ 2 2 (by omega) (by simp [insV]; decide) hS3 (bf1 _ _ _)).mono ?_; rintro e w4 ⟨rfl, hS4, hF4⟩
  have hS4' : HS w4 p p ltI 79 #[] [1, 2, 3] 3 := hS4
  have hB4 := hB1.trans (hF2.below.trans (hF3.below.trans hF4.below))
  clear hS1 hS2 hS3 hS4 hB1 hF2 hF3 hF4
  go_wp2_with fail
  refine (top_hs ltI ltI_ord w4 p p _ #[] _ _ hS4').mono ?_; rintro e w5 ⟨rfl, hb5⟩
  have hS5 := hS4'.below hb5
  unfold ev
  go_wp2_with fail
  refine (drain_any w5 _).mono ?_; rintro e w6 ⟨rfl, hw6⟩
  have hx6 : Boxed w6 w5.heap.size 104 (.pointer (some ⟨p, 0, none⟩)) := by rw [hw6]; exact Boxed.new _ _ _
  have hb6 : Below w5.heap.size w5 w6 := by rw [hw6]; exact (Below.refl _ _).alloc (Nat.le_refl _) _
  have hS6 := hS5.below hb6
  clear hw6
  go_wp2_with fail
  refine (collect_any ltI ltI_ord w6 p p _ _ _ #[] [1, 2, 3] (by simp) (fun W' => bf1 _ _ _) (Nat.le_refl _) hS6 hx6).mono ?_; rintro e w7 ⟨v7, rfl, hO7, hS7, hf7⟩
  go_wp2_with fail
  refine (pop_hs_nil ltI w7 p p _ #[] _ hS7).mono ?_; rintro e w8 ⟨rfl, hb8⟩
  have hz6 : p ≤ w6.heap.size := by have := hS6.lt'; omega
  have hB8 : Below p W w8 := hB4.trans ((hb5.mono (by have := hS4'.lt'; omega)).trans ((hb6.mono (by have := hS5.lt'; omega)).trans (hf7.below.trans (hb8.mono (by have := hS7.lt'; omega)))))
  have hS8 := hS7.below hb8
  obtain ⟨g7, c7, rfl⟩ := ownsRow_succ (k := 2) hO7
  have g7c : w8.cell? ⟨g7, 2, none⟩ = some (.int .i64 3) := by
    have h7 : g7 < w7.heap.size := by obtain ⟨_, cs, fr, hc⟩ := own_typ hO7 g7 rfl; exact (Array.getElem?_eq_some_iff.1 hc).1
    rw [(bcell hb8).1 _ _ h7]
    exact hO7.cellAt 2 (by simp)
  have g7l : g7 < w8.heap.size := by
    have h7 : g7 < w7.heap.size := by obtain ⟨_, cs, fr, hc⟩ := own_typ hO7 g7 rfl; exact (Array.getElem?_eq_some_iff.1 hc).1
    have := hb8.size
    omega
  clear hO7 hS7 hf7 hb8 hS6 hx6 hb6 hS5 hb5 hS4' hB4 hz6
  unfold ev
  go_wp2_with fail
  refine (values_any _ _ _ _).mono ?_; rintro e w9 ⟨rfl, hw9⟩
  have hb9 : Below w8.heap.size w8 w9 := by rw [hw9]; exact bel_alloc2 _ _ _
  have hg9 := gives2 hw9
  simp only [World.size_alloc] at ⊢
  clear hw9
  go_wp2_with fail
  refine (from_any gtI gtI_ord w9 _ #[] _ _ [1, 2] (by simp) (fun W' _ => bf2 _ _ _) hg9).mono ?_; rintro e w10 ⟨rfl, hS10, hb10⟩
  have hS10' : HS w10 w9.heap.size w9.heap.size gtI 86 #[] [2, 1] 2 := hS10
  clear hS10 hg9
  go_wp2_with fail
  refine (pop_hs_cons gtI gtI_ord w10 _ _ _ #[] 2 [1] _ (by simp) hS10' (bf2 _ _ _)).mono ?_; rintro e w11 ⟨rfl, hS11, hF11⟩
  obtain ⟨q, hq⟩ : ∃ q, w9.heap.size = q := ⟨_, rfl⟩
  have hz9 := hb9.size
  have hz10 := hb10.size
  have hz11 := hF11.size
  have hB11 : Below w8.heap.size w8 w11 := hb9.trans ((hb10.mono hz9).trans (hF11.below.mono hz9))
  rw [hq] at hS11 hz9 hz10 ⊢
  clear hS10' hF11 hb10 hb9 hq
  unfold ev
  go_wp2_with fail
  refine (values_any _ _ _ _).mono ?_; rintro e w12 ⟨rfl, hw12⟩
  have hb12 : Below w11.heap.size w11 w12 := by rw [hw12]; exact bel_alloc2 _ _ _
  have hg12 := gives2 hw12
  simp only [World.size_alloc] at ⊢
  clear hw12
  go_wp2_with fail
  refine (sorted_any ltI ltI_ord w12 _ #[] _ _ [2, 1] (by simp) (fun b p W' _ _ _ => bf3 _ _ _) hg12).mono ?_; rintro e w13 ⟨v13, rfl, hO13, hb13⟩
  have hO13' : w13.ownsRow w12.heap.size 3 1 v13 2 [.int .i64 1, .int .i64 2] := hO13
  obtain ⟨g13, c13, rfl⟩ := ownsRow_succ (k := 1) hO13'
  have k13 : w13.cell? ⟨g13, 0, none⟩ = some (.int .i64 1) := hO13'.cellAt 0 (by simp)
  have l13 : g13 < w13.heap.size := by obtain ⟨_, cs, fr, hc⟩ := own_typ hO13' g13 rfl; exact (Array.getElem?_eq_some_iff.1 hc).1
  clear hO13 hO13' hg12
  go_wp2_with fail
  refine (values_any _ _ _ _).mono ?_; rintro e w14 ⟨rfl, hw14⟩
  have hb14 : Below w13.heap.size w13 w14 := by rw [hw14]; exact bel_alloc2 _ _ _
  have hg14 := gives2 hw14
  simp only [World.size_alloc] at ⊢
  clear hw14
  go_wp2_with fail
  refine (firsts_any ltI ltI_ord w14 1 _ #[] _ _ [2, 1] (by simp) (fun W' _ => bf4 _ _ _) hg14).mono ?_; rintro e w15 ⟨v15, rfl, hO15, hb15⟩
  have hO15' : w15.ownsRow w14.heap.size 3 1 v15 1 [.int .i64 1] := hO15
  obtain ⟨g15, c15, rfl⟩ := ownsRow_succ (k := 0) hO15'
  have k15 : w15.cell? ⟨g15, 0, none⟩ = some (.int .i64 1) := hO15'.cellAt 0 (by simp)
  clear hO15 hO15' hg14
  have hBx : Below w11.heap.size w11 w13 := hb12.trans (hb13.mono hb12.size)
  have hB15 : Below w13.heap.size w13 w15 := hb14.trans (hb15.mono hb14.size)
  have hBy : Below w11.heap.size w11 w15 := hBx.trans (hB15.mono hBx.size)
  have hBz : Below w8.heap.size w8 w15 := hB11.trans (hBy.mono hB11.size)
  have m13 : w15.cell? ⟨g13, 0, none⟩ = some (.int .i64 1) := by rw [(bcell hB15).1 _ _ l13]; exact k13
  have m7 : w15.cell? ⟨g7, 2, none⟩ = some (.int .i64 3) := by rw [(bcell hBz).1 _ _ g7l]; exact g7c
  have hSa := hS8.below hBz
  have hSb := hS11.below hBy
  have hBf : Below p W w15 := hB8.trans (hBz.mono (by have := hB8.size; omega))
  clear k13 g7c hS8 hS11 hBx hB15 hBy hBz hB8 hB11 hb12 hb13 hb14 hb15
  go_wp2_with fail
  refine (len_hs ltI w15 p p _ #[] [] _ hSa).mono ?_; rintro e w16 ⟨rfl, rfl⟩
  go_wp2_with fail
  refine (len_hs gtI w15 q q _ #[] [1] _ hSb).mono ?_; rintro e w17 ⟨rfl, rfl⟩
  go_wp2_with fail
  go_ret
  exact ⟨rfl, by rw [hp]; exact hBf⟩

end Go.Proofs.Ytbhpokcnkdgcmaa.HeapI
