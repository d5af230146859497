/- the table laws' own example. -/
import Derived.Test.YtgoomogpcfpekaaTabMapS
import Derived.Test.YtgoomogpcfpekaaTabN12
set_option linter.unusedSimpArgs false
set_option linter.unusedVariables false
namespace Go.Proofs.Ytgoomogpcfpekaa.TabN
open Go.RowKit Go.Proofs.Ytgoomogpcfpekaa.TabL
attribute [local go_sem] Oper.semAt_some

def tfA (k v : Int) : ByteArray := ⟨#[(97 + k).toNat.toUInt8]⟩
set_option maxRecDepth 100000 in
set_option maxHeartbeats 4000000 in
theorem alive1 (W : World) (k v : Int) (h : (k, v) ∈ ([(1, 10), (2, 21), (3, 30)] : List (Int × Int))) : Calls Try.prog 41 (#[.int .i64 k, .int .i64 v] ++ #[]) W fun e w' => e = .returned (.string (tfA k v)) ∧ W = w' := by
  show Calls Try.prog 41 #[.int .i64 k, .int .i64 v] W _
  have hk : k = 1 ∨ k = 2 ∨ k = 3 := by simp at h; omega
  clear h
  rcases hk with rfl | rfl | rfl
  all_goals
    go_enter Try.func41, Try.ntmps41
    go_wp2_with fail
    go_ret
    refine ⟨?_, rfl⟩
    trace_state
    rfl


theorem sd3 : Sd ltI ([(1, 10), (2, 21), (3, 30)] : List (Int × Int)) := by unfold Sd; simp [ltI]
set_option maxRecDepth 100000 in
set_option maxHeartbeats 8000000 in
theorem alive_any (W : World) : Calls Try.prog 9 #[] W fun e w' => e = .returned (.bool true) ∧ Below W.heap.size W w' := by
  go_enter Try.func9, Try.ntmps9
  go_wp2_with fail
  have hB0 : Below W.heap.size W (W.alloc (.cells #[.pointer none] 73)) := (Below.refl _ W).alloc (Nat.le_refl _) _
  have hT0 : TMx (W.alloc (.cells #[.pointer none] 73)) W.heap.size [] := ⟨none, .leaf, Blk.new W [.pointer none] _, rfl, rfl⟩
  obtain ⟨w0, hw0⟩ : ∃ w0, W.alloc (.cells #[.pointer none] 73) = w0 := ⟨_, rfl⟩
  have hz0 : W.heap.size < w0.heap.size := by rw [← hw0]; simp
  rw [hw0] at hT0 hB0 ⊢
  clear hw0
  have stepB : ∀ {A B : World}, W.heap.size < A.heap.size → Below W.heap.size W A → A.grownBy B (some W.heap.size) → Below W.heap.size W B ∧ W.heap.size < B.heap.size := fun {A B} hz hb hg => ⟨hb.grown hg (by omega) (fun r e => by cases e; exact Nat.le_refl _), Nat.lt_of_lt_of_le hz hg.size⟩
  have H1 : Calls Try.prog 25 #[.pointer (some ⟨W.heap.size, 0, none⟩), .int .i64 3, .int .i64 30] w0 fun e w' => e = .returned (.bool true) ∧ TMx w' W.heap.size [(3, 30)] ∧ w0.grownBy w' (some W.heap.size) := putM_any w0 W.heap.size [] 3 30 hT0 List.Pairwise.nil (by simp)
  refine H1.mono ?_; rintro e w1 ⟨rfl, hT1, hg1⟩
  obtain ⟨hB1, hz1⟩ := stepB hz0 hB0 hg1
  clear H1 hT0 hB0 hg1 hz0
  go_wp2_with fail
  have H2 : Calls Try.prog 25 #[.pointer (some ⟨W.heap.size, 0, none⟩), .int .i64 1, .int .i64 10] w1 fun e w' => e = .returned (.bool true) ∧ TMx w' W.heap.size [(1, 10), (3, 30)] ∧ w1.grownBy w' (some W.heap.size) := putM_any w1 W.heap.size [(3, 30)] 1 10 hT1 (by unfold Sd; simp) (by simp)
  refine H2.mono ?_; rintro e w2 ⟨rfl, hT2, hg2⟩
  obtain ⟨hB2, hz2⟩ := stepB hz1 hB1 hg2
  clear H2 hT1 hB1 hg2 hz1
  go_wp2_with fail
  have H3 : Calls Try.prog 25 #[.pointer (some ⟨W.heap.size, 0, none⟩), .int .i64 2, .int .i64 20] w2 fun e w' => e = .returned (.bool true) ∧ TMx w' W.heap.size [(1, 10), (2, 20), (3, 30)] ∧ w2.grownBy w' (some W.heap.size) := putM_any w2 W.heap.size [(1, 10), (3, 30)] 2 20 hT2 (by unfold Sd; simp [ltI]) (by simp)
  refine H3.mono ?_; rintro e w3 ⟨rfl, hT3, hg3⟩
  obtain ⟨hB3, hz3⟩ := stepB hz2 hB2 hg3
  clear H3 hT2 hB2 hg3 hz2
  go_wp2_with fail
  have H4 : Calls Try.prog 25 #[.pointer (some ⟨W.heap.size, 0, none⟩), .int .i64 2, .int .i64 21] w3 fun e w' => e = .returned (.bool false) ∧ TMx w' W.heap.size [(1, 10), (2, 21), (3, 30)] ∧ w3.grownBy w' (some W.heap.size) := putM_any w3 W.heap.size [(1, 10), (2, 20), (3, 30)] 2 21 hT3 (by unfold Sd; simp [ltI]) (by simp)
  refine H4.mono ?_; rintro e w4 ⟨rfl, hT4, hg4⟩
  obtain ⟨hB4, hz4⟩ := stepB hz3 hB3 hg4
  clear H4 hT3 hB3 hg4 hz3
  go_wp2_with fail
  refine (all_any _ _).mono ?_; rintro e w5 ⟨rfl, hw5⟩
  obtain ⟨St, N, hG, hSN⟩ := tm_all w4 W.heap.size _ hT4
  have hB5' : Below w4.heap.size w4 w5 := by rw [hw5]; exact (Below.refl _ w4).alloc (Nat.le_refl _) _
  have hz5 : w5.heap.size = w4.heap.size + 1 := by rw [hw5]; simp
  rw [← hw5] at hSN
  clear hw5
  go_wp2_with fail
  have H6 := pairs_any w5 _ _ St N [(1, 10), (2, 21), (3, 30)] 9 hG (by omega) (by simp) (fun W' hb => (hSN W' (by rw [← hz5]; exact hb)).1) (fun W' hb => (hSN W' (by rw [← hz5]; exact hb)).2)
  refine H6.mono ?_; rintro e w6 ⟨v6, rfl, hO6, hb6⟩
  have hB6' := hB5'.trans (hb6.mono (by omega))
  have hT6 := hT4.below hB6'
  have hB6 := hB4.trans (hB6'.mono (by omega))
  have hz6 : w5.heap.size ≤ w6.heap.size := hb6.size
  have hO6' : w6.ownsRow w5.heap.size 41 2 v6 (2 + 1) [.int .i64 1, .int .i64 10, .int .i64 2, .int .i64 21, .int .i64 3, .int .i64 30] := hO6
  obtain ⟨g6, cap6, rfl⟩ := ownsRow_succ (k := 2) hO6'
  clear hO6
  clear H6 hG hSN hB5' hb6 hB6' hT4 hB4
  go_wp2_with fail
  have H7 : Calls Try.prog 19 #[.pointer (some ⟨W.heap.size, 0, none⟩), .int .i64 3] w6 fun e w' => e = .returned (.tuple #[.int .i64 2, .bool true]) ∧ w6 = w' := below_any w6 W.heap.size [(1, 10), (2, 21), (3, 30)] 3 hT6 sd3
  refine H7.mono ?_; rintro e w7 ⟨rfl, rfl⟩
  clear H7
  go_wp2_with fail
  have H8 : Calls Try.prog 21 #[.pointer (some ⟨W.heap.size, 0, none⟩)] w6 fun e w' => e = .returned (.tuple #[.int .i64 1, .bool true]) ∧ Below w6.heap.size w6 w' := least_any w6 W.heap.size [(1, 10), (2, 21), (3, 30)] hT6
  refine H8.mono ?_; rintro e w8 ⟨rfl, hb8⟩
  have hT8 := hT6.below hb8
  have hB8 := hB6.trans (hb8.mono (by omega))
  have hz8 := hb8.size
  clear H8 hT6 hB6
  go_wp2_with fail
  have H9 : Calls Try.prog 22 #[.pointer (some ⟨W.heap.size, 0, none⟩)] w8 fun e w' => e = .returned (.tuple #[.int .i64 3, .bool true]) ∧ Below w8.heap.size w8 w' := most_any w8 W.heap.size [(1, 10), (2, 21), (3, 30)] hT8
  refine H9.mono ?_; rintro e w9 ⟨rfl, hb9⟩
  have hT9 := hT8.below hb9
  have hB9 := hB8.trans (hb9.mono (by omega))
  have hz9 := hb9.size
  have hb69 := hb8.trans (hb9.mono hz8)
  clear H9 hT8 hB8 hb8 hb9
  go_wp2_with fail
  refine (back_any _ _).mono ?_; rintro e w10 ⟨rfl, hw10⟩
  obtain ⟨St, N, hG, hSN⟩ := tm_back w9 W.heap.size _ hT9
  have hb10 : Below w9.heap.size w9 w10 := by rw [hw10]; exact (Below.refl _ w9).alloc (Nat.le_refl _) _
  have hz10 : w10.heap.size = w9.heap.size + 1 := by rw [hw10]; simp
  rw [← hw10] at hSN
  clear hw10
  go_wp2_with fail
  have H11 : Calls Try.prog 24 #[.func (.func 47) #[] #[.pointer (some ⟨w9.heap.size, 0, none⟩)]] w10 fun e w' => e = .returned (.pointer (some ⟨w10.heap.size, 0, none⟩)) ∧ TMx w' w10.heap.size [(1, 10), (2, 21), (3, 30)] ∧ Below w10.heap.size w10 w' := of_any w10 _ _ St N _ hG (by simp) (fun W' hb => (hSN W' (by rw [← hz10]; exact hb)).1) (fun W' hb => (hSN W' (by rw [← hz10]; exact hb)).2)
  refine H11.mono ?_; rintro e w11 ⟨rfl, hU11, hb11⟩
  have hb911 := hb10.trans (hb11.mono (by omega))
  have hT11 := hT9.below hb911
  have hB11 := hB9.trans (hb911.mono (by omega))
  have hb611 := hb69.trans (hb911.mono (by omega))
  have hz11 := hb611.size
  clear H11 hG hSN hb10 hb11 hb911 hT9 hB9 hb69
  obtain ⟨u, hu⟩ : ∃ u, w10.heap.size = u := ⟨_, rfl⟩
  rw [hu] at hU11 ⊢
  have hup : u ≠ W.heap.size := by omega
  have hul : u < w11.heap.size := hU11.lt
  have hO11 := hO6'.kept (⟨hb611.os, hb611.tape, hb611.output, hb611.size, fun j hj _ => hb611.block j hj⟩ : w6.grownBy w11 none) (.inr (by simp [Value.ownBlock]))
  have HLEN : Calls Try.prog 28 #[.pointer (some ⟨u, 0, none⟩)] w11 fun e w' => e = .returned (.int .i64 3) ∧ w11 = w' := len_any w11 u [(1, 10), (2, 21), (3, 30)] hU11
  clear hO6' hb611 hU11
  go_wp2_with fail
  refine HLEN.mono ?_; rintro e w12 ⟨rfl, rfl⟩
  clear HLEN
  go_wp2_with fail
  have H13 := TabMapS.map_any w11 W.heap.size [(1, 10), (2, 21), (3, 30)] 41 #[] tfA hT11 sd3 (by simp) (enters_of Try.func41 (by kernel_rfl) rfl) (fun W' k v hm _ => alive1 W' k v hm)
  refine H13.mono ?_; rintro e w13 ⟨rfl, hM13, hb13⟩
  have gb : ∀ {A B : World}, Below A.heap.size A B → A.grownBy B none := fun {A B} h => ⟨h.os, h.tape, h.output, h.size, fun j hj _ => h.block j hj⟩
  have hT13 := hT11.below hb13
  have hB13 := hB11.trans (hb13.mono (by omega))
  have hO13 := hO11.kept (gb hb13) (.inr (by simp [Value.ownBlock]))
  have hz13 := hb13.size
  obtain ⟨m, hm⟩ : ∃ m, w11.heap.size + 1 = m := ⟨_, rfl⟩
  rw [hm] at hM13 ⊢
  clear H13 hT11 hB11 hO11 hb13
  go_wp2_with fail
  have H14 : Calls Try.prog 42 #[.pointer (some ⟨m, 0, none⟩), .int .i64 2] w13 fun e w' => e = .returned (.tuple #[.string ⟨#[99]⟩, .bool true]) ∧ w13 = w' := TabS.get_any w13 m _ 2 hM13 (TabMapS.mapL_sd tfA sd3)
  refine H14.mono ?_; rintro e w14 ⟨rfl, rfl⟩
  clear H14 hM13
  go_wp2_with fail
  refine (clone_any w13 W.heap.size _ hT13).mono ?_; rintro e w15 ⟨rfl, hC15, hb15⟩
  have hT15 := hT13.below hb15
  have hB15 := hB13.trans (hb15.mono (by omega))
  have hO15 := hO13.kept (gb hb15) (.inr (by simp [Value.ownBlock]))
  have hz15 := hb15.size
  obtain ⟨c, hc⟩ : ∃ c, w13.heap.size = c := ⟨_, rfl⟩
  rw [hc] at hC15 ⊢
  have hcp : c ≠ W.heap.size := by omega
  have hgp : g6 ≠ W.heap.size := by
    have := (own_typ hO15 g6 rfl).1
    omega
  clear hT13 hB13 hO13 hb15
  go_wp2_with fail
  have H16 : Calls Try.prog 26 #[.pointer (some ⟨W.heap.size, 0, none⟩), .int .i64 2] w15 fun e w' => e = .returned (.bool true) ∧ TMx w' W.heap.size [(1, 10), (3, 30)] ∧ w15.grownBy w' (some W.heap.size) := dropM_any w15 W.heap.size [(1, 10), (2, 21), (3, 30)] 2 hT15 sd3 (by simp)
  refine H16.mono ?_; rintro e w16 ⟨rfl, hT16, hg16⟩
  have hC16 : TMx w16 c [(1, 10), (2, 21), (3, 30)] := by
    obtain ⟨q, T, hP, _⟩ := hT15
    exact hC15.other hg16 hP hcp (by decide)
  obtain ⟨hB16, hz16⟩ := stepB (by omega) hB15 hg16
  have hO16 := hO15.kept hg16 (.inr (by simp [Value.ownBlock]; exact hgp))
  clear H16 hT15 hC15 hB15 hO15 hg16
  go_wp2_with fail
  have H17 : Calls Try.prog 43 #[.pointer (some ⟨c, 0, none⟩), .int .i64 2] w16 fun e w' => e = .returned (.tuple #[.int .i64 21, .bool true]) ∧ w16 = w' := get_any w16 c _ 2 hC16 sd3
  refine H17.mono ?_; rintro e w17 ⟨rfl, rfl⟩
  clear H17
  go_wp2_with fail
  refine (clear_any w16 W.heap.size _ hT16).mono ?_; rintro e w18 ⟨rfl, hT18, hg18⟩
  have hC18 : TMx w18 c [(1, 10), (2, 21), (3, 30)] := by
    obtain ⟨q, T, hP, _⟩ := hT16
    exact hC16.other hg18 hP hcp (by decide)
  obtain ⟨hB18, hz18⟩ := stepB hz16 hB16 hg18
  have hO18 := hO16.kept hg18 (.inr (by simp [Value.ownBlock]; exact hgp))
  clear hT16 hC16 hB16 hO16 hg18
  have c5 : w18.cell? ⟨g6, 5, none⟩ = some (.int .i64 30) := hO18.cellAt 5 (by simp)
  have glt : g6 < w18.heap.size := World.block_lt_of_cell? w18 ⟨g6, 5, none⟩ c5
  clear hO18
  go_wp2_with fail
  have H19 : Calls Try.prog 28 #[.pointer (some ⟨W.heap.size, 0, none⟩)] w18 fun e w' => e = .returned (.int .i64 0) ∧ w18 = w' := len_any w18 W.heap.size [] hT18
  refine H19.mono ?_; rintro e w19 ⟨rfl, rfl⟩
  clear H19 c5
  go_wp2_with fail
  refine (from_any w18 _ 2).mono ?_; rintro e w20 ⟨rfl, hw20⟩
  obtain ⟨St, N, hG, hSN⟩ := tm_from w18 c _ 2 hC18 sd3
  have hb20 : Below w18.heap.size w18 w20 := by rw [hw20]; exact bel_alloc2 w18 _ _
  have hz20 : w20.heap.size = w18.heap.size + 1 + 1 := by rw [hw20]; simp
  rw [← hw20] at hSN
  clear hw20
  go_wp2_with fail
  have H21 := pairs_any w20 _ _ St N _ 9 hG (by omega) (by simp [fromL, ltI]) (fun W' hb => (hSN W' (by rw [← hz20]; exact hb)).1) (fun W' hb => (hSN W' (by rw [← hz20]; exact hb)).2)
  refine H21.mono ?_; rintro e w21 ⟨v21, rfl, hO21, hb21⟩
  have hO21' : w21.ownsRow w20.heap.size 41 2 v21 (1 + 1) [.int .i64 2, .int .i64 21, .int .i64 3, .int .i64 30] := hO21
  obtain ⟨g21, cap21, rfl⟩ := ownsRow_succ (k := 1) hO21'
  have hB21 := hB18.trans ((hb20.trans (hb21.mono (by omega))).mono (by omega))
  clear H21 hG hSN hO21 hO21' hb20 hb21
  go_wp2_with fail
  go_ret
  exact ⟨rfl, hB21⟩

end Go.Proofs.Ytgoomogpcfpekaa.TabN
