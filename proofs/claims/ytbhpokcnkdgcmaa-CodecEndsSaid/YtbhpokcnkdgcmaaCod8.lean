/- layer 5: the example. -/
import Derived.Test.YtbhpokcnkdgcmaaCod7
import Derived.Lib.SlBytesConst
set_option linter.unusedSimpArgs false
set_option linter.unusedVariables false
namespace Go.Proofs.Ytbhpokcnkdgcmaa.Cod
open Go.RowKit Go.Shelf Go.Proofs.YtbhpokcnkdgcmaaW.PrintWords Go.Proofs.Ytbhpokcnkdgcmaa.CodL
attribute [local go_sem] Oper.semAt_some

theorem ex_uv300 : uv 300 = [172, 2] := by rw [uv_great (by omega), uv_small (by omega)]; rfl
theorem ex_m1 : uv (zz (-1)) = [1] := by rw [show zz (-1) = 1 from by decide, uv_small (by omega)]; rfl
theorem ex_list : [] ++ uv 2 ++ [-1, 1].flatMap wrN = [2, 1, 2] := by
  simp only [List.flatMap_cons, List.flatMap_nil, wrN, ex_m1]
  rw [show zz 1 = 2 from by decide, uv_small (by omega)]
  rfl
theorem ex_take : takeU ([172, 2], 0) = (([], 0), 300) := by decide
theorem ex_all2 : allN takeI [2, 1, 2] 2 = ([-1, 1], 0) := by decide
theorem ex_all1 : allN takeI [2, 1, 2] 1 = ([], 3) := by decide
theorem ex_all3 : allN takeI [1, 128] 5 = ([], 21) := by decide
theorem ex_bytes : takeB ([2, 120, 121], 0) 2 = (([], 0), [120, 121]) := by decide

theorem C_cap {w : World} {base n c : Nat} {e : TypeId} {A : Option Addr} {xs : List Value} (h : w.ownsRow base e 1 (.slice A n c) n xs) : A = none → c = 0 := fun e => by
  subst e
  rcases h.2 with ⟨h, _⟩ | ⟨g, cap, cur, h, _⟩
  · injection h
  · cases h
theorem OM.inp {W W' : World} {base p q n₀ : Nat} {v : Value} {bs : List Int} {s : St} (h : OM W base p v bs) (hI : IM W n₀ q s) (hg : W.grownBy W' (some q)) : OM W' base p v bs := by
  obtain ⟨_, _, A, c, hP, _⟩ := hI
  obtain ⟨h1, h2, h3⟩ := h
  have hne : p ≠ q := fun e => by subst e; exact absurd (h2.inj hP).1 (by decide)
  exact ⟨h1, h2.kept hg (by simpa using hne), own_move h3 (fun k e => hg.block k (own_lt h3 k e) (fun e' => own_apart hP h3 (by decide) (by rw [e, e'])))⟩
theorem gives_lit {W W2 : World} {a b : Int} {arr : TypeId} (hw : W2 = (W.alloc (.cells #[.int .i64 a, .int .i64 b] arr)).alloc (.cells #[.slice (some ⟨W.heap.size, 0, none⟩) 2 2] 57)) : Gives 100 #[.pointer (some ⟨W.heap.size + 1, 0, none⟩)] W2.heap.size W2 evN [a, b] 0 := by
  have h2 := Blk.new2 W (.cells #[.int .i64 a, .int .i64 b] arr) [.slice (some ⟨W.heap.size, 0, none⟩) 2 2] 57
  have h1 := (Blk.new W [.int .i64 a, .int .i64 b] arr).alloc (.cells #[.slice (some ⟨W.heap.size, 0, none⟩) 2 2] 57)
  have hz : W2.heap.size = W.heap.size + 2 := by rw [hw]; simp
  rw [hz, hw]
  refine values_gives _ _ _ (.slice (some ⟨W.heap.size, 0, none⟩) 2 2) [a, b] (by simp) (by omega) h2 (.inr ⟨W.heap.size, 0, 2, rfl, by omega, fun j x hx c v hv => ?_⟩)
  have hc : c = 0 := by have := (List.getElem?_eq_some_iff.1 hv).1; simp [cvN] at this; omega
  subst hc
  rcases j with _ | _ | j
  · simp at hx; subst hx; exact h1.cell (i := 0) (by simpa [cvN] using hv)
  · simp at hx; subst hx; exact h1.cell (i := 1) (by simpa [cvN] using hv)
  · simp at hx

set_option maxRecDepth 100000 in
set_option maxHeartbeats 4000000 in
theorem alive_any (W : World) : Calls Try.prog 49 #[] W fun e w' => e = .returned (.bool true) ∧ Below W.heap.size W w' := by
  go_enter Try.func49, Try.ntmps49
  go_wp2_with fail
  have q0 := ((Blk.new W [.slice none 0 0] 69).alloc (.cells #[.slice none 0 0] 69)).alloc (.cells #[.slice none 0 0] 69)
  have q1 := (Blk.new2 W (.cells #[.slice none 0 0] 69) [.slice none 0 0] 69).alloc (.cells #[.slice none 0 0] 69)
  have q2 := Blk.new2 (W.alloc (.cells #[.slice none 0 0] 69)) (.cells #[.slice none 0 0] 69) [.slice none 0 0] 69
  rw [World.size_alloc] at q2
  have hB0 := (bel_alloc2 W (.cells #[.slice none 0 0] 69) (.cells #[.slice none 0 0] 69)).alloc (by simp; omega) (.cells #[.slice none 0 0] 69)
  obtain ⟨W1, hW1⟩ : ∃ W1, (((W.alloc (.cells #[.slice none 0 0] 69)).alloc (.cells #[.slice none 0 0] 69)).alloc (.cells #[.slice none 0 0] 69)) = W1 := ⟨_, rfl⟩
  rw [hW1] at q0 q1 q2 hB0 ⊢
  have hz1 : W1.heap.size = W.heap.size + 3 := by rw [← hW1]; simp
  clear hW1
  obtain ⟨s, hs⟩ : ∃ s, W.heap.size = s := ⟨_, rfl⟩
  rw [hs] at q0 q1 q2 hz1 hB0 ⊢
  have hA1 : OM W1 s s (.slice none 0 0) [] := ⟨Nat.le_refl _, q0, World.ownsRow_nil _ _ _ _⟩
  have hBb1 : OM W1 s (s + 1) (.slice none 0 0) [] := ⟨by omega, q1, World.ownsRow_nil _ _ _ _⟩
  have hC1 : OM W1 s (s + 1 + 1) (.slice none 0 0) [] := ⟨by omega, q2, World.ownsRow_nil _ _ _ _⟩
  clear q0 q1 q2
  refine (out_uint W1 s s _ [] 300 (by omega) (by simp) hA1).mono ?_; rintro e w2 ⟨rfl, va, hA2, hF2⟩
  rw [List.nil_append, ex_uv300] at hA2
  have hBb2 := hBb1.other hF2 (by omega) ⟨_, _, hA1⟩ (.inl rfl)
  have hC2 := hC1.other hF2 (by omega) ⟨_, _, hA1⟩ (.inl rfl)
  have hB2 := hB0.trans (hA1.belowB hF2)
  clear hA1 hBb1 hC1 hF2 hB0
  go_wp2_with fail
  refine (out_int w2 s (s + 1) _ [] (-1) (by omega) (by simp) hBb2).mono ?_; rintro e w3 ⟨rfl, vb, hBb3, hF3⟩
  rw [List.nil_append, ex_m1] at hBb3
  have hA3 := hA2.other hF3 (by omega) ⟨_, _, hBb2⟩ (by cases hv : va.ownBlock; exact .inl rfl; exact .inr (by simp [Value.ownBlock]))
  have hC3 := hC2.other hF3 (by omega) ⟨_, _, hBb2⟩ (.inl rfl)
  have hB3 := hB2.trans (hBb2.belowB hF3)
  clear hA2 hBb2 hC2 hF3 hB2
  go_wp2_with fail
  refine (values_any _ _ _ _).mono ?_; rintro e w4 ⟨rfl, hw4⟩
  have hb4 : Below w3.heap.size w3 w4 := by rw [hw4]; exact bel_alloc2 _ _ _
  have hg4 := gives_lit hw4
  simp only [World.size_alloc] at ⊢
  clear hw4
  have hA4 := hA3.below hb4
  have hBb4 := hBb3.below hb4
  have hC4 := hC3.below hb4
  have hB4 := hB3.trans (hb4.mono (by have := hB3.size; omega))
  clear hA3 hBb3 hC3 hB3
  go_wp2_with fail
  refine (put_any w4 s (s + 1 + 1) _ [] _ #[] putN _ _ [-1, 1] hg4 (by unfold goodN; simp) (by simp) (by simp) hC4).mono ?_; rintro e w5 ⟨rfl, vc, hC5, hF5⟩
  rw [show ([-1, 1] : List Int).length = 2 from rfl, ex_list] at hC5
  have hA5 := hA4.other hF5 (by omega) ⟨_, _, hC4⟩ (by cases hv : va.ownBlock; exact .inl rfl; exact .inr (by simp [Value.ownBlock]))
  have hBb5 := hBb4.other hF5 (by omega) ⟨_, _, hC4⟩ (by cases hv : vb.ownBlock; exact .inl rfl; exact .inr (by simp [Value.ownBlock]))
  have hB5 := hB4.trans (hC4.belowB hF5)
  clear hA4 hBb4 hC4 hB4 hF5 hg4 hb4
  go_wp2_with fail
  refine (out_done w5 s s va _ (by simp) hA5).mono ?_; rintro e w6 ⟨A6, c6, rfl, hR6, hb6⟩
  have hA6 := hA5.below hb6
  have hBb6 := hBb5.below hb6
  have hC6 := hC5.below hb6
  have hB6 := hB5.trans (hb6.mono (by have := hB5.size; omega))
  clear hA5 hBb5 hC5 hB5 hb6
  obtain ⟨hl6, _, hx6⟩ := C_own hR6
  have hz6 := C_cap hR6
  go_wp2_with fail
  refine (from_any w6 [172, 2] A6 c6 hx6 hz6 (by simp)).mono ?_; rintro e w7 ⟨pi, hpi, rfl, hI7, hb7⟩
  have hA7 := hA6.below hb7
  have hBb7 := hBb6.below hb7
  have hC7 := hC6.below hb7
  have hB7 := hB6.trans (hb7.mono (by have := hB6.size; omega))
  have hs6 := hB6.size
  clear hA6 hBb6 hC6 hB6 hR6 hx6 hz6 hl6
  go_wp2_with fail
  refine (in_uint w7 _ pi _ (by simp) (by simp) hI7).mono ?_; rintro e w8 ⟨rfl, hI8, hg8⟩
  rw [ex_take] at hI8 ⊢
  have hA8 := hA7.inp hI7 hg8
  have hBb8 := hBb7.inp hI7 hg8
  have hC8 := hC7.inp hI7 hg8
  have hs7 := hB7.size
  have hB8 := hB7.trans (grown_below hg8 (by omega) (by omega))
  clear hA7 hBb7 hC7 hI7 hg8 hB7
  go_wp2_with fail
  refine (out_done w8 s (s + 1 + 1) vc _ (by simp) hC8).mono ?_; rintro e w9 ⟨A9, c9, rfl, hR9, hb9⟩
  have hA9 := hA8.below hb9
  have hBb9 := hBb8.below hb9
  have hC9 := hC8.below hb9
  have hI9 := hI8.below (hb9.mono hI8.2.1)
  have hs8 := hB8.size
  have hB9 := hB8.trans (hb9.mono (by omega))
  clear hA8 hBb8 hC8 hI8 hB8 hb9
  go_wp2_with fail
  refine (all_any w9 [2, 1, 2] A9 c9 (C_own hR9).2.2 (C_cap hR9) (by simp) (by simp) takeI _ #[] takeN1 2 (by omega)).mono ?_; rintro e w10 ⟨v10, rfl, hR10, hb10⟩
  rw [ex_all2] at hR10 ⊢
  have hA10 := hA9.below hb10
  have hBb10 := hBb9.below hb10
  have hC10 := hC9.below hb10
  have hI10 := hI9.below (hb10.mono hI9.2.1)
  have hs9 := hB9.size
  have hB10 := hB9.trans (hb10.mono (by omega))
  clear hA9 hBb9 hC9 hI9 hB9 hb10 hR9
  obtain ⟨g10, c10, rfl⟩ := ownsRow_succ (k := 1) hR10
  have m10 : w10.cell? ⟨g10, 0, none⟩ = some (.int .i64 (-1)) := hR10.cellAt 0 (by simp)
  have l10 := own_lt hR10 g10 rfl
  clear hR10
  go_wp2_with fail
  refine (out_done w10 s (s + 1 + 1) vc _ (by simp) hC10).mono ?_; rintro e w11 ⟨A11, c11, rfl, hR11, hb11⟩
  have hA11 := hA10.below hb11
  have hBb11 := hBb10.below hb11
  have hC11 := hC10.below hb11
  have hI11 := hI10.below (hb11.mono hI10.2.1)
  have hs10 := hB10.size
  have hB11 := hB10.trans (hb11.mono (by omega))
  have m11 := ((bcell hb11).1 g10 0 l10).trans m10
  have l11 := Nat.lt_of_lt_of_le l10 hb11.size
  clear hA10 hBb10 hC10 hI10 hB10 hb11 m10
  go_wp2_with fail
  refine (all_any w11 [2, 1, 2] A11 c11 (C_own hR11).2.2 (C_cap hR11) (by simp) (by simp) takeI _ #[] takeN1 1 (by omega)).mono ?_; rintro e w12 ⟨v12, rfl, _, hb12⟩
  rw [ex_all1]
  have hA12 := hA11.below hb12
  have hBb12 := hBb11.below hb12
  have hC12 := hC11.below hb12
  have hI12 := hI11.below (hb12.mono hI11.2.1)
  have hs11 := hB11.size
  have hB12 := hB11.trans (hb12.mono (by omega))
  have m12 := ((bcell hb12).1 g10 0 l11).trans m11
  have l12 := Nat.lt_of_lt_of_le l11 hb12.size
  clear hA11 hBb11 hC11 hI11 hB11 hb12 hR11 m11
  go_wp2_with fail
  have n12 := Blk.new w12 [.int .u8 1, .int .u8 128] 5
  have hx12 : (Kd.int .u8).C (w12.alloc (.cells #[.int .u8 1, .int .u8 128] 5)) (some ⟨w12.heap.size, 0, none⟩) ([1, 128] : List Int).length [1, 128] := C_mk (by simp) (fun j x hx => by
    rcases j with _ | _ | j
    · simp at hx; subst hx; exact n12.cell (i := 0) rfl
    · simp at hx; subst hx; exact n12.cell (i := 1) rfl
    · simp at hx)
  refine (all_any _ [1, 128] _ 2 hx12 (by simp) (by simp) (by simp) takeI _ #[] takeN1 5 (by omega)).mono ?_; rintro e w13 ⟨v13, rfl, _, hb13'⟩
  rw [ex_all3]
  have hb13 : Below w12.heap.size w12 w13 := ((Below.refl _ w12).alloc (Nat.le_refl _) _).trans (hb13'.mono (by simp))
  have hA13 := hA12.below hb13
  have hBb13 := hBb12.below hb13
  have hC13 := hC12.below hb13
  have hI13 := hI12.below (hb13.mono hI12.2.1)
  have hs12 := hB12.size
  have hB13 := hB12.trans (hb13.mono (by omega))
  have m13 := ((bcell hb13).1 g10 0 l12).trans m12
  have l13 := Nat.lt_of_lt_of_le l12 hb13.size
  clear hA12 hBb12 hC12 hI12 hB12 hb13 hb13' hx12 n12 m12
  have kc : (convert 67 67 (.slice (some ⟨w13.heap.size + 1, 0, none⟩) 2 2)).run Try.prog ((w13.alloc (.cells #[.slice none 0 0] 69)).alloc (.cells #[.int .u8 120, .int .u8 121] 5)) = .ok (.slice (some ⟨w13.heap.size + 1, 0, none⟩) 2 2) ((w13.alloc (.cells #[.slice none 0 0] 69)).alloc (.cells #[.int .u8 120, .int .u8 121] 5 (2, 3))) := by
    have := Lib.run_convert_bytes_const (P := Try.prog) (w13.alloc (.cells #[.slice none 0 0] 69)) 67 5 #[.int .u8 120, .int .u8 121] 2 2 Try.underlying67 Try.underlying5
    rw [World.size_alloc] at this
    exact this
  go_wp2_with fail
  obtain ⟨w14, hw14⟩ : ∃ w14, (w13.alloc (.cells #[.slice none 0 0] 69)).alloc (.cells #[.int .u8 120, .int .u8 121] 5 (2, 3)) = w14 := ⟨_, rfl⟩
  have n14 : w14.heap[w13.heap.size + 1]? = some (.cells #[.int .u8 120, .int .u8 121] 5 (2, 3)) := by
    rw [← hw14]
    have := World.alloc_heap_new (w13.alloc (.cells #[.slice none 0 0] 69)) (.cells #[.int .u8 120, .int .u8 121] 5 (2, 3))
    rwa [World.size_alloc] at this
  have hD14 : OM w14 w13.heap.size w13.heap.size (.slice none 0 0) [] := ⟨Nat.le_refl _, by rw [← hw14]; exact (Blk.new w13 [.slice none 0 0] 69).alloc _, World.ownsRow_nil _ _ _ _⟩
  have hx14 : (Kd.int .u8).C w14 (some ⟨w13.heap.size + 1, 0, none⟩) ([120, 121] : List Int).length [120, 121] := C_mk (by simp) (fun j x hx => by
    rcases j with _ | _ | j
    · simp at hx; subst hx; rw [cell_of_row w14 (w13.heap.size + 1) 0 _ _ (2, 3) n14]; rfl
    · simp at hx; subst hx; rw [cell_of_row w14 (w13.heap.size + 1) 1 _ _ (2, 3) n14]; rfl
    · simp at hx)
  have hb14 : Below w13.heap.size w13 w14 := by rw [← hw14]; exact bel_alloc2 _ _ _
  have hz14 : w14.heap.size = w13.heap.size + 2 := by rw [← hw14]; simp
  have hA14 : ∀ ad, (some (⟨w13.heap.size + 1, 0, none⟩ : Addr)) = some ad → ad.block ≠ w13.heap.size ∧ some ad.block ≠ (Value.slice none 0 0).ownBlock := fun ad e => by
    cases e
    refine ⟨?_, by simp [Value.ownBlock]⟩
    · show w13.heap.size + 1 ≠ _; omega
  rw [hw14]
  clear hw14 n14
  refine (out_bytes w14 _ _ _ [] [120, 121] _ 2 hx14 (fun _ => hA14) (by simp) (by simp) (by simp) hD14).mono ?_; rintro e w15 ⟨rfl, vd, hD15, hF15⟩
  have hu2 : [] ++ uv ([120, 121] : List Int).length ++ [120, 121] = [2, 120, 121] := by rw [show ([120, 121] : List Int).length = 2 from rfl, uv_small (by omega)]; rfl
  rw [hu2] at hD15
  have hb15 : Below w13.heap.size w13 w15 := hb14.trans (hD14.belowB hF15)
  have hA15 := hA13.below hb15
  have hBb15 := hBb13.below hb15
  have hC15 := hC13.below hb15
  have hI15 := hI13.below (hb15.mono hI13.2.1)
  have hs13 := hB13.size
  have hB15 := hB13.trans (hb15.mono (by omega))
  have m15 := ((bcell hb15).1 g10 0 l13).trans m13
  have l15 := Nat.lt_of_lt_of_le l13 hb15.size
  clear hA13 hBb13 hC13 hI13 hB13 hb15 m13 hb14 hx14 hD14 hF15 hu2 kc
  go_wp2_with fail
  refine (out_done w15 s s va _ (by simp) hA15).mono ?_; rintro e w16 ⟨A16, c16, rfl, hR16, hb16⟩
  have st16 : (convert 67 9 (.slice A16 2 c16)).run Try.prog w16 = .ok (.string ⟨#[172, 2]⟩) w16 := by
    have := own_string (dst := 9) Try.underlying67 Try.underlying5 Try.underlying9 hR16
    rw [show strOfNums [172, 2] = ⟨#[172, 2]⟩ from rfl] at this
    exact this
  go_wp2_with fail
  have hBb16 := hBb15.below hb16
  have hC16 := hC15.below hb16
  have hD16 := hD15.below hb16
  have hI16 := hI15.below (hb16.mono hI15.2.1)
  have hs15 := hB15.size
  have hB16 := hB15.trans (hb16.mono (by omega))
  have m16 := ((bcell hb16).1 g10 0 l15).trans m15
  have l16 := Nat.lt_of_lt_of_le l15 hb16.size
  clear hA15 hBb15 hC15 hD15 hI15 hB15 hb16 m15 st16 hR16
  refine (out_done w16 s (s + 1) vb _ (by simp) hBb16).mono ?_; rintro e w17 ⟨A17, c17, rfl, hR17, hb17⟩
  have st17 : (convert 67 9 (.slice A17 1 c17)).run Try.prog w17 = .ok (.string ⟨#[1]⟩) w17 := by
    have := own_string (dst := 9) Try.underlying67 Try.underlying5 Try.underlying9 hR17
    rw [show strOfNums [1] = ⟨#[1]⟩ from rfl] at this
    exact this
  have hC17 := hC16.below hb17
  have hD17 := hD16.below hb17
  have hI17 := hI16.below (hb17.mono hI16.2.1)
  have hs16 := hB16.size
  have hB17 := hB16.trans (hb17.mono (by omega))
  have m17 := ((bcell hb17).1 g10 0 l16).trans m16
  have l17 := Nat.lt_of_lt_of_le l16 hb17.size
  clear hBb16 hC16 hD16 hI16 hB16 hb17 m16
  go_wp2_with fail
  refine (out_done w17 s (s + 1 + 1) vc _ (by simp) hC17).mono ?_; rintro e w18 ⟨A18, c18, rfl, hR18, hb18⟩
  have st18 : (convert 67 9 (.slice A18 3 c18)).run Try.prog w18 = .ok (.string ⟨#[2, 1, 2]⟩) w18 := by
    have := own_string (dst := 9) Try.underlying67 Try.underlying5 Try.underlying9 hR18
    rw [show strOfNums [2, 1, 2] = ⟨#[2, 1, 2]⟩ from rfl] at this
    exact this
  have hD18 := hD17.below hb18
  have hI18 := hI17.below (hb18.mono hI17.2.1)
  have hs17 := hB17.size
  have hB18 := hB17.trans (hb18.mono (by omega))
  have m18 := ((bcell hb18).1 g10 0 l17).trans m17
  have l18 := Nat.lt_of_lt_of_le l17 hb18.size
  clear hC17 hD17 hI17 hB17 hb18 m17 st17 hR17
  go_wp2_with fail
  refine (in_left w18 _ pi _ hI18).mono ?_; rintro e w19 ⟨rfl, rfl⟩
  go_wp2_with fail
  refine (in_err w18 _ pi _ hI18).mono ?_; rintro e w19 ⟨rfl, rfl⟩
  go_wp2_with fail
  refine (out_done w18 _ _ vd _ (by simp) hD18).mono ?_; rintro e w19 ⟨A19, c19, rfl, hR19, hb19⟩
  have hs18 := hB18.size
  have hB19 := hB18.trans (hb19.mono (by omega))
  clear st18 hR18 hD18 m18 hI18
  go_wp2_with fail
  refine (from_any w19 [2, 120, 121] A19 c19 (C_own hR19).2.2 (C_cap hR19) (by simp)).mono ?_; rintro e w20 ⟨pj, hpj, rfl, hI20, hb20⟩
  have hs19 := hB19.size
  have hB20 := hB19.trans (hb20.mono (by omega))
  clear hR19 hb19
  go_wp2_with fail
  refine (in_bytes w20 _ pj _ 2 (by simp) (by simp) hI20 (by omega)).mono ?_; rintro e w21 ⟨A21, c21, rfl, hR21, _, hg21⟩
  rw [ex_bytes] at hR21 ⊢
  have st21 : (convert 67 9 (.slice A21 2 c21)).run Try.prog w21 = .ok (.string ⟨#[120, 121]⟩) w21 := by
    have := own_string (dst := 9) Try.underlying67 Try.underlying5 Try.underlying9 hR21
    rw [show strOfNums [120, 121] = ⟨#[120, 121]⟩ from rfl] at this
    exact this
  have hs20 := hB20.size
  have hB21 := hB20.trans (grown_below hg21 (by omega) (by omega))
  clear hR21
  go_wp2_with fail
  go_ret
  exact ⟨rfl, by rw [hs]; exact hB21⟩

end Go.Proofs.Ytbhpokcnkdgcmaa.Cod
