/- CodecBack. -/
import Derived.Test.YtbhpokcnkdgcmaaCodW
import Derived.Test.YtbhpokcnkdgcmaaCodP
import Derived.Test.YtbhpokcnkdgcmaaPCodecBackx1
set_option linter.unusedSimpArgs false
set_option linter.unusedVariables false
namespace Go.Proofs.Ytbhpokcnkdgcmaa.Cod
open Go.RowKit Go.Shelf Go.Proofs.YtbhpokcnkdgcmaaW.PrintWords Go.Proofs.Ytbhpokcnkdgcmaa.CodL
attribute [local go_sem] Oper.semAt_some

theorem nums_same_l0 (xs : List Int) (hl : xs.length ≤ 1099511627776) : ∀ d i, i + d = xs.length → Ev (fun k => PCodecBack.saleroomref01_SameNums.l0 k xs xs (i : Int)) true := by
  intro d
  induction d with
  | zero =>
    intro i hi
    refine Ev.step (f := fun _ => some true) (fun k => ?_) (Ev.now _)
    simp only [PCodecBack.saleroomref01_SameNums.l0]
    rw [if_neg (by omega)]
  | succ d ih =>
    intro i hi
    refine Ev.step (f := fun k => PCodecBack.saleroomref01_SameNums.l0 k xs xs ((i + 1 : Nat) : Int)) (fun k => ?_) (ih (i + 1) (by omega))
    simp only [PCodecBack.saleroomref01_SameNums.l0]
    rw [if_pos (by omega), if_pos (by omega), if_pos (by omega), if_pos trivial, wrap_succ (by omega)]
theorem ref_sameNums (W : World) (A B : Option Addr) (c d : Nat) (xs : List Int) (hl : xs.length ≤ 1099511627776) (hc : xs.length ≤ c) (hd : xs.length ≤ d) (hA : (Kd.int .i64).C W A xs.length xs) (hB : (Kd.int .i64).C W B xs.length xs) : Calls Try.prog 64 #[.slice A xs.length c, .slice B xs.length d] W fun e w' => e = .returned (.bool true) ∧ Below W.heap.size W w' := by
  have hE : Ev (fun k => PCodecBack.saleroomref01_SameNums.f k xs xs) true := by
    refine Ev.congr (fun k => ?_) (nums_same_l0 xs hl xs.length 0 (by omega))
    simp only [PCodecBack.saleroomref01_SameNums.f]
    rw [if_pos trivial]
    rfl
  obtain ⟨k, hk⟩ := hE.rounds
  exact (PCodecBack.saleroomref01_SameNums.calls k A c xs B d xs _ W hA hc hB hd hk).mono fun _ _ ⟨h1, h2⟩ => ⟨h1, h2.below⟩

/-- a list that is written is handed out -/
theorem gives_row {W W2 : World} {A : Option Addr} {c : Nat} {ns : List Int} (hl : ns.length < 9223372036854775807) (hC : (Kd.int .i64).C W A ns.length ns) (hw : W2 = W.alloc (.cells #[.slice A ns.length c] 57)) : Gives 100 #[.pointer (some ⟨W.heap.size, 0, none⟩)] W2.heap.size W2 evN ns 0 := by
  have hb : Below W.heap.size W W2 := by rw [hw]; exact (Below.refl _ W).alloc (Nat.le_refl _) _
  exact values_gives W2 W.heap.size W2.heap.size (.slice A ns.length c) ns hl (by rw [hw]; simp) (by rw [hw]; exact Boxed.new _ _ _) (((Rd_of_C (c := c) hC).below hb).mono hb.size)

set_option maxRecDepth 100000 in
set_option maxHeartbeats 4000000 in
theorem back_walk (W : World) (n : Int) (wn : (Lit.int .u64 n).wf = true) (m : Int) (wm : (Lit.int .i64 m).wf = true)
    (bs : List Int) (Ab : Option Addr) (cb : Nat) (hlb : bs.length ≤ cb) (hAb : Ab = none → cb = 0) (hCb : (Kd.int .u8).C W Ab bs.length bs) (hmb : bs.length ≤ maxLen) (hgb : ∀ z ∈ bs, (Lit.int .u8 z).wf = true)
    (ns : List Int) (An : Option Addr) (cn : Nat) (hln : ns.length ≤ cn) (hAn : An = none → cn = 0) (hCn : (Kd.int .i64).C W An ns.length ns) (hmn : ns.length ≤ maxLen) (hgn : ∀ z ∈ ns, (Lit.int .i64 z).wf = true) :
    Calls Try.prog 10 #[.int .u64 n, .int .i64 m, .slice Ab bs.length cb, .slice An ns.length cn] W fun e w' => e = .returned (.bool true) ∧ Below W.heap.size W w' := by
  obtain ⟨n, rfl⟩ : ∃ k : Nat, n = (k : Int) := ⟨n.toNat, by have := bounds_u64 wn; omega⟩
  have hn : n < 18446744073709551616 := by have := bounds_u64 wn; omega
  have hm := bounds_i64 wm
  have hgb' : ∀ z ∈ bs, 0 ≤ z ∧ z < 256 := fun z hz => by have := bounds_u8 (hgb z hz); omega
  have hgn' : ∀ z ∈ ns, goodN z := fun z hz => bounds_i64 (hgn z hz)
  unfold maxLen at hmb hmn
  have HN := Lib.hid hn; clear hn wn wm hgb hgn
  go_enter Try.func10, Try.ntmps10
  go_wp2_with fail
  refine (alive_any W).mono ?_; rintro e w1 ⟨rfl, hB1⟩
  by_cases hl1 : bs.length ≤ 500
  · by_cases hl2 : ns.length ≤ 50
    · have hl1' : (bs.length : Int) ≤ 500 := by omega
      have hl2' : (ns.length : Int) ≤ 50 := by omega
      go_wp2_with fail
      have hM1 : OM (w1.alloc (.cells #[.slice none 0 0] 69)) w1.heap.size w1.heap.size (.slice none 0 0) [] := ⟨Nat.le_refl _, Blk.new _ _ _, World.ownsRow_nil _ _ _ _⟩
      have hB1a : Below W.heap.size W (w1.alloc (.cells #[.slice none 0 0] 69)) := hB1.alloc hB1.size _
      have hz1 := hB1.size
      obtain ⟨p, hp⟩ : ∃ p, w1.heap.size = p := ⟨_, rfl⟩
      rw [hp] at hM1 hz1 ⊢
      clear hp hB1
      have hun := uv_len10 HN.out
      have huz := uv_len10 (zz_lt hm)
      have hulb := uv_len10 (n := bs.length) (by omega)
      have huln := uv_len10 (n := ns.length) (by omega)
      have hfl := flat_len (wr := wrN) (m := 10) ns (fun z hz' => wrN_len (hgn' z hz'))
      refine (out_int _ p p _ [] m hm (by simp) hM1).mono ?_; rintro e w2 ⟨rfl, v2, hM2, hF2⟩
      have hB2 := hB1a.trans ((hM1.belowB hF2).mono hz1)
      clear hM1 hF2 hB1a
      rw [List.nil_append] at hM2
      go_wp2_with fail
      refine (values_any _ _ _ _).mono ?_; rintro e w3 ⟨rfl, hw3⟩
      have hg3 := gives_row (by omega) (Kd.C_below hCn hB2) hw3
      have hb3 : Below w2.heap.size w2 w3 := by rw [hw3]; exact (Below.refl _ w2).alloc (Nat.le_refl _) _
      have hM3 := hM2.below hb3
      have hB3 := hB2.trans (hb3.mono hB2.size)
      clear hM2 hw3 hb3 hB2
      go_wp2_with fail
      refine (put_any w3 p p _ _ _ #[] putN _ _ ns hg3 hgn' (by omega) (by omega) hM3).mono ?_; rintro e w4 ⟨rfl, v4, hM4, hF4⟩
      have hB4 := hB3.trans ((hM3.belowB hF4).mono hz1)
      clear hM3 hF4 hg3 hB3
      go_wp2_with fail
      refine (out_bytes w4 p p _ _ bs Ab cb (Kd.C_below hCb hB4) (fun hn ad e => ?_) hAb (by omega) (by simp only [List.length_append]; omega) hM4).mono ?_
      · subst e
        obtain ⟨b, off, e, hlt⟩ := C_spot hCb hn Nat.one_pos
        cases e
        have h3 : some b ≠ v4.ownBlock := fun e => by have := hM4.ge b e.symm; omega
        exact ⟨by show b ≠ p; omega, h3⟩
      rintro e w5 ⟨rfl, v5, hM5, hF5⟩
      have hB5 := hB4.trans ((hM4.belowB hF5).mono hz1)
      clear hM4 hF5 hB4
      go_wp2_with fail
      refine (out_uint w5 p p _ _ n HN.out (by simp only [List.length_append]; omega) hM5).mono ?_; rintro e w6 ⟨rfl, v6, hM6, hF6⟩
      have hB6 := hB5.trans ((hM5.belowB hF6).mono hz1)
      clear hM5 hF6 hB5
      obtain ⟨all, hall⟩ : ∃ l, uv (zz m) ++ (uv ns.length ++ (ns.flatMap wrN ++ (uv bs.length ++ (bs ++ (uv n ++ []))))) = l := ⟨_, rfl⟩
      have hall1 : uv (zz m) ++ uv ns.length ++ ns.flatMap wrN ++ uv bs.length ++ bs ++ uv n = all := by rw [← hall]; simp
      have hlen : all.length ≤ 2000 := by rw [← hall1]; simp only [List.length_append]; omega
      have hbyte : ∀ x ∈ all, 0 ≤ x ∧ x < 256 := by
        intro x hx
        rw [← hall] at hx
        simp only [List.mem_append, List.mem_flatMap, List.not_mem_nil, or_false] at hx
        rcases hx with hx | hx | ⟨y, _, hx⟩ | hx | hx | hx
        · exact uv_byte _ x hx
        · exact uv_byte _ x hx
        · exact uv_byte _ x hx
        · exact uv_byte _ x hx
        · exact hgb' x hx
        · exact uv_byte _ x hx
      rw [hall1] at hM6
      have HALL := Lib.hid hall; clear hall hall1
      go_wp2_with fail
      refine (out_done w6 p p _ _ (by omega) hM6).mono ?_; rintro e w7 ⟨A7, c7, rfl, hR7, hb7⟩
      obtain ⟨hc7, _, hC7⟩ := C_own hR7
      have hA7 := C_cap hR7
      have hB7 := hB6.trans (hb7.mono hB6.size)
      clear hM6 hR7 hb7 hB6
      go_wp2_with fail
      refine (from_any w7 all A7 c7 hC7 hA7 (by omega)).mono ?_; rintro e w8 ⟨q, hq, rfl, hI8, hb8⟩
      have hB8 := hB7.trans (hb8.mono hB7.size)
      have hq0 : W.heap.size ≤ q := Nat.le_trans hB7.size hq
      clear hC7 hb8 hB7 hq
      obtain ⟨n₀, hn₀⟩ : ∃ n₀, w8.heap.size = n₀ := ⟨_, rfl⟩
      rw [hn₀] at hI8
      go_wp2_with fail
      obtain ⟨r3, h3⟩ : ∃ r, uv n ++ [] = r := ⟨_, rfl⟩
      obtain ⟨r2, h2⟩ : ∃ r, uv bs.length ++ (bs ++ r3) = r := ⟨_, rfl⟩
      obtain ⟨r1, h1⟩ : ∃ r, uv ns.length ++ (ns.flatMap wrN ++ r2) = r := ⟨_, rfl⟩
      have hall := HALL.out
      rw [h3, h2, h1] at hall
      have hb1 : ∀ x ∈ r1, 0 ≤ x ∧ x < 256 := fun x hx => hbyte x (by rw [← hall]; exact List.mem_append_right _ hx)
      have hb2 : ∀ x ∈ r2, 0 ≤ x ∧ x < 256 := fun x hx => hb1 x (by rw [← h1]; exact List.mem_append_right _ (List.mem_append_right _ hx))
      have hb3 : ∀ x ∈ r3, 0 ≤ x ∧ x < 256 := fun x hx => hb2 x (by rw [← h2]; exact List.mem_append_right _ (List.mem_append_right _ hx))
      have hl0 : all.length = (uv (zz m)).length + r1.length := by rw [← hall, List.length_append]
      have hll1 : r1.length = (uv ns.length).length + ((ns.flatMap wrN).length + r2.length) := by rw [← h1, List.length_append, List.length_append]
      have hll2 : r2.length = (uv bs.length).length + (bs.length + r3.length) := by rw [← h2, List.length_append, List.length_append]
      have hi := in_int w8 n₀ q (all, 0) hbyte (by show all.length ≤ _; omega) hI8
      rw [← hall, takeI_uv hm] at hi
      have t1 := takeN_uv (rest := r2) hgn' (most := 50) (by omega) (by omega)
      have t2 := takeB_uv (bs := bs) (rest := r3) (most := 500) (by omega) (by omega)
      have t3 := takeU_uv HN.out []
      have h1' : uv ns.length ++ (ns.flatMap (fun x => uv (zz x)) ++ r2) = r1 := h1
      rw [h1'] at t1
      rw [h2] at t2
      rw [h3] at t3
      have T1 := Lib.hid t1; have T2 := Lib.hid t2; have T3 := Lib.hid t3
      have HI := Lib.hid hi
      clear t1 t2 t3 h1 h1' h2 h3 hall HALL hi hI8 hbyte
      refine HI.out.mono ?_; rintro e w9 ⟨rfl, hI9, hg9⟩
      have hB9 := hB8.trans (grown_below hg9 hq0 hB8.size)
      clear HI hg9 hB8
      dsimp only at hI9 ⊢
      go_wp2_with fail
      refine (take_any w9 n₀ q (r1, 0) takeI _ #[] takeN1 50 hb1 (by show r1.length ≤ _; omega) hI9 (by omega)).mono ?_; rintro e w10 ⟨v10, rfl, hR10, hI10, hg10⟩
      rw [T1.out] at hR10 hI10
      dsimp only at hR10 hI10
      have hB10 := hB9.trans (grown_below hg10 hq0 hB9.size)
      obtain ⟨A10, c10, rfl⟩ := own_slice hR10
      rw [cvN_nums] at hR10
      obtain ⟨hc10, _, hC10⟩ := C_own hR10
      clear hI9 hg10 hB9 hR10
      go_wp2_with fail
      refine (ref_sameNums w10 A10 An c10 cn ns (by omega) hc10 hln hC10 (Kd.C_below hCn hB10)).mono ?_; rintro e w11 ⟨rfl, hb11⟩
      have hI11 := hI10.below (hb11.mono hI10.2.1)
      have hB11 := hB10.trans (hb11.mono hB10.size)
      clear hI10 hC10 hb11 hB10
      go_wp2_with fail
      refine (in_bytes w11 n₀ q (r2, 0) 500 hb2 (by show r2.length ≤ _; omega) hI11 (by omega)).mono ?_; rintro e w12 ⟨A12, c12, rfl, hR12, hI12, hg12⟩
      rw [T2.out] at hR12 hI12 ⊢
      dsimp only at hR12 hI12 ⊢
      have hB12 := hB11.trans (grown_below hg12 hq0 hB11.size)
      obtain ⟨hc12, _, hC12⟩ := C_own hR12
      clear hI11 hg12 hB11 hR12
      go_wp2_with fail
      refine (ref_same w12 A12 Ab c12 cb bs (by omega) hc12 hlb hC12 (Kd.C_below hCb hB12)).mono ?_; rintro e w13 ⟨rfl, hb13⟩
      have hI13 := hI12.below (hb13.mono hI12.2.1)
      have hB13 := hB12.trans (hb13.mono hB12.size)
      clear hI12 hC12 hb13 hB12
      go_wp2_with fail
      refine (in_uint w13 n₀ q (r3, 0) hb3 (by show r3.length ≤ _; omega) hI13).mono ?_; rintro e w14 ⟨rfl, hI14, hg14⟩
      rw [T3.out] at hI14 ⊢
      dsimp only at hI14 ⊢
      have hB14 := hB13.trans (grown_below hg14 hq0 hB13.size)
      clear hI13 hg14 hB13
      go_wp2_with fail
      refine (in_err w14 _ q _ hI14).mono ?_; rintro e w15 ⟨rfl, rfl⟩
      dsimp only
      go_wp2_with fail
      refine (in_left w14 _ q _ hI14).mono ?_; rintro e w15 ⟨rfl, rfl⟩
      dsimp only [List.length_nil]
      clear hI14
      go_wp2_with fail
      refine (all_any w14 bs Ab cb (Kd.C_below hCb hB14) hAb hgb' (by omega) takeI _ #[] takeN1 1000 (by omega)).mono ?_; rintro e w16 ⟨v16, rfl, hR16, hb16⟩
      have hB16 := hB14.trans (hb16.mono hB14.size)
      obtain ⟨A16, c16, rfl⟩ := own_slice hR16
      by_cases he : (allN takeI bs 1000).2 = 0
      · obtain ⟨hback, hgood⟩ := allN_back hgb' he
        obtain ⟨⟨ys, x⟩, hys⟩ : ∃ r, allN takeI bs 1000 = r := ⟨_, rfl⟩
        rw [hys] at hR16 he hback hgood ⊢
        dsimp only at hR16 he hback hgood ⊢
        subst he
        clear hys
        rw [cvN_nums] at hR16
        obtain ⟨hc16, _, hC16⟩ := C_own hR16
        have hyl : ys.length ≤ 500 := by
          have h := congrArg List.length hback
          have h2 : ys.length ≤ (ys.flatMap (fun x => uv (zz x))).length := by
            clear h hback hgood hC16 hR16 hc16
            induction ys with
            | nil => simp
            | cons y ys ih => rw [List.flatMap_cons, List.length_append, List.length_cons]; have := uv_pos (zz y); omega
          rw [List.length_append] at h
          omega
        have HBK := Lib.hid hback; clear hback hb16 hB14 hR16
        go_wp2_with fail
        have hM17 : OM (w16.alloc (.cells #[.slice none 0 0] 69)) w16.heap.size w16.heap.size (.slice none 0 0) [] := ⟨Nat.le_refl _, Blk.new _ _ _, World.ownsRow_nil _ _ _ _⟩
        have hB17 : Below W.heap.size W (w16.alloc (.cells #[.slice none 0 0] 69)) := hB16.alloc hB16.size _
        have hC17 := Kd.C_alloc hC16 (.cells #[.slice none 0 0] 69)
        have hz16 := hB16.size
        obtain ⟨w17, hw17⟩ : ∃ w17, w16.alloc (.cells #[.slice none 0 0] 69) = w17 := ⟨_, rfl⟩
        rw [hw17] at hM17 hB17 hC17 ⊢
        obtain ⟨p', hp'⟩ : ∃ p', w16.heap.size = p' := ⟨_, rfl⟩
        rw [hp'] at hM17 hz16 ⊢
        clear hw17 hp' hC16 hB16
        refine (values_any _ _ _ _).mono ?_; rintro e w18 ⟨rfl, hw18⟩
        have hg18 := gives_row (by omega) hC17 hw18
        have hb18 : Below w17.heap.size w17 w18 := by rw [hw18]; exact (Below.refl _ w17).alloc (Nat.le_refl _) _
        have hM18 := hM17.below hb18
        have hB18 := hB17.trans (hb18.mono hB17.size)
        clear hM17 hw18 hb18 hB17 hC17
        go_wp2_with fail
        refine (put_any w18 p' p' _ [] _ #[] putN _ _ ys hg18 hgood (by omega) (by simp) hM18).mono ?_; rintro e w19 ⟨rfl, v19, hM19, hF19⟩
        have hB19 := hB18.trans ((hM18.belowB hF19).mono hz16)
        have hy : [] ++ uv ys.length ++ ys.flatMap wrN = bs := by rw [List.nil_append]; exact HBK.out.symm
        rw [hy] at hM19
        clear hM18 hF19 hg18 hB18 hy HBK
        go_wp2_with fail
        refine (out_done w19 p' p' _ _ (by omega) hM19).mono ?_; rintro e w20 ⟨A20, c20, rfl, hR20, hb20⟩
        obtain ⟨hc20, _, hC20⟩ := C_own hR20
        have hB20 := hB19.trans (hb20.mono hB19.size)
        clear hM19 hR20 hb20 hB19
        go_wp2_with fail
        refine (ref_same w20 A20 Ab c20 cb bs (by omega) hc20 hlb hC20 (Kd.C_below hCb hB20)).mono ?_; rintro e w21 ⟨rfl, hb21⟩
        go_wp2_with fail
        go_ret
        exact ⟨rfl, hB20.trans (hb21.mono hB20.size)⟩
      · have hnil := allN_err he
        rw [hnil] at hR16
        obtain ⟨x, hx⟩ : ∃ x, (allN takeI bs 1000).2 = x := ⟨_, rfl⟩
        rw [hx] at he ⊢
        have hxb : (x == 0) = false := by simpa using he
        rw [hnil]
        clear he hnil hx hR16
        go_wp2_with fail
        go_ret
        exact ⟨rfl, hB16⟩
    · have hl1' : (bs.length : Int) ≤ 500 := by omega
      have hl2' : (50 : Int) < (ns.length : Int) := by omega
      go_wp2_with fail
      go_ret
      exact ⟨rfl, hB1⟩
  · have hl1' : (500 : Int) < (bs.length : Int) := by omega
    go_wp2_with fail
    go_ret
    exact ⟨rfl, hB1⟩

end Go.Proofs.Ytbhpokcnkdgcmaa.Cod
