/- CodecWrites. -/
import Derived.Test.YtbhpokcnkdgcmaaCod8
import Derived.Test.YtbhpokcnkdgcmaaCod9
set_option linter.unusedSimpArgs false
set_option linter.unusedVariables false
namespace Go.Proofs.Ytbhpokcnkdgcmaa.Cod
open Go.RowKit Go.Shelf Go.Proofs.YtbhpokcnkdgcmaaW.PrintWords Go.Proofs.Ytbhpokcnkdgcmaa.CodL Go.Proofs.Ytbhpokcnkdgcmaa.PCodecWrites
attribute [local go_sem] Oper.semAt_some

/-- the document's bytes: in new memory -/
def Bts (w w' : World) (e : Ending) (r : List Int) : Prop := ∃ A c, e = .returned (.slice A r.length c) ∧ r.length ≤ c ∧ (Kd.int .u8).C w' A r.length r ∧ Below w.heap.size w w'
theorem bts_of {w w' : World} {e : Ending} {r : List Int} {ok : Nat → Prop} (h : ∃ v0_ : Value, e = .returned v0_ ∧ Kd.R (Kd.int .u8) 5 w' w.heap.size ok v0_ r ∧ Below w.heap.size w w') : Bts w w' e r := by
  obtain ⟨v, rfl, hR, hB⟩ := h
  obtain ⟨A, c, rfl, h1, h2⟩ := Kd.R_reads hR
  exact ⟨A, c, rfl, h1, h2, hB⟩
theorem ref_uint (W : World) (n : Nat) (hn : n < 18446744073709551616) : Calls Try.prog 58 #[.int .u64 (n : Int)] W fun e w' => Bts W w' e (uv n) := by
  obtain ⟨k, hk⟩ := (uint_ev n hn).rounds
  exact (saleroomref05_Uint.calls k n _ W hk).mono fun _ _ h => bts_of h
theorem ref_int (W : World) (m : Int) (hm : -9223372036854775808 ≤ m ∧ m ≤ 9223372036854775807) : Calls Try.prog 59 #[.int .i64 m] W fun e w' => Bts W w' e (uv (zz m)) := by
  obtain ⟨k, hk⟩ := (int_ev m hm).rounds
  exact (saleroomref05_Int.calls k m _ W hk).mono fun _ _ h => bts_of h
theorem ref_bytes (W : World) (A : Option Addr) (c : Nat) (bs : List Int) (hl : bs.length ≤ 1073741824) (hc : bs.length ≤ c) (hC : (Kd.int .u8).C W A bs.length bs) : Calls Try.prog 60 #[.slice A bs.length c] W fun e w' => Bts W w' e (uv bs.length ++ bs) := by
  obtain ⟨k, hk⟩ := (bytes_ev bs hl).rounds
  exact (saleroomref05_Bytes.calls k _ A c bs _ W (Kd.V_mk hc (Kd.C_F (Kd.heap_int _) hC)) hk).mono fun _ _ h => bts_of h
theorem ref_nums (W : World) (A : Option Addr) (c : Nat) (ns : List Int) (hg : ∀ n ∈ ns, goodN n) (hl : ns.length ≤ 1073741824) (hc : ns.length ≤ c) (hC : (Kd.int .i64).C W A ns.length ns) : Calls Try.prog 61 #[.slice A ns.length c] W fun e w' => Bts W w' e (uv ns.length ++ ns.flatMap wrN) := by
  obtain ⟨k, hk⟩ := (nums_ev ns hg hl).rounds
  exact (saleroomref05_Nums.calls k A c ns _ W hC hc hk).mono fun _ _ h => bts_of h
theorem ref_join (W : World) (A : Option Addr) (c : Nat) (ls : List (List Int)) (hl : ls.length ≤ 1073741824) (hf : ls.flatten.length ≤ 1099511627776) (hc : ls.length ≤ c) (hC : (Kd.slice 5 (Kd.int .u8)).C W A ls.length ls) : Calls Try.prog 57 #[.slice A ls.length c] W fun e w' => Bts W w' e ls.flatten := by
  obtain ⟨k, hk⟩ := (join_ev ls (by omega) hf).rounds
  exact (saleroomref01_Join.calls k A c ls _ W hC hc hk).mono fun _ _ h => bts_of h
theorem ref_same (W : World) (A B : Option Addr) (c d : Nat) (xs : List Int) (hl : xs.length ≤ 1099511627776) (hc : xs.length ≤ c) (hd : xs.length ≤ d) (hA : (Kd.int .u8).C W A xs.length xs) (hB : (Kd.int .u8).C W B xs.length xs) : Calls Try.prog 55 #[.slice A xs.length c, .slice B xs.length d] W fun e w' => e = .returned (.bool true) ∧ Below W.heap.size W w' := by
  obtain ⟨k, hk⟩ := (same_ev xs hl).rounds
  exact (saleroomref01_Same.calls k A c xs B d xs _ W hA hc hB hd hk).mono fun _ _ ⟨h1, h2⟩ => ⟨h1, h2.below⟩

set_option maxRecDepth 100000 in
set_option maxHeartbeats 4000000 in
theorem writes_walk (W : World) (n : Int) (wn : (Lit.int .u64 n).wf = true) (m : Int) (wm : (Lit.int .i64 m).wf = true)
    (bs : List Int) (Ab : Option Addr) (cb : Nat) (hlb : bs.length ≤ cb) (hAb : Ab = none → cb = 0) (hCb : (Kd.int .u8).C W Ab bs.length bs) (hmb : bs.length ≤ maxLen) (hgb : ∀ z ∈ bs, (Lit.int .u8 z).wf = true)
    (ns : List Int) (An : Option Addr) (cn : Nat) (hln : ns.length ≤ cn) (hAn : An = none → cn = 0) (hCn : (Kd.int .i64).C W An ns.length ns) (hmn : ns.length ≤ maxLen) (hgn : ∀ z ∈ ns, (Lit.int .i64 z).wf = true) :
    Calls Try.prog 9 #[.int .u64 n, .int .i64 m, .slice Ab bs.length cb, .slice An ns.length cn] W fun e w' => e = .returned (.bool true) ∧ Below W.heap.size W w' := by
  obtain ⟨n, rfl⟩ : ∃ k : Nat, n = (k : Int) := ⟨n.toNat, by have := bounds_u64 wn; omega⟩
  have hn : n < 18446744073709551616 := by have := bounds_u64 wn; omega
  have hm := bounds_i64 wm
  have hgb' : ∀ z ∈ bs, 0 ≤ z ∧ z < 256 := fun z hz => by have := bounds_u8 (hgb z hz); omega
  have hgn' : ∀ z ∈ ns, goodN z := fun z hz => bounds_i64 (hgn z hz)
  unfold maxLen at hmb hmn
  have HN := Lib.hid hn; clear hn wn wm hgb hgn
  go_enter Try.func9, Try.ntmps9
  go_wp2_with fail
  refine (alive_any W).mono ?_; rintro e w1 ⟨rfl, hB1⟩
  by_cases hl1 : bs.length ≤ 500
  · by_cases hl2 : ns.length ≤ 50
    · have hl1' : (bs.length : Int) ≤ 500 := by omega
      have hl2' : (ns.length : Int) ≤ 50 := by omega
      go_wp2_with fail
      have hM1 : OM (w1.alloc (.cells #[.slice none 0 0] 69)) w1.heap.size w1.heap.size (.slice none 0 0) [] := ⟨Nat.le_refl _, Blk.new _ _ _, World.ownsRow_nil _ _ _ _⟩
      have hB1a : Below W.heap.size W (w1.alloc (.cells #[.slice none 0 0] 69)) := hB1.alloc hB1.size _
      have hz1 := hB1.size
      obtain ⟨p, hp⟩ : ∃ p, w1.heap.size = p := ⟨_, rfl⟩
      rw [hp] at hM1 hz1 ⊢
      clear hp hB1
      refine (out_uint _ p p _ [] n HN.out (by simp) hM1).mono ?_; rintro e w2 ⟨rfl, v2, hM2, hF2⟩
      have hB2 := hB1a.trans ((hM1.belowB hF2).mono hz1)
      have hul := uv_len10 HN.out
      have huz := uv_len10 (zz_lt hm)
      have hulb := uv_len10 (n := bs.length) (by omega)
      have huln := uv_len10 (n := ns.length) (by omega)
      clear hM1 hF2 hB1a
      rw [List.nil_append] at hM2
      go_wp2_with fail
      refine (out_int w2 p p _ _ m hm (by omega) hM2).mono ?_; rintro e w3 ⟨rfl, v3, hM3, hF3⟩
      have hB3 := hB2.trans ((hM2.belowB hF3).mono hz1)
      clear hM2 hF3 hB2
      go_wp2_with fail
      refine (out_bytes w3 p p _ _ bs Ab cb (Kd.C_below hCb hB3) (fun hn ad e => ?_) hAb (by omega) (by simp; omega) hM3).mono ?_
      · subst e
        obtain ⟨b, off, e, hlt⟩ := C_spot hCb hn Nat.one_pos
        cases e
        have h3 : some b ≠ v3.ownBlock := fun e => by have := hM3.ge b e.symm; omega
        exact ⟨by show b ≠ p; omega, h3⟩
      rintro e w4 ⟨rfl, v4, hM4, hF4⟩
      have hB4 := hB3.trans ((hM3.belowB hF4).mono hz1)
      clear hM3 hF4 hB3
      go_wp2_with fail
      refine (values_any _ _ _ _).mono ?_; rintro e w5 ⟨rfl, hw5⟩
      have hb5 : Below w4.heap.size w4 w5 := by rw [hw5]; exact (Below.refl _ w4).alloc (Nat.le_refl _) _
      have hg5 := values_gives w5 w4.heap.size w5.heap.size (.slice An ns.length cn) ns (by omega) (by rw [hw5]; simp) (by rw [hw5]; exact Boxed.new _ _ _) ((Rd_of_C (c := cn) (Kd.C_below hCn hB4)).below hb5 |>.mono hb5.size)
      have hM5 := hM4.below hb5
      have hB5 := hB4.trans (hb5.mono hB4.size)
      clear hM4 hw5 hb5 hB4
      go_wp2_with fail
      refine (put_any w5 p p _ _ _ #[] putN _ _ ns hg5 hgn' (by omega) (by simp; omega) hM5).mono ?_; rintro e w6 ⟨rfl, v6, hM6, hF6⟩
      have hB6 := hB5.trans ((hM5.belowB hF6).mono hz1)
      have hfl := flat_len (wr := wrN) (m := 10) ns (fun z hz' => wrN_len (hgn' z hz'))
      clear hM5 hF6 hg5 hB5
      obtain ⟨all, hall⟩ : ∃ l, uv n ++ uv (zz m) ++ uv bs.length ++ bs ++ uv ns.length ++ ns.flatMap wrN = l := ⟨_, rfl⟩
      have hall2 : [uv n, uv (zz m), uv bs.length ++ bs, uv ns.length ++ ns.flatMap wrN].flatten = all := by rw [← hall]; simp
      have hlen : all.length ≤ 2000 := by rw [← hall]; simp only [List.length_append]; omega
      rw [hall] at hM6
      have HALL := Lib.hid hall2; clear hall hall2
      go_wp2_with fail
      refine (out_done w6 p p _ _ (by omega) hM6).mono ?_; rintro e w7 ⟨A7, c7, rfl, hR7, hb7⟩
      obtain ⟨hc7, _, hC7⟩ := C_own hR7
      have hB7 := hB6.trans (hb7.mono hB6.size)
      clear hM6 hR7 hb7 hB6
      go_wp2_with fail
      obtain ⟨l8, hl8⟩ : ∃ l, uv n = l := ⟨_, rfl⟩
      obtain ⟨l9, hl9⟩ : ∃ l, uv (zz m) = l := ⟨_, rfl⟩
      obtain ⟨l10, hl10⟩ : ∃ l, uv bs.length ++ bs = l := ⟨_, rfl⟩
      obtain ⟨l11, hl11⟩ : ∃ l, uv ns.length ++ ns.flatMap wrN = l := ⟨_, rfl⟩
      have hru := ref_uint w7 n HN.out
      rw [hl8] at hru
      refine hru.mono ?_; rintro e w8 ⟨A8, c8, rfl, hc8, hC8, hb8⟩
      have hC7 := Kd.C_below hC7 hb8
      have hB8 := hB7.trans (hb8.mono hB7.size)
      clear hB7 hb8
      go_wp2_with fail
      have hri := ref_int w8 m hm
      rw [hl9] at hri
      clear hru
      refine hri.mono ?_; rintro e w9 ⟨A9, c9, rfl, hc9, hC9, hb9⟩
      have hC7 := Kd.C_below hC7 hb9
      have hC8 := Kd.C_below hC8 hb9
      have hB9 := hB8.trans (hb9.mono hB8.size)
      clear hB8 hb9
      go_wp2_with fail
      have hrb := ref_bytes w9 Ab cb bs (by omega) hlb (Kd.C_below hCb hB9)
      rw [hl10] at hrb
      clear hri
      refine hrb.mono ?_; rintro e w10 ⟨A10, c10, rfl, hc10, hC10, hb10⟩
      have hC7 := Kd.C_below hC7 hb10
      have hC8 := Kd.C_below hC8 hb10
      have hC9 := Kd.C_below hC9 hb10
      have hB10 := hB9.trans (hb10.mono hB9.size)
      clear hB9 hb10
      go_wp2_with fail
      have hrn := ref_nums w10 An cn ns hgn' (by omega) hln (Kd.C_below hCn hB10)
      rw [hl11] at hrn
      clear hrb
      refine hrn.mono ?_; rintro e w11 ⟨A11, c11, rfl, hc11, hC11, hb11⟩
      have hC7 := Kd.C_below hC7 hb11
      have hC8 := Kd.C_below hC8 hb11
      have hC9 := Kd.C_below hC9 hb11
      have hC10 := Kd.C_below hC10 hb11
      have hB11 := hB10.trans (hb11.mono hB10.size)
      clear hB10 hb11
      have hfla : [l8, l9, l10, l11].flatten = all := by rw [← hl8, ← hl9, ← hl10, ← hl11]; exact HALL.out
      have HFL := Lib.hid hfla; clear hfla
      clear hl8 hl9 hl10 hl11 hrn HALL
      go_wp2_with fail
      have hb12 : Below w11.heap.size w11 (w11.alloc (.cells #[.slice A8 l8.length c8, .slice A9 l9.length c9, .slice A10 l10.length c10, .slice A11 l11.length c11] 67)) := (Below.refl _ w11).alloc (Nat.le_refl _) _
      have hrow : (Kd.slice 5 (Kd.int .u8)).C (w11.alloc (.cells #[.slice A8 l8.length c8, .slice A9 l9.length c9, .slice A10 l10.length c10, .slice A11 l11.length c11] 67)) (some ⟨w11.heap.size, 0, none⟩) [l8, l9, l10, l11].length [l8, l9, l10, l11] :=
        C_rows (vs := [.slice A8 l8.length c8, .slice A9 l9.length c9, .slice A10 l10.length c10, .slice A11 l11.length c11]) (World.alloc_heap_new w11 _) (by simp) (fun j l hj => by
          rcases j with _ | _ | _ | _ | j
          · simp at hj; subst hj; exact ⟨_, _, rfl, hc8, Kd.C_below hC8 hb12⟩
          · simp at hj; subst hj; exact ⟨_, _, rfl, hc9, Kd.C_below hC9 hb12⟩
          · simp at hj; subst hj; exact ⟨_, _, rfl, hc10, Kd.C_below hC10 hb12⟩
          · simp at hj; subst hj; exact ⟨_, _, rfl, hc11, Kd.C_below hC11 hb12⟩
          · simp at hj)
      have hj := ref_join _ _ 4 [l8, l9, l10, l11] (by simp) (by rw [HFL.out]; omega) (by simp) hrow
      rw [HFL.out] at hj
      have hC12 := Kd.C_below hC7 hb12
      have hB12 := hB11.trans (hb12.mono hB11.size)
      clear hC7 hC8 hC9 hC10 hC11 hrow hB11
      refine hj.mono ?_; rintro e w13 ⟨A13, c13, rfl, hc13, hC13, hb13⟩
      have hC14 := Kd.C_below hC12 hb13
      have hB13 := hB12.trans (hb13.mono hB12.size)
      clear hj hC12 hB12 hb13 hb12
      go_wp2_with fail
      refine (ref_same w13 A7 A13 c7 c13 all (by omega) hc7 hc13 hC14 hC13).mono ?_; rintro e w14 ⟨rfl, hb14⟩
      go_wp2_with fail
      go_ret
      exact ⟨rfl, hB13.trans (hb14.mono hB13.size)⟩
    · have hl1' : (bs.length : Int) ≤ 500 := by omega
      have hl2' : (50 : Int) < (ns.length : Int) := by omega
      go_wp2_with fail
      go_ret
      exact ⟨rfl, hB1⟩
  · have hl1' : (500 : Int) < (bs.length : Int) := by omega
    go_wp2_with fail
    go_ret
    exact ⟨rfl, hB1⟩

end Go.Proofs.Ytbhpokcnkdgcmaa.Cod
