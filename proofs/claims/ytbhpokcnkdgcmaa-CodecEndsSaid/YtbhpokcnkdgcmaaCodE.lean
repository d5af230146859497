/- CodecEnds. -/
import Derived.Test.YtbhpokcnkdgcmaaCodB
import Derived.Test.YtbhpokcnkdgcmaaCodP
set_option linter.unusedSimpArgs false
set_option linter.unusedVariables false
namespace Go.Proofs.Ytbhpokcnkdgcmaa.Cod
open Go.RowKit Go.Shelf Go.Proofs.YtbhpokcnkdgcmaaW.PrintWords Go.Proofs.Ytbhpokcnkdgcmaa.CodL
attribute [local go_sem] Oper.semAt_some

theorem i64_and_low (k : Nat) {m : Int} (hk : k ≤ 62) (hm : (BitVec.ofInt 64 m).toNat = 2 ^ k - 1) (n : Int) : bits .and .i64 n m = n % ((2 ^ k : Nat) : Int) := by
  have hp : 2 ^ k ≤ 2 ^ 62 := Nat.pow_le_pow_right (by omega) hk
  have hd : ((2 ^ k : Nat) : Int) ∣ ((2 ^ 64 : Nat) : Int) := Int.natCast_dvd_natCast.2 (Nat.pow_dvd_pow 2 (by omega))
  have hpos : 0 < 2 ^ k := Nat.pos_of_ne_zero (by simp)
  show IntKind.i64.wrap ((BitVec.ofInt 64 n &&& BitVec.ofInt 64 m).toNat : Nat) = _
  rw [BitVec.toNat_and, hm, Nat.and_two_pow_sub_one_eq_mod, BitVec.toNat_ofInt]
  have h0 : (((n % ((2 ^ 64 : Nat) : Int)).toNat % 2 ^ k : Nat) : Int) = n % ((2 ^ k : Nat) : Int) := by
    rw [Int.natCast_emod, Int.toNat_of_nonneg (Int.emod_nonneg _ (by decide)), Int.emod_emod_of_dvd _ hd]
  rw [h0, IntKind.wrap_i64]
  have h1 := Int.emod_nonneg n (b := ((2 ^ k : Nat) : Int)) (by omega)
  have h2 := Int.emod_lt_of_pos n (b := ((2 ^ k : Nat) : Int)) (by omega)
  generalize n % ((2 ^ k : Nat) : Int) = x at *
  generalize 2 ^ k = y at *
  omega
theorem and4095 (n : Int) : bits .and .i64 n 4095 = n % 4096 := i64_and_low 12 (by decide) (by decide) n

theorem takeB_sub {s : St} (most : Int) : ∃ k, (takeB s most).1.1 = s.1.drop k := by
  obtain ⟨k, hk⟩ := takeU_sub (s := s)
  unfold takeB
  dsimp only
  split
  · split
    · exact ⟨s.1.length, by simp [failS]⟩
    · split
      · exact ⟨s.1.length, by simp [failS]⟩
      · exact ⟨k + (takeU s).2, by dsimp only; rw [hk, List.drop_drop]⟩
  · exact ⟨k, hk⟩

set_option maxRecDepth 100000 in
set_option maxHeartbeats 4000000 in
theorem ends_walk (W : World)
    (bs : List Int) (Ab : Option Addr) (cb : Nat) (hlb : bs.length ≤ cb) (hAb : Ab = none → cb = 0) (hCb : (Kd.int .u8).C W Ab bs.length bs) (hmb : bs.length ≤ maxLen) (hgb : ∀ z ∈ bs, (Lit.int .u8 z).wf = true)
    (ns : List Int) (An : Option Addr) (cn : Nat) (hln : ns.length ≤ cn) (hAn : An = none → cn = 0) (hCn : (Kd.int .i64).C W An ns.length ns) (hmn : ns.length ≤ maxLen) (hgn : ∀ z ∈ ns, (Lit.int .i64 z).wf = true)
    (cut : Int) (_ : (Lit.int .i64 cut).wf = true) :
    Calls Try.prog 11 #[.slice Ab bs.length cb, .slice An ns.length cn, .int .i64 cut] W fun e w' => e = .returned (.bool true) ∧ Below W.heap.size W w' := by
  have hgb' : ∀ z ∈ bs, 0 ≤ z ∧ z < 256 := fun z hz => by have := bounds_u8 (hgb z hz); omega
  have hgn' : ∀ z ∈ ns, goodN z := fun z hz => bounds_i64 (hgn z hz)
  unfold maxLen at hmb hmn
  clear hgb hgn
  go_enter Try.func11, Try.ntmps11
  go_wp2_with fail
  refine (alive_any W).mono ?_; rintro e w1 ⟨rfl, hB1⟩
  by_cases hl1 : bs.length ≤ 200
  · by_cases hl2 : ns.length ≤ 50
    · have hl1' : (bs.length : Int) ≤ 200 := by omega
      have hl2' : (ns.length : Int) ≤ 50 := by omega
      go_wp2_with fail
      have hM1 : OM (w1.alloc (.cells #[.slice none 0 0] 69)) w1.heap.size w1.heap.size (.slice none 0 0) [] := ⟨Nat.le_refl _, Blk.new _ _ _, World.ownsRow_nil _ _ _ _⟩
      have hB1a : Below W.heap.size W (w1.alloc (.cells #[.slice none 0 0] 69)) := hB1.alloc hB1.size _
      have hz1 := hB1.size
      obtain ⟨p, hp⟩ : ∃ p, w1.heap.size = p := ⟨_, rfl⟩
      rw [hp] at hM1 hz1 ⊢
      clear hp hB1
      obtain ⟨w2, hw2⟩ : ∃ w2, w1.alloc (.cells #[.slice none 0 0] 69) = w2 := ⟨_, rfl⟩
      rw [hw2] at hM1 hB1a ⊢
      clear hw2
      have hulb := uv_len10 (n := bs.length) (by omega)
      have huln := uv_len10 (n := ns.length) (by omega)
      have hup := uv_pos bs.length
      have hfl := flat_len (wr := wrN) (m := 10) ns (fun z hz' => wrN_len (hgn' z hz'))
      refine (out_bytes w2 p p _ [] bs Ab cb (Kd.C_below hCb hB1a) (fun hn ad e => ?_) hAb (by omega) (by simp) hM1).mono ?_
      · subst e
        obtain ⟨b, off, e, hlt⟩ := C_spot hCb hn Nat.one_pos
        cases e
        exact ⟨by show b ≠ p; omega, by simp [Value.ownBlock]⟩
      rintro e w5 ⟨rfl, v5, hM5, hF5⟩
      have hB5 := hB1a.trans ((hM1.belowB hF5).mono hz1)
      clear hM1 hF5 hB1a
      rw [List.nil_append] at hM5
      go_wp2_with fail
      refine (values_any _ _ _ _).mono ?_; rintro e w3 ⟨rfl, hw3⟩
      have hg3 := gives_row (by omega) (Kd.C_below hCn hB5) hw3
      have hb3 : Below w5.heap.size w5 w3 := by rw [hw3]; exact (Below.refl _ w5).alloc (Nat.le_refl _) _
      have hM3 := hM5.below hb3
      have hB3 := hB5.trans (hb3.mono hB5.size)
      clear hM5 hw3 hb3 hB5
      go_wp2_with fail
      refine (put_any w3 p p _ _ _ #[] putN _ _ ns hg3 hgn' (by omega) (by simp only [List.length_append]; omega) hM3).mono ?_; rintro e w4 ⟨rfl, v4, hM4, hF4⟩
      have hB4 := hB3.trans ((hM3.belowB hF4).mono hz1)
      clear hM3 hF4 hg3 hB3
      obtain ⟨all, hall⟩ : ∃ l, uv bs.length ++ (bs ++ (uv ns.length ++ ns.flatMap (fun x => uv (zz x)))) = l := ⟨_, rfl⟩
      have hall1 : uv bs.length ++ bs ++ uv ns.length ++ ns.flatMap wrN = all := by rw [← hall]; simp; rfl
      have hlen : all.length ≤ 2000 := by rw [← hall1]; simp only [List.length_append]; omega
      have hlen0 : 0 < all.length := by rw [← hall1]; simp only [List.length_append]; omega
      have hbyte : ∀ x ∈ all, 0 ≤ x ∧ x < 256 := by
        intro x hx
        rw [← hall] at hx
        simp only [List.mem_append, List.mem_flatMap] at hx
        rcases hx with hx | hx | hx | ⟨y, _, hx⟩
        · exact uv_byte _ x hx
        · exact hgb' x hx
        · exact uv_byte _ x hx
        · exact uv_byte _ x hx
      rw [hall1] at hM4
      have hsh : ∀ m, m < all.length → (takeN takeI (takeB (all.take m, 0) 200).1 50).1 = ([], 21) := fun m hm => by
        rw [← hall] at hm ⊢
        exact ends_short hgn' hl1 hl2 hm
      clear hall hall1
      go_wp2_with fail
      refine (out_done w4 p p _ _ (by omega) hM4).mono ?_; rintro e w7 ⟨A7, c7, rfl, hR7, hb7⟩
      obtain ⟨hc7, _, hC7⟩ := C_own hR7
      have hA7 := C_cap hR7
      have hB7 := hB4.trans (hb7.mono hB4.size)
      clear hM4 hR7 hb7 hB4
      obtain ⟨m, hm⟩ : ∃ m : Nat, (cut % 4096) % (all.length : Int) = (m : Int) := ⟨((cut % 4096) % (all.length : Int)).toNat, by have := Int.emod_nonneg (cut % 4096) (b := (all.length : Int)) (by omega); omega⟩
      have hmlt : m < all.length := by have := Int.emod_lt_of_pos (cut % 4096) (b := (all.length : Int)) (by omega); omega
      have hc40 : 0 ≤ cut % 4096 := by omega
      have hc41 : cut % 4096 < 4096 := by omega
      have hand := and4095 cut
      have hlp : (0 : Int) < (all.length : Int) := by omega
      have hlp2 : (all.length : Int) ≤ 2000 := by omega
      go_wp2_with fail
      have hlt : (all.take m).length = m := by rw [List.length_take]; omega
      have hfr := from_any w7 (all.take m) A7 c7 (C_takeB hC7 (by omega)) hA7 (by omega)
      rw [hlt] at hfr
      have hb2 : ∀ x ∈ all.take m, 0 ≤ x ∧ x < 256 := fun x hx => hbyte x (List.mem_of_mem_take hx)
      have hsm := hsh m hmlt
      have hle : (all.take m).length ≤ 2000 := by omega
      clear hsh hm hmlt hc40 hc41 hand hlt hbyte hlp hlp2 hlen hlen0 hc7 hC7
      obtain ⟨bb, hbb⟩ : ∃ b, all.take m = b := ⟨_, rfl⟩
      rw [hbb] at hfr hb2 hsm hle
      clear hbb
      refine hfr.mono ?_; rintro e w8 ⟨q, hq, rfl, hI8, hb8⟩
      have hB8 := hB7.trans (hb8.mono hB7.size)
      have hq0 : W.heap.size ≤ q := Nat.le_trans hB7.size hq
      clear hfr hb8 hB7 hq
      obtain ⟨n₀, hn₀⟩ : ∃ n₀, w8.heap.size = n₀ := ⟨_, rfl⟩
      rw [hn₀] at hI8
      clear hn₀
      go_wp2_with fail
      refine (in_bytes w8 n₀ q (bb, 0) 200 hb2 (by show bb.length ≤ _; omega) hI8 (by omega)).mono ?_; rintro e w9 ⟨A9, c9, rfl, _, hI9, hg9⟩
      have hB9 := hB8.trans (grown_below hg9 hq0 hB8.size)
      have hsub : ∃ k, (takeB (bb, 0) 200).1.1 = bb.drop k := takeB_sub (s := (bb, 0)) 200
      obtain ⟨k, hk⟩ := hsub
      obtain ⟨s9, hs9⟩ : ∃ s, (takeB (bb, 0) 200).1 = s := ⟨_, rfl⟩
      rw [hs9] at hI9 hsm hk
      clear hs9 hI8 hg9 hB8
      go_wp2_with fail
      refine (take_any w9 n₀ q s9 takeI _ #[] takeN1 50 (fun x hx => hb2 x (by rw [hk] at hx; exact List.mem_of_mem_drop hx)) (by rw [hk, List.length_drop]; omega) hI9 (by omega)).mono ?_; rintro e w10 ⟨v10, rfl, _, hI10, hg10⟩
      rw [hsm] at hI10
      have hB10 := hB9.trans (grown_below hg10 hq0 hB9.size)
      clear hI9 hg10 hB9 hsm hk
      go_wp2_with fail
      refine (in_err w10 _ q _ hI10).mono ?_; rintro e w15 ⟨rfl, rfl⟩
      dsimp only
      go_wp2_with fail
      refine (in_left w10 _ q _ hI10).mono ?_; rintro e w15 ⟨rfl, rfl⟩
      dsimp only [List.length_nil]
      go_wp2_with fail
      refine (in_uint w10 n₀ q ([], 21) (by simp) (by simp) hI10).mono ?_; rintro e w14 ⟨rfl, hI14, hg14⟩
      have hz : (takeU ([], 21)).2 = 0 := by decide
      rw [hz]
      have hB14 := hB10.trans (grown_below hg14 hq0 hB10.size)
      clear hI10 hI14 hg14 hB10
      go_wp2_with fail
      go_ret
      exact ⟨rfl, hB14⟩
    · have hl1' : (bs.length : Int) ≤ 200 := by omega
      have hl2' : (50 : Int) < (ns.length : Int) := by omega
      go_wp2_with fail
      go_ret
      exact ⟨rfl, hB1⟩
  · have hl1' : (200 : Int) < (bs.length : Int) := by omega
    go_wp2_with fail
    go_ret
    exact ⟨rfl, hB1⟩

end Go.Proofs.Ytbhpokcnkdgcmaa.Cod
