/- layer 5: what is written. -/
import Derived.Test.YtbhpokcnkdgcmaaCodL
import Derived.Test.YtbhpokcnkdgcmaaKd
import Derived.Test.YtbhpokcnkdgcmaaBits
import Derived.Deep.AppendLies
import Derived.OwnWalk
import Derived.Laws.Pointers
import Derived.WalkSpells
set_option linter.unusedSimpArgs false
set_option linter.unusedVariables false
namespace Go.Proofs.Ytbhpokcnkdgcmaa.Cod
open Go.RowKit Go.Shelf Go.Proofs.YtbhpokcnkdgcmaaW.PrintWords Go.Proofs.Ytbhpokcnkdgcmaa.CodL
attribute [local go_sem] Oper.semAt_some

theorem infoB : (Try.prog.info? 5).map (fun i => (i.zero, i.size, i.bytes)) = some (some (.int .u8 0), 1, 1) := by kernel_rfl

theorem or128 (m : Nat) : bits .or .u8 ((m : Int) % 256) 128 = ((128 + m % 128 : Nat) : Int) := by
  have h : ∀ x : Fin 256, bits .or .u8 ((x.val : Nat) : Int) 128 = ((128 + x.val % 128 : Nat) : Int) := by decide +kernel
  have := h ⟨m % 256, by omega⟩
  rw [show ((m % 256 : Nat) : Int) = (m : Int) % 256 from by omega] at this
  rw [this]
  congr 1
  show 128 + m % 256 % 128 = _
  omega

/-- what is written so far: the object at p, the row of its bytes -/
def OM (W : World) (base p : Nat) (v : Value) (bs : List Int) : Prop := base ≤ p ∧ Blk W p 69 [v] ∧ W.ownsRow base 5 1 v bs.length (nums .u8 bs)
theorem OM.store {W : World} {base p n : Nat} {v u : Value} {cs : List Int} (hbp : base ≤ p) (hP : Blk W p 69 [v]) (ho : W.ownsRow base 5 1 u n (nums .u8 cs)) : OM (W.setCell ⟨p, 0, none⟩ u) base p u cs := by
  obtain rfl : n = cs.length := by have := ho.1; rw [nums_length] at this; omega
  exact ⟨hbp, hP.set 0 _, own_setCell ho (own_apart hP ho (by decide)) 0 _⟩
theorem OM.lt {W : World} {base p : Nat} {v : Value} {bs : List Int} (h : OM W base p v bs) : base ≤ p ∧ p < W.heap.size := ⟨h.1, h.2.1.lt⟩
theorem OM.ge {W : World} {base p : Nat} {v : Value} {bs : List Int} (h : OM W base p v bs) : ∀ k, v.ownBlock = some k → base ≤ k := fun k e => (own_typ h.2.2 k e).1
theorem OM.below {W W' : World} {base p : Nat} {v : Value} {bs : List Int} (h : OM W base p v bs) (hb : Below W.heap.size W W') : OM W' base p v bs := ⟨h.1, h.2.1.belowS hb, pw_own_below h.2.2 hb⟩
theorem OM.fr {W W' : World} {base p : Nat} {v v' : Value} {bs : List Int} (h : OM W base p v bs) (hr : RFr p v v' W W') : Fr base p 5 W W' := hr.fr h.1 h.2.2 (by have := h.lt; omega)
theorem OM.belowB {W W' : World} {base p : Nat} {v v' : Value} {bs : List Int} (h : OM W base p v bs) (hr : RFr p v v' W W') : Below base W W' := (h.fr hr).below
/-- another object has been written -/
theorem OM.other {W W' : World} {base p q : Nat} {v u u' : Value} {bs : List Int} (h : OM W base p v bs) (hr : RFr q u u' W W') (hne : p ≠ q) (hu : ∃ b cs, OM W b q u cs) (hd : v.ownBlock = none ∨ v.ownBlock ≠ u.ownBlock) : OM W' base p v bs := by
  obtain ⟨b, cs, hu⟩ := hu
  exact ⟨h.1, hr.blk h.2.1 hne (own_apart h.2.1 hu.2.2 (by decide)), hr.row h.2.2 (own_apart hu.2.1 h.2.2 (by decide)) hd⟩

set_option maxRecDepth 100000 in
set_option maxHeartbeats 4000000 in
theorem out_uint (W : World) (base p : Nat) (v0 : Value) (bs : List Int) (n : Nat) (hn : n < 18446744073709551616) (hsm : bs.length ≤ 1099511627776) (hM : OM W base p v0 bs) :
    Calls Try.prog 50 #[.pointer (some ⟨p, 0, none⟩), .int .u64 (n : Int)] W fun e w' => e = .returned (.tuple #[]) ∧ ∃ v', OM w' base p v' (bs ++ uv n) ∧ RFr p v0 v' W w' := by
  have hul := uv_len10 hn
  have HN := Lib.hid hn; clear hn
  obtain ⟨i0, hi0, hz0, hz1, hz2⟩ := info_parts infoB
  go_enter Try.func50, Try.ntmps50
  go_wp2_with fail
  go_loopw [1] (fun q wr => ∃ (m : Nat) (cs : List Int) (v : Value), q = .int .u64 (m : Int) ∧ m ≤ n ∧ cs ++ uv m = uv n ∧ OM wr base p v (bs ++ cs) ∧ RFr p v0 v W wr) (fun q _ => (intOf q).toNat)
  case atStart => exact ⟨n, [], v0, rfl, Nat.le_refl _, rfl, by simpa using hM, RFr.refl _ _ _⟩
  case round =>
    obtain ⟨m, cs, v, rfl, hmn, hcs, ⟨hbp, hP, hR⟩, hF1⟩ := hrel
    have c0 := hP.cell (i := 0) rfl
    have f0 := hP.frozen 0
    have hap := own_apart hP hR (by decide)
    have hlc : (bs ++ cs).length ≤ 1099511627776 + 10 := by have := congrArg List.length hcs; simp at this ⊢; omega
    by_cases hm : m < 128
    · have hm2 : (m : Int) < 128 := by omega
      go_wp2_with (at_builtin; refine wpList_append_own_at _ rfl _ _ 67 rfl base 5 i0 _ 1 1 Try.underlying67 hi0 hz0 hz1 hz2 rfl (by decide) _ _ _ rfl (hR.alloc _) ⟨wr.heap.size, 0, none⟩ 1 1 [.int .u8 (m : Int)] rfl rfl (news_blk (Blk.new wr [.int .u8 (m : Int)] 5)) (by simp [Value.oneCell']) (by unfold maxLen; omega) (by omega) (by have := hP.lt; simp; omega) ?_; intro v1 w1 hown1 hg1 _ hat1; obtain ⟨g1, cap1, rfl⟩ := ownsRow_succ hown1; have hP1 := (hP.alloc _).kept hg1 (Ne.symm hap); have c1 := hP1.cell (i := 0) rfl; have f1 := hP1.frozen 0)
      go_end0
      have hF2 := hF1.trans ((RFr.alloc p v wr (.cells #[.int .u8 (m : Int)] 5)).trans (RFr.grown p hg1 hat1))
      have e : bs ++ uv n = bs ++ cs ++ [(m : Int)] := by rw [← hcs, uv_small hm, List.append_assoc]
      rw [e]
      have hM2 := OM.store (cs := bs ++ cs ++ [(m : Int)]) hbp hP1 (by rw [nums_append]; exact hown1)
      have hF3 := hF2.setP 0 (.slice (some ⟨g1, 0, none⟩) ((bs ++ cs).length + 1) cap1)
      rw [List.length_append] at hM2 hF3
      exact ⟨rfl, _, hM2, hF3⟩
    · have hm2 : (128 : Int) ≤ m := by omega
      have hor := or128 m
      have HO := Lib.hid hor; clear hor
      go_wp2_with (at_builtin; refine wpList_append_own_at _ rfl _ _ 67 rfl base 5 i0 _ 1 1 Try.underlying67 hi0 hz0 hz1 hz2 rfl (by decide) _ _ _ rfl (hR.alloc _) ⟨wr.heap.size, 0, none⟩ 1 1 [.int .u8 (bits .or .u8 ((m : Int) % 256) 128)] rfl rfl (news_blk (Blk.new wr [.int .u8 (bits .or .u8 ((m : Int) % 256) 128)] 5)) (by simp [Value.oneCell']) (by unfold maxLen; omega) (by omega) (by have := hP.lt; simp; omega) ?_; intro v1 w1 hown1 hg1 _ hat1; obtain ⟨g1, cap1, rfl⟩ := ownsRow_succ hown1; have hP1 := (hP.alloc _).kept hg1 (Ne.symm hap); have c1 := hP1.cell (i := 0) rfl; have f1 := hP1.frozen 0)
      have hF2 := hF1.trans ((RFr.alloc p v wr (.cells #[.int .u8 (bits .or .u8 ((m : Int) % 256) 128)] 5)).trans (RFr.grown p hg1 hat1))
      have hM2 := OM.store (cs := bs ++ cs ++ [((128 + m % 128 : Nat) : Int)]) hbp hP1 (by rw [nums_append, ← HO.out]; exact hown1)
      have hF3 := hF2.setP 0 (.slice (some ⟨g1, 0, none⟩) ((bs ++ cs).length + 1) cap1)
      rw [List.length_append, List.append_assoc] at hM2
      rw [List.length_append] at hF3
      exact ⟨⟨m / 128, cs ++ [((128 + m % 128 : Nat) : Int)], _, by congr 1, by omega, by rw [List.append_assoc, List.singleton_append, ← uv_great hm]; exact hcs, hM2, hF3⟩, by simp [intOf]; omega⟩

/-- 2n, or -2n - 1, by signs -/
theorem zz_bits {m : Int} (h : -9223372036854775808 ≤ m ∧ m ≤ 9223372036854775807) : bits .xor .u64 (IntKind.u64.wrap (IntKind.u64.wrap m * 2)) (IntKind.u64.wrap (m / 9223372036854775808)) = (zz m : Int) := by
  unfold zz
  rw [IntKind.wrap_u64, IntKind.wrap_u64, IntKind.wrap_u64]
  by_cases h0 : 0 ≤ m
  · have e1 : m / 9223372036854775808 % 18446744073709551616 = 0 := by omega
    have e2 : m % 18446744073709551616 * 2 % 18446744073709551616 = 2 * m := by omega
    rw [e1, e2, if_pos h0, u64_xor0 (by omega) (by omega)]
    omega
  · have e1 : m / 9223372036854775808 % 18446744073709551616 = 18446744073709551615 := by omega
    have e2 : m % 18446744073709551616 * 2 % 18446744073709551616 = 18446744073709551616 + 2 * m := by omega
    rw [e1, e2, if_neg h0, u64_xorF (by omega) (by omega)]
    omega
set_option maxRecDepth 100000 in
set_option maxHeartbeats 4000000 in
theorem out_int (W : World) (base p : Nat) (v0 : Value) (bs : List Int) (m : Int) (hm : -9223372036854775808 ≤ m ∧ m ≤ 9223372036854775807) (hsm : bs.length ≤ 1099511627776) (hM : OM W base p v0 bs) :
    Calls Try.prog 51 #[.pointer (some ⟨p, 0, none⟩), .int .i64 m] W fun e w' => e = .returned (.tuple #[]) ∧ ∃ v', OM w' base p v' (bs ++ uv (zz m)) ∧ RFr p v0 v' W w' := by
  go_enter Try.func51, Try.ntmps51
  go_wp2_with fail
  rw [zz_bits hm]
  refine (out_uint W base p v0 bs (zz m) (zz_lt hm) hsm hM).mono ?_; rintro e w1 ⟨rfl, v1, hM1, hF1⟩
  go_wp2_with fail
  go_end0
  exact ⟨rfl, v1, hM1, hF1⟩

theorem OM.slice {W : World} {base p : Nat} {v : Value} {bs : List Int} (h : OM W base p v bs) : ∃ A c, v = .slice A bs.length c ∧ Blk W p 69 [.slice A bs.length c] ∧ W.ownsRow base 5 1 (.slice A bs.length c) bs.length (nums .u8 bs) ∧ bs.length ≤ c ∧ (Kd.int .u8).C W A bs.length bs ∧ (A = none → c = 0) := by
  obtain ⟨h1, h2, h3⟩ := h
  obtain ⟨A, c, rfl⟩ := own_slice h3
  obtain ⟨h4, _, h5⟩ := C_own h3
  refine ⟨A, c, rfl, h2, h3, h4, h5, fun e => ?_⟩
  subst e
  rcases h3.2 with ⟨h, _⟩ | ⟨g, cap, cur, h, _⟩
  · injection h
  · cases h
theorem C_keep {p : Nat} {v v1 : Value} {W W1 : World} {A : Option Addr} {xs : List Int} (hF : RFr p v v1 W W1) (h : (Kd.int .u8).C W A xs.length xs) (hA : 0 < xs.length → ∀ ad, A = some ad → ad.block ≠ p ∧ some ad.block ≠ v.ownBlock) : (Kd.int .u8).C W1 A xs.length xs := by
  by_cases hn : 0 < xs.length
  · obtain ⟨b, off, rfl, hlt, hc⟩ := C_row h hn
    obtain ⟨h1, h2⟩ := hA hn _ rfl
    refine C_mk h.2.1 (fun j x hx => ?_)
    have := hc j x hx
    unfold World.cell? at this ⊢
    rw [hF.keep b hlt h1 h2]
    exact this
  · exact ⟨rfl, h.2.1, fun h => absurd h hn⟩

set_option maxRecDepth 100000 in
set_option maxHeartbeats 4000000 in
/-- bytes, that lie beside what is written -/
theorem out_bytes (W : World) (base p : Nat) (v0 : Value) (bs xs : List Int) (A : Option Addr) (c : Nat) (hx : (Kd.int .u8).C W A xs.length xs) (hA : 0 < xs.length → ∀ ad, A = some ad → ad.block ≠ p ∧ some ad.block ≠ v0.ownBlock) (hA0 : A = none → c = 0) (hxs : xs.length ≤ 1099511627776) (hsm : bs.length ≤ 1099511627776) (hM : OM W base p v0 bs) :
    Calls Try.prog 52 #[.pointer (some ⟨p, 0, none⟩), .slice A xs.length c] W fun e w' => e = .returned (.tuple #[]) ∧ ∃ v', OM w' base p v' (bs ++ uv xs.length ++ xs) ∧ RFr p v0 v' W w' := by
  have hbs := hM.lt
  have hul := uv_len10 (n := xs.length) (by omega)
  go_enter Try.func52, Try.ntmps52
  go_wp2_with fail
  refine (out_uint W base p v0 bs xs.length (by omega) hsm hM).mono ?_; rintro e w1 ⟨rfl, v1, hM1, hF1⟩
  have hx1 := C_keep hF1 hx hA
  obtain ⟨A1, c1, rfl, hP, hR, hlc, _, _⟩ := hM1.slice
  have hap := own_apart hP hR (by decide)
  have k0 := hP.cell (i := 0) rfl
  have hbp := hM.1
  have hs1 := hF1.size
  have hll : (bs ++ uv xs.length).length ≤ 1099511627776 + 10 := by simp; omega
  obtain ⟨cs, hcs⟩ : ∃ cs, bs ++ uv xs.length = cs := ⟨_, rfl⟩
  rw [hcs] at hP hR hlc k0 hll hap hF1
  have HCS := Lib.hid hcs; clear hcs hM1
  go_wp2_with (at_builtin; refine wpList_append_nums rfl _ _ 67 rfl base 5 .u8 1 Try.underlying67 infoB (by decide) _ _ _ rfl hR A xs c rfl hx1 hA0 (by omega) (by omega) ?_; intro A2 c2 w2 hR2 hg2 hat2; have hP2 := hP.kept hg2 (Ne.symm hap); have k2 := hP2.cell (i := 0) rfl; have f2 := hP2.frozen 0)
  go_end0
  have hM2 := OM.store (cs := cs ++ xs) hbp hP2 (by rw [nums_append]; exact hR2)
  rw [HCS.out]
  exact ⟨rfl, _, hM2, (hF1.trans (RFr.grown p hg2 hat2)).setP 0 _⟩

set_option maxRecDepth 100000 in
set_option maxHeartbeats 4000000 in
theorem clone_any (W : World) (xs : List Int) (A : Option Addr) (c : Nat) (hx : (Kd.int .u8).C W A xs.length xs) (hA0 : A = none → c = 0) (hxs : xs.length ≤ 1099511627776) :
    Calls Try.prog 104 #[.slice A xs.length c] W fun e w' => ∃ A' c', e = .returned (.slice A' xs.length c') ∧ w'.ownsRow W.heap.size 5 1 (.slice A' xs.length c') xs.length (nums .u8 xs) ∧ Below W.heap.size W w' := by
  have hq := fun (W : World) (A : Option Addr) (n c : Nat) => Lib.run_eql_slice_nil (P := Try.prog) W 67 5 A n c 0 0 Try.underlying67
  go_enter Try.func104, Try.ntmps104
  cases A with
  | none =>
    go_wp2_with fail
    go_ret
    obtain rfl : xs = [] := by
      by_cases hn : 0 < xs.length
      · obtain ⟨ad, e', _⟩ := hx.2.2 hn; cases e'
      · exact List.eq_nil_of_length_eq_zero (by omega)
    exact ⟨none, 0, rfl, World.ownsRow_nil _ _ _ _, Below.refl _ _⟩
  | some ad =>
    have ho := World.ownsRow_lit (base := W.heap.size) (e := 5) (size := 1) W #[] 0 (by simp) (by decide) rfl
    have hx1 := Kd.C_alloc hx (.cells #[] 5)
    go_wp2_with (at_builtin; refine wpList_append_nums rfl _ _ 67 rfl W.heap.size 5 .u8 1 Try.underlying67 infoB (by decide) _ _ _ rfl ho (some ad) xs c rfl hx1 (by simp) (by omega) (by simp) ?_; intro A2 c2 w2 hR2 hg2 _)
    go_ret
    simp only [Nat.zero_add, Array.toList_empty, List.nil_append] at hR2 ⊢
    exact ⟨A2, c2, rfl, hR2, ((Below.refl _ W).alloc (Nat.le_refl _) _).grown hg2 (by simp) (fun k hk => (own_typ ho k hk).1)⟩

set_option maxRecDepth 100000 in
set_option maxHeartbeats 4000000 in
theorem out_done (W : World) (base p : Nat) (v0 : Value) (bs : List Int) (hsm : bs.length ≤ 1099511627776) (hM : OM W base p v0 bs) :
    Calls Try.prog 56 #[.pointer (some ⟨p, 0, none⟩)] W fun e w' => ∃ A c, e = .returned (.slice A bs.length c) ∧ w'.ownsRow W.heap.size 5 1 (.slice A bs.length c) bs.length (nums .u8 bs) ∧ Below W.heap.size W w' := by
  obtain ⟨A1, c1, rfl, hP, hR, hlc, hC, hA0⟩ := hM.slice
  have k0 := hP.cell (i := 0) rfl
  go_enter Try.func56, Try.ntmps56
  go_wp2_with fail
  refine (clone_any W bs A1 c1 hC hA0 hsm).mono ?_; rintro e w2 ⟨A2, c2, rfl, hR2, hb2⟩
  go_wp2_with fail
  go_ret
  exact ⟨A2, c2, rfl, hR2, hb2⟩

end Go.Proofs.Ytbhpokcnkdgcmaa.Cod
