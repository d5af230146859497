/- Dcd4, laid together. -/
import Derived.Test.YtnlhgnioedalpaaGr03
import Derived.Test.YtnlhgnioedalpaaGr02
import Derived.Deep.AppendLies
import Derived.OwnWalk
import Derived.Laws.Pointers
import Derived.WalkSpells
import Derived.Test.YtnlhgnioedalpaaPDeltaBooksx3

/- layer 5: what is written. -/
set_option linter.unusedSimpArgs false
set_option linter.unusedVariables false
namespace Go.Proofs.Ytnlhgnioedalpaa.Cod
open Go.RowKit Go.Shelf Go.Proofs.YtnlhgnioedalpaaW.PrintWords Go.Proofs.Ytnlhgnioedalpaa.CodL
attribute [local go_sem] Oper.semAt_some

theorem infoB : (Try.prog.info? 5).map (fun i => (i.zero, i.size, i.bytes)) = some (some (.int .u8 0), 1, 1) := by kernel_rfl

theorem or128 (m : Nat) : bits .or .u8 ((m : Int) % 256) 128 = ((128 + m % 128 : Nat) : Int) := by
  have h : ∀ x : Fin 256, bits .or .u8 ((x.val : Nat) : Int) 128 = ((128 + x.val % 128 : Nat) : Int) := by decide +kernel
  have := h ⟨m % 256, by omega⟩
  rw [show ((m % 256 : Nat) : Int) = (m : Int) % 256 from by omega] at this
  rw [this]
  congr 1
  show 128 + m % 256 % 128 = _
  omega

/-- what is written so far: the object at p, the row of its bytes -/
def OM (W : World) (base p : Nat) (v : Value) (bs : List Int) : Prop := base ≤ p ∧ Blk W p 136 [v] ∧ W.ownsRow base 5 1 v bs.length (nums .u8 bs)
theorem OM.store {W : World} {base p n : Nat} {v u : Value} {cs : List Int} (hbp : base ≤ p) (hP : Blk W p 136 [v]) (ho : W.ownsRow base 5 1 u n (nums .u8 cs)) : OM (W.setCell ⟨p, 0, none⟩ u) base p u cs := by
  obtain rfl : n = cs.length := by have := ho.1; rw [nums_length] at this; omega
  exact ⟨hbp, hP.set 0 _, own_setCell ho (own_apart hP ho (by decide)) 0 _⟩
theorem OM.lt {W : World} {base p : Nat} {v : Value} {bs : List Int} (h : OM W base p v bs) : base ≤ p ∧ p < W.heap.size := ⟨h.1, h.2.1.lt⟩
theorem OM.ge {W : World} {base p : Nat} {v : Value} {bs : List Int} (h : OM W base p v bs) : ∀ k, v.ownBlock = some k → base ≤ k := fun k e => (own_typ h.2.2 k e).1
theorem OM.below {W W' : World} {base p : Nat} {v : Value} {bs : List Int} (h : OM W base p v bs) (hb : Below W.heap.size W W') : OM W' base p v bs := ⟨h.1, h.2.1.belowS hb, pw_own_below h.2.2 hb⟩
theorem OM.fr {W W' : World} {base p : Nat} {v v' : Value} {bs : List Int} (h : OM W base p v bs) (hr : RFr p v v' W W') : Fr base p 5 W W' := hr.fr h.1 h.2.2 (by have := h.lt; omega)
theorem OM.belowB {W W' : World} {base p : Nat} {v v' : Value} {bs : List Int} (h : OM W base p v bs) (hr : RFr p v v' W W') : Below base W W' := (h.fr hr).below
/-- another object has been written -/
theorem OM.other {W W' : World} {base p q : Nat} {v u u' : Value} {bs : List Int} (h : OM W base p v bs) (hr : RFr q u u' W W') (hne : p ≠ q) (hu : ∃ b cs, OM W b q u cs) (hd : v.ownBlock = none ∨ v.ownBlock ≠ u.ownBlock) : OM W' base p v bs := by
  obtain ⟨b, cs, hu⟩ := hu
  exact ⟨h.1, hr.blk h.2.1 hne (own_apart h.2.1 hu.2.2 (by decide)), hr.row h.2.2 (own_apart hu.2.1 h.2.2 (by decide)) hd⟩

set_option maxRecDepth 100000 in
set_option maxHeartbeats 4000000 in
theorem out_uint (W : World) (base p : Nat) (v0 : Value) (bs : List Int) (n : Nat) (hn : n < 18446744073709551616) (hsm : bs.length ≤ 1099511627776) (hM : OM W base p v0 bs) :
    Calls Try.prog 114 #[.pointer (some ⟨p, 0, none⟩), .int .u64 (n : Int)] W fun e w' => e = .returned (.tuple #[]) ∧ ∃ v', OM w' base p v' (bs ++ uv n) ∧ RFr p v0 v' W w' := by
  have hul := uv_len10 hn
  have HN := Lib.hid hn; clear hn
  obtain ⟨i0, hi0, hz0, hz1, hz2⟩ := info_parts infoB
  go_enter Try.func114, Try.ntmps114
  go_wp2_with fail
  go_loopw [1] (fun q wr => ∃ (m : Nat) (cs : List Int) (v : Value), q = .int .u64 (m : Int) ∧ m ≤ n ∧ cs ++ uv m = uv n ∧ OM wr base p v (bs ++ cs) ∧ RFr p v0 v W wr) (fun q _ => (intOf q).toNat)
  case atStart => exact ⟨n, [], v0, rfl, Nat.le_refl _, rfl, by simpa using hM, RFr.refl _ _ _⟩
  case round =>
    obtain ⟨m, cs, v, rfl, hmn, hcs, ⟨hbp, hP, hR⟩, hF1⟩ := hrel
    have c0 := hP.cell (i := 0) rfl
    have f0 := hP.frozen 0
    have hap := own_apart hP hR (by decide)
    have hlc : (bs ++ cs).length ≤ 1099511627776 + 10 := by have := congrArg List.length hcs; simp at this ⊢; omega
    by_cases hm : m < 128
    · have hm2 : (m : Int) < 128 := by omega
      go_wp2_with (at_builtin; refine wpList_append_own_at _ rfl _ _ 88 rfl base 5 i0 _ 1 1 Try.underlying88 hi0 hz0 hz1 hz2 rfl (by decide) _ _ _ rfl (hR.alloc _) ⟨wr.heap.size, 0, none⟩ 1 1 [.int .u8 (m : Int)] rfl rfl (news_blk (Blk.new wr [.int .u8 (m : Int)] 5)) (by simp [Value.oneCell']) (by unfold maxLen; omega) (by omega) (by have := hP.lt; simp; omega) ?_; intro v1 w1 hown1 hg1 _ hat1; obtain ⟨g1, cap1, rfl⟩ := ownsRow_succ hown1; have hP1 := (hP.alloc _).kept hg1 (Ne.symm hap); have c1 := hP1.cell (i := 0) rfl; have f1 := hP1.frozen 0)
      go_end0
      have hF2 := hF1.trans ((RFr.alloc p v wr (.cells #[.int .u8 (m : Int)] 5)).trans (RFr.grown p hg1 hat1))
      have e : bs ++ uv n = bs ++ cs ++ [(m : Int)] := by rw [← hcs, uv_small hm, List.append_assoc]
      rw [e]
      have hM2 := OM.store (cs := bs ++ cs ++ [(m : Int)]) hbp hP1 (by rw [nums_append]; exact hown1)
      have hF3 := hF2.setP 0 (.slice (some ⟨g1, 0, none⟩) ((bs ++ cs).length + 1) cap1)
      rw [List.length_append] at hM2 hF3
      exact ⟨rfl, _, hM2, hF3⟩
    · have hm2 : (128 : Int) ≤ m := by omega
      have hor := or128 m
      have HO := Lib.hid hor; clear hor
      go_wp2_with (at_builtin; refine wpList_append_own_at _ rfl _ _ 88 rfl base 5 i0 _ 1 1 Try.underlying88 hi0 hz0 hz1 hz2 rfl (by decide) _ _ _ rfl (hR.alloc _) ⟨wr.heap.size, 0, none⟩ 1 1 [.int .u8 (bits .or .u8 ((m : Int) % 256) 128)] rfl rfl (news_blk (Blk.new wr [.int .u8 (bits .or .u8 ((m : Int) % 256) 128)] 5)) (by simp [Value.oneCell']) (by unfold maxLen; omega) (by omega) (by have := hP.lt; simp; omega) ?_; intro v1 w1 hown1 hg1 _ hat1; obtain ⟨g1, cap1, rfl⟩ := ownsRow_succ hown1; have hP1 := (hP.alloc _).kept hg1 (Ne.symm hap); have c1 := hP1.cell (i := 0) rfl; have f1 := hP1.frozen 0)
      have hF2 := hF1.trans ((RFr.alloc p v wr (.cells #[.int .u8 (bits .or .u8 ((m : Int) % 256) 128)] 5)).trans (RFr.grown p hg1 hat1))
      have hM2 := OM.store (cs := bs ++ cs ++ [((128 + m % 128 : Nat) : Int)]) hbp hP1 (by rw [nums_append, ← HO.out]; exact hown1)
      have hF3 := hF2.setP 0 (.slice (some ⟨g1, 0, none⟩) ((bs ++ cs).length + 1) cap1)
      rw [List.length_append, List.append_assoc] at hM2
      rw [List.length_append] at hF3
      exact ⟨⟨m / 128, cs ++ [((128 + m % 128 : Nat) : Int)], _, by congr 1, by omega, by rw [List.append_assoc, List.singleton_append, ← uv_great hm]; exact hcs, hM2, hF3⟩, by simp [intOf]; omega⟩

/-- 2n, or -2n - 1, by signs -/
theorem zz_bits {m : Int} (h : -9223372036854775808 ≤ m ∧ m ≤ 9223372036854775807) : bits .xor .u64 (IntKind.u64.wrap (IntKind.u64.wrap m * 2)) (IntKind.u64.wrap (m / 9223372036854775808)) = (zz m : Int) := by
  unfold zz
  rw [IntKind.wrap_u64, IntKind.wrap_u64, IntKind.wrap_u64]
  by_cases h0 : 0 ≤ m
  · have e1 : m / 9223372036854775808 % 18446744073709551616 = 0 := by omega
    have e2 : m % 18446744073709551616 * 2 % 18446744073709551616 = 2 * m := by omega
    rw [e1, e2, if_pos h0, u64_xor0 (by omega) (by omega)]
    omega
  · have e1 : m / 9223372036854775808 % 18446744073709551616 = 18446744073709551615 := by omega
    have e2 : m % 18446744073709551616 * 2 % 18446744073709551616 = 18446744073709551616 + 2 * m := by omega
    rw [e1, e2, if_neg h0, u64_xorF (by omega) (by omega)]
    omega
set_option maxRecDepth 100000 in
set_option maxHeartbeats 4000000 in
theorem out_int (W : World) (base p : Nat) (v0 : Value) (bs : List Int) (m : Int) (hm : -9223372036854775808 ≤ m ∧ m ≤ 9223372036854775807) (hsm : bs.length ≤ 1099511627776) (hM : OM W base p v0 bs) :
    Calls Try.prog 116 #[.pointer (some ⟨p, 0, none⟩), .int .i64 m] W fun e w' => e = .returned (.tuple #[]) ∧ ∃ v', OM w' base p v' (bs ++ uv (zz m)) ∧ RFr p v0 v' W w' := by
  go_enter Try.func116, Try.ntmps116
  go_wp2_with fail
  rw [zz_bits hm]
  refine (out_uint W base p v0 bs (zz m) (zz_lt hm) hsm hM).mono ?_; rintro e w1 ⟨rfl, v1, hM1, hF1⟩
  go_wp2_with fail
  go_end0
  exact ⟨rfl, v1, hM1, hF1⟩

theorem OM.slice {W : World} {base p : Nat} {v : Value} {bs : List Int} (h : OM W base p v bs) : ∃ A c, v = .slice A bs.length c ∧ Blk W p 136 [.slice A bs.length c] ∧ W.ownsRow base 5 1 (.slice A bs.length c) bs.length (nums .u8 bs) ∧ bs.length ≤ c ∧ (Kd.int .u8).C W A bs.length bs ∧ (A = none → c = 0) := by
  obtain ⟨h1, h2, h3⟩ := h
  obtain ⟨A, c, rfl⟩ := own_slice h3
  obtain ⟨h4, _, h5⟩ := C_own h3
  refine ⟨A, c, rfl, h2, h3, h4, h5, fun e => ?_⟩
  subst e
  rcases h3.2 with ⟨h, _⟩ | ⟨g, cap, cur, h, _⟩
  · injection h
  · cases h
set_option maxRecDepth 100000 in
set_option maxHeartbeats 4000000 in
theorem clone_any (W : World) (xs : List Int) (A : Option Addr) (c : Nat) (hx : (Kd.int .u8).C W A xs.length xs) (hA0 : A = none → c = 0) (hxs : xs.length ≤ 1099511627776) :
    Calls Try.prog 117 #[.slice A xs.length c] W fun e w' => ∃ A' c', e = .returned (.slice A' xs.length c') ∧ w'.ownsRow W.heap.size 5 1 (.slice A' xs.length c') xs.length (nums .u8 xs) ∧ Below W.heap.size W w' := by
  have hq := fun (W : World) (A : Option Addr) (n c : Nat) => Lib.run_eql_slice_nil (P := Try.prog) W 88 5 A n c 0 0 Try.underlying88
  go_enter Try.func117, Try.ntmps117
  cases A with
  | none =>
    go_wp2_with fail
    go_ret
    obtain rfl : xs = [] := by
      by_cases hn : 0 < xs.length
      · obtain ⟨ad, e', _⟩ := hx.2.2 hn; cases e'
      · exact List.eq_nil_of_length_eq_zero (by omega)
    exact ⟨none, 0, rfl, World.ownsRow_nil _ _ _ _, Below.refl _ _⟩
  | some ad =>
    have ho := World.ownsRow_lit (base := W.heap.size) (e := 5) (size := 1) W #[] 0 (by simp) (by decide) rfl
    have hx1 := Kd.C_alloc hx (.cells #[] 5)
    go_wp2_with (at_builtin; refine wpList_append_nums rfl _ _ 88 rfl W.heap.size 5 .u8 1 Try.underlying88 infoB (by decide) _ _ _ rfl ho (some ad) xs c rfl hx1 (by simp) (by omega) (by simp) ?_; intro A2 c2 w2 hR2 hg2 _)
    go_ret
    simp only [Nat.zero_add, Array.toList_empty, List.nil_append] at hR2 ⊢
    exact ⟨A2, c2, rfl, hR2, ((Below.refl _ W).alloc (Nat.le_refl _) _).grown hg2 (by simp) (fun k hk => (own_typ ho k hk).1)⟩

set_option maxRecDepth 100000 in
set_option maxHeartbeats 4000000 in
theorem out_done (W : World) (base p : Nat) (v0 : Value) (bs : List Int) (hsm : bs.length ≤ 1099511627776) (hM : OM W base p v0 bs) :
    Calls Try.prog 91 #[.pointer (some ⟨p, 0, none⟩)] W fun e w' => ∃ A c, e = .returned (.slice A bs.length c) ∧ w'.ownsRow W.heap.size 5 1 (.slice A bs.length c) bs.length (nums .u8 bs) ∧ Below W.heap.size W w' := by
  obtain ⟨A1, c1, rfl, hP, hR, hlc, hC, hA0⟩ := hM.slice
  have k0 := hP.cell (i := 0) rfl
  go_enter Try.func91, Try.ntmps91
  go_wp2_with fail
  refine (clone_any W bs A1 c1 hC hA0 hsm).mono ?_; rintro e w2 ⟨A2, c2, rfl, hR2, hb2⟩
  go_wp2_with fail
  go_ret
  exact ⟨A2, c2, rfl, hR2, hb2⟩

end Go.Proofs.Ytnlhgnioedalpaa.Cod

/- layer 5: what is read: the memory; how long a whole number is. -/
set_option linter.unusedSimpArgs false
set_option linter.unusedVariables false
namespace Go.Proofs.Ytnlhgnioedalpaa.Cod
open Go.RowKit Go.Shelf Go.Proofs.YtnlhgnioedalpaaW.PrintWords Go.Proofs.Ytnlhgnioedalpaa.CodL Go.Proofs.Ytnlhgnioedalpaa.PDeltaBooks
attribute [local go_sem] Oper.semAt_some

theorem len_go (bs : List Int) (hl : bs.length ≤ 1099511627776) : ∀ (d i : Nat), i + d = bs.length → codec_length.l0 (2 * d + 2) bs (bs.length : Int) (i : Int) = some (((lenAux i (bs.drop i)).1 : Int), (lenAux i (bs.drop i)).2) := by
  intro d
  induction d with
  | zero =>
    intro i hi
    have e : bs.drop i = [] := List.drop_eq_nil_of_le (by omega)
    rw [e]
    simp only [Nat.mul_zero, Nat.zero_add, codec_length.l0]
    rw [if_neg (by omega)]
    rfl
  | succ d ih =>
    intro i hi
    have hlt : i < bs.length := by omega
    have e : bs.drop i = bs[i] :: bs.drop (i + 1) := (List.getElem_cons_drop ..).symm
    have hrd : rd bs (i : Int) = bs[i] := by simp [rd, hlt]
    rw [e, show 2 * (d + 1) + 2 = (2 * d + 2 + 1) + 1 from by omega]
    simp only [codec_length.l0]
    rw [if_pos (by omega), if_pos (by omega), if_pos (by omega), hrd]
    have hw : wrap64 ((i : Int) + 1) = ((i + 1 : Nat) : Int) := by unfold wrap64; omega
    generalize bs[i] = c
    have tail : ¬ (i = 10 ∨ (i = 9 ∧ 1 < c)) → codec_length.j1 (2 * d + 2 + 1) (i : Int) c bs (bs.length : Int) (i : Int) false = some (((lenAux i (c :: bs.drop (i + 1))).1 : Int), (lenAux i (c :: bs.drop (i + 1))).2) := fun hn => by
      simp only [codec_length.j1, lenAux]
      rw [if_neg hn, if_neg (by simp)]
      by_cases h1 : 128 ≤ c
      · rw [if_pos h1, if_pos h1, hw, ih (i + 1) (by omega)]
      · rw [if_neg h1, if_neg h1]
        by_cases h2 : c = 0
        · by_cases h3 : 0 < i
          · rw [if_pos h2, if_pos (by omega), if_pos ⟨h2, h3⟩]; rfl
          · rw [if_pos h2, if_neg (by omega), if_neg (by omega), hw]
        · rw [if_neg h2, if_neg (by omega), hw]
    by_cases h10 : i = 10
    · rw [if_pos (by omega)]
      simp only [codec_length.j1, lenAux]
      rw [if_pos trivial, if_pos (Or.inl h10 : i = 10 ∨ (i = 9 ∧ 1 < c))]
      rfl
    · rw [if_neg (by omega)]
      by_cases h9 : i = 9
      · rw [if_pos (by omega)]
        by_cases h1 : 1 < c
        · simp only [codec_length.j1, lenAux]
          rw [if_pos (show decide (c > 1) = true by simpa using h1), if_pos (Or.inr ⟨h9, h1⟩ : i = 10 ∨ (i = 9 ∧ 1 < c))]
          rfl
        · rw [show decide (c > 1) = false from by simpa using h1]
          exact tail (by omega)
      · rw [if_neg (by omega)]
        exact tail (by omega)
theorem length_any (W : World) (A : Option Addr) (c : Nat) (bs : List Int) (hl : bs.length ≤ 1099511627776) (hC : (Kd.int .u8).C W A bs.length bs) (hc : bs.length ≤ c) :
    Calls Try.prog 122 #[.slice A bs.length c] W fun e w' => e = .returned (.tuple #[.int .i64 ((lenAux 0 bs).1 : Int), .int .i64 (lenAux 0 bs).2]) ∧ ∃ m, w' = W.drewN m :=
  (codec_length.calls (2 * bs.length + 2) A c bs _ _ W hC hc (len_go bs hl bs.length 0 (by omega))).mono fun _ _ ⟨h1, h2⟩ => ⟨h1, h2.out⟩

/-- what is read: the object at p, its bytes; both lie below n₀ -/
def IM (W : World) (n₀ p : Nat) (s : St) : Prop := p < n₀ ∧ n₀ ≤ W.heap.size ∧ ∃ A c, Blk W p 168 [.slice A s.1.length c, .int .i64 s.2] ∧ s.1.length ≤ c ∧ (A = none → c = 0) ∧ (Kd.int .u8).C W A s.1.length s.1 ∧ (∀ ad, A = some ad → ad.block < n₀ ∧ ad.block ≠ p)
theorem IM.grown {W W' : World} {n₀ p : Nat} {s : St} {row : Option Nat} (h : IM W n₀ p s) (hg : W.grownBy W' row) (hr : ∀ r, row = some r → n₀ ≤ r) : IM W' n₀ p s := by
  obtain ⟨h1, h2, A, c, h3, h4, h5, h6, h7⟩ := h
  have hlt : ∀ b, b < n₀ → W'.heap[b]? = W.heap[b]? := fun b hb => hg.block b (by omega) (fun e => by have := hr b e.symm; omega)
  refine ⟨h1, Nat.le_trans h2 hg.size, A, c, (hlt p h1).trans h3, h4, h5, ⟨rfl, h6.2.1, fun hn => ?_⟩, h7⟩
  obtain ⟨ad, e, hc⟩ := h6.2.2 hn
  refine ⟨ad, e, fun j x hx => ?_⟩
  obtain ⟨cs, k1, k2, k3⟩ := hc j x hx
  refine ⟨cs, k1, k2, fun i u hu => ?_⟩
  have hb := (h7 ad e).1
  have hb' : (ad.add (j * (Kd.int .u8).sz + i)).block < n₀ := by unfold Addr.add; split <;> exact hb
  have := k3 i u hu
  unfold World.cell? at this ⊢
  rw [hlt _ hb']
  exact this
theorem IM.below {W W' : World} {n₀ p : Nat} {s : St} (h : IM W n₀ p s) (hb : Below n₀ W W') : IM W' n₀ p s := by
  obtain ⟨h1, h2, A, c, h3, h4, h5, h6, h7⟩ := h
  refine ⟨h1, Nat.le_trans h2 hb.size, A, c, (hb.block p h1).trans h3, h4, h5, ⟨rfl, h6.2.1, fun hn => ?_⟩, h7⟩
  obtain ⟨ad, e, hc⟩ := h6.2.2 hn
  refine ⟨ad, e, fun j x hx => ?_⟩
  obtain ⟨cs, k1, k2, k3⟩ := hc j x hx
  refine ⟨cs, k1, k2, fun i u hu => ?_⟩
  have hb1 := (h7 ad e).1
  have hb' : (ad.add (j * (Kd.int .u8).sz + i)).block < n₀ := by unfold Addr.add; split <;> exact hb1
  rw [hb.cell hb']
  exact k3 i u hu
theorem grown_trans {A B C : World} {r : Option Nat} (h : A.grownBy B r) (k : B.grownBy C r) : A.grownBy C r :=
  ⟨k.os.trans h.os, k.tape.trans h.tape, k.output.trans h.output, Nat.le_trans h.size k.size, fun b hb hne => (k.block b (Nat.lt_of_lt_of_le hb h.size) hne).trans (h.block b hb hne)⟩
theorem grown_drewN (W : World) (m : Nat) (r : Option Nat) : W.grownBy (W.drewN m) r := ⟨rfl, rfl, rfl, Nat.le_refl _, fun _ _ _ => rfl⟩

set_option maxRecDepth 100000 in
set_option maxHeartbeats 4000000 in
theorem in_err (W : World) (n₀ p : Nat) (s : St) (hM : IM W n₀ p s) : Calls Try.prog 108 #[.pointer (some ⟨p, 0, none⟩)] W fun e w' => e = .returned (.int .i64 s.2) ∧ W = w' := by
  obtain ⟨h1, h2, A, c, hP, _⟩ := hM
  have k1 := hP.cell (i := 1) rfl
  clear hP
  go_enter Try.func108, Try.ntmps108
  go_wp2_with fail
  go_ret
  exact ⟨rfl, rfl⟩
set_option maxRecDepth 100000 in
set_option maxHeartbeats 4000000 in
theorem in_left (W : World) (n₀ p : Nat) (s : St) (hM : IM W n₀ p s) : Calls Try.prog 109 #[.pointer (some ⟨p, 0, none⟩)] W fun e w' => e = .returned (.int .i64 (s.1.length : Int)) ∧ W = w' := by
  obtain ⟨h1, h2, A, c, hP, _⟩ := hM
  have k0 := hP.cell (i := 0) rfl
  clear hP
  go_enter Try.func109, Try.ntmps109
  go_wp2_with fail
  go_ret
  exact ⟨rfl, rfl⟩

/-- the object is written: the row of its bytes is another one, or none -/
theorem IM.set {W : World} {n₀ p : Nat} {s : St} {A : Option Addr} {c : Nat} {t : St} (h1 : p < n₀) (h2 : n₀ ≤ W.heap.size) (hP : Blk W p 168 [.slice A t.1.length c, .int .i64 t.2]) (h4 : t.1.length ≤ c) (h5 : A = none → c = 0) (h6 : (Kd.int .u8).C W A t.1.length t.1) (h7 : ∀ ad, A = some ad → ad.block < n₀ ∧ ad.block ≠ p) : IM W n₀ p t :=
  ⟨h1, h2, A, c, hP, h4, h5, h6, h7⟩
set_option maxRecDepth 100000 in
set_option maxHeartbeats 4000000 in
theorem in_fail (W : World) (n₀ p : Nat) (s : St) (x : Int) (hM : IM W n₀ p s) : Calls Try.prog 110 #[.pointer (some ⟨p, 0, none⟩), .int .i64 x] W fun e w' => e = .returned (.tuple #[]) ∧ IM w' n₀ p (failS s x) ∧ W.grownBy w' (some p) := by
  obtain ⟨h1, h2, A, c, hP, h4, h5, h6, h7⟩ := hM
  have k0 := hP.cell (i := 0) rfl
  have k1 := hP.cell (i := 1) rfl
  have f0 := hP.frozen 0
  have f1 := hP.frozen 1
  by_cases he : s.2 = 0
  · have g1 := hP.set 1 (.int .i64 x)
    have d0 := g1.cell (i := 0) rfl
    have e0 := g1.frozen 0
    have hF : failS s x = ([], x) := by simp [failS, he]
    have HF := Lib.hid hF; clear hF
    have hb : (s.2 == 0) = true := by simp [he]
    go_enter Try.func110, Try.ntmps110
    go_wp2_with fail
    go_end0
    rw [HF.out]
    exact ⟨rfl, ⟨h1, by simpa using h2, none, 0, g1.set 0 _, Nat.le_refl _, fun _ => rfl, Kd.C_nil _ _, fun _ h => by cases h⟩, grown_trans (grownBy_setAt W p 1 _) (grownBy_setAt _ p 0 _)⟩
  · have hF : failS s x = ([], s.2) := by simp [failS, he]
    have HF := Lib.hid hF; clear hF
    have hb : (s.2 == 0) = false := by simp [he]
    go_enter Try.func110, Try.ntmps110
    go_wp2_with fail
    go_end0
    rw [HF.out]
    exact ⟨rfl, ⟨h1, by simpa using h2, none, 0, hP.set 0 _, Nat.le_refl _, fun _ => rfl, Kd.C_nil _ _, fun _ h => by cases h⟩, grownBy_setAt W p 0 _⟩

end Go.Proofs.Ytnlhgnioedalpaa.Cod

/- layer 5: a whole number is read. -/
set_option linter.unusedSimpArgs false
set_option linter.unusedVariables false
namespace Go.Proofs.Ytnlhgnioedalpaa.Cod
open Go.RowKit Go.Shelf Go.Proofs.YtnlhgnioedalpaaW.PrintWords Go.Proofs.Ytnlhgnioedalpaa.CodL
attribute [local go_sem] Oper.semAt_some

/-- the first bytes are behind: where the row has room, or none -/
theorem im_drop {W : World} {n₀ p b off c k : Nat} {bs : List Int} (h1 : p < n₀) (h2 : n₀ ≤ W.heap.size) (hP : Blk W p 168 [.slice (some ⟨b, off, none⟩) bs.length c, .int .i64 0]) (h4 : bs.length ≤ c) (h6 : (Kd.int .u8).C W (some ⟨b, off, none⟩) bs.length bs) (h7 : b < n₀ ∧ b ≠ p) (hk : k ≤ bs.length) (off' c' : Nat) (ho : (off' = off + k ∧ c' = c - k) ∨ (c = k ∧ c' = 0)) :
    IM (W.setCell ⟨p, 0, none⟩ (.slice (some ⟨b, off', none⟩) (bs.length - k) c')) n₀ p (bs.drop k, 0) := by
  have e : (bs.drop k).length = bs.length - k := List.length_drop
  have hP2 := hP.set 0 (.slice (some ⟨b, off', none⟩) (bs.length - k) c')
  refine ⟨h1, by simpa using h2, some ⟨b, off', none⟩, c', by rw [e]; exact hP2, by rw [e]; omega, by simp, C_mk (by rw [e]; have := h6.2.1; omega) (fun j x hx => ?_), fun ad e => by cases e; exact h7⟩
  have hj := (List.getElem?_eq_some_iff.1 hx).1
  rw [e] at hj
  rw [List.getElem?_drop] at hx
  rcases ho with ⟨rfl, rfl⟩ | ⟨rfl, rfl⟩
  · obtain ⟨b', off'', e', _, hcell⟩ := C_row h6 (by omega)
    cases e'
    have := hcell _ _ hx
    unfold World.cell? at this ⊢
    rw [Below.heap_setCell W ⟨p, 0, none⟩ _ b h7.2, Nat.add_assoc]
    exact this
  · omega

set_option maxRecDepth 100000 in
set_option maxHeartbeats 4000000 in
theorem in_uint_ok (W : World) (n₀ p : Nat) (bs : List Int) (hb : ∀ x ∈ bs, 0 ≤ x ∧ x < 256) (hl : bs.length ≤ 1099511627776) (hM : IM W n₀ p (bs, 0)) (h0 : (lenAux 0 bs).2 = 0) :
    Calls Try.prog 111 #[.pointer (some ⟨p, 0, none⟩)] W fun e w' => e = .returned (.int .u64 (val (bs.take (lenAux 0 bs).1) : Int)) ∧ IM w' n₀ p (bs.drop (lenAux 0 bs).1, 0) ∧ W.grownBy w' (some p) := by
  obtain ⟨h1, h2, A, c, hP, h4, h5, h6, h7⟩ := hM
  dsimp only at hP h4 h6
  have k0 := hP.cell (i := 0) rfl
  have k1 := hP.cell (i := 1) rfl
  have f0 := hP.frozen 0
  obtain ⟨q1, q2, q3, q4⟩ := lenAux_ok bs 0 (by omega) h0
  have hlen := length_any W A c bs hl h6 h4
  rw [h0] at hlen
  obtain ⟨n, hn⟩ : ∃ n, (lenAux 0 bs).1 = n := ⟨_, rfl⟩
  rw [hn] at hlen q1 q2 q3 q4 ⊢
  have hvs := fun i hi hil => val_step (i := i) hb h0 hn hi hil
  have HN := Lib.hid hn; clear hn
  have H0 := Lib.hid h0; clear h0
  have HL := Lib.hid hlen; clear hlen
  have hc1 : (n : Int) ≤ (bs.length : Int) := by omega
  have hc2 : (bs.length : Int) ≤ (c : Int) := by omega
  have hc3 : (n : Int) ≤ (c : Int) := by omega
  have hc4 : (bs.length : Int) ≤ 1099511627776 := by omega
  have hc5 : (n : Int) ≤ 10 := by omega
  have hc6 : (0 : Int) ≤ (n : Int) := by omega
  obtain ⟨b, off, rfl, hbl, hcell⟩ := C_row h6 (by omega)
  have h7b := h7 _ rfl
  go_enter Try.func111, Try.ntmps111
  go_wp2_with fail
  refine HL.out.mono ?_; rintro e w1 ⟨rfl, m1, rfl⟩
  go_wp2_with fail
  go_loop [5, 33] (fun o i => ∃ k : Nat, k ≤ n ∧ i = .int .i64 (k : Int) ∧ o = .int .u64 (val (bs.take k) : Int)) (fun _ i => (n - (intOf i).toNat))
  case atStart => exact ⟨0, Nat.zero_le _, rfl, rfl⟩
  case round =>
    obtain ⟨k, hk, rfl, rfl⟩ := hrel
    by_cases hin : k < n
    · have hil : k < bs.length := by omega
      obtain ⟨v1, v2, v3, v4⟩ := hvs k hin hil
      have hcl := hcell k bs[k] (List.getElem?_eq_getElem hil)
      have hbk := hb bs[k] (List.getElem_mem hil)
      have HV := Lib.hid v1; clear v1 hvs hcell q4
      generalize hx : bs[k] = x at *
      have HX := Lib.hid hx; clear hx
      generalize hy : val (bs.take k) = y at *
      have HY := Lib.hid hy; clear hy
      have k0' : (0 : Int) ≤ (k : Int) := by omega
      have k1' : (k : Int) < (n : Int) := by omega
      have k2' : (k : Int) ≤ 10 := by omega
      have hx0 := hbk.1
      have hx1 := hbk.2
      go_wp2_with fail
      refine ⟨⟨k + 1, by omega, by go_num, ?_⟩, by simp [intOf]; omega⟩
      rw [u64_or_shl hx0 hx1 v2 v3 v4, HV.out]
    · obtain rfl : k = n := by omega
      have hmt := Kd.C_below h6 (pw_below_drewN (Below.refl _ W) m1)
      clear hvs q4 hcell
      have k0' : (W.drewN m1).cell? ⟨p, 0, none⟩ = some (.slice (some ⟨b, off, none⟩) bs.length c) := k0
      have f0' : (W.drewN m1).frozen? ⟨p, 0, none⟩ = false := f0
      go_wp2_with fail
      all_goals
        go_ret
        exact ⟨rfl, im_drop (W := W.drewN m1) h1 h2 hP h4 hmt h7b (by omega) _ _ (by first | exact .inl ⟨rfl, rfl⟩ | exact .inr ⟨by omega, rfl⟩), grown_trans (grown_drewN W m1 _) (grownBy_setAt _ p 0 _)⟩

set_option maxRecDepth 100000 in
set_option maxHeartbeats 4000000 in
theorem in_uint_bad (W : World) (n₀ p : Nat) (bs : List Int) (hl : bs.length ≤ 1099511627776) (hM : IM W n₀ p (bs, 0)) (h0 : (lenAux 0 bs).2 ≠ 0) :
    Calls Try.prog 111 #[.pointer (some ⟨p, 0, none⟩)] W fun e w' => e = .returned (.int .u64 0) ∧ IM w' n₀ p (failS (bs, 0) (lenAux 0 bs).2) ∧ W.grownBy w' (some p) := by
  have hM0 := Lib.hid hM
  obtain ⟨h1, h2, A, c, hP, h4, h5, h6, h7⟩ := hM
  dsimp only at hP h4 h6
  have k0 := hP.cell (i := 0) rfl
  have k1 := hP.cell (i := 1) rfl
  have hlen := length_any W A c bs hl h6 h4
  obtain ⟨r, hr⟩ : ∃ r, (lenAux 0 bs).2 = r := ⟨_, rfl⟩
  rw [hr] at hlen h0 ⊢
  have HL := Lib.hid hlen; clear hlen
  have hrb : (r == 0) = false := by simpa using h0
  clear h0 hP h6
  go_enter Try.func111, Try.ntmps111
  go_wp2_with fail
  refine HL.out.mono ?_; rintro e w1 ⟨rfl, m1, rfl⟩
  go_wp2_with fail
  refine (in_fail (W.drewN m1) n₀ p (bs, 0) r (hM0.out.grown (grown_drewN W m1 none) (by simp))).mono ?_; rintro e w2 ⟨rfl, hM2, hg2⟩
  go_wp2_with fail
  go_ret
  exact ⟨rfl, hM2, grown_trans (grown_drewN W m1 _) hg2⟩

set_option maxRecDepth 100000 in
set_option maxHeartbeats 4000000 in
theorem in_uint_err (W : World) (n₀ p : Nat) (s : St) (hM : IM W n₀ p s) (h0 : s.2 ≠ 0) :
    Calls Try.prog 111 #[.pointer (some ⟨p, 0, none⟩)] W fun e w' => e = .returned (.int .u64 0) ∧ W = w' := by
  obtain ⟨h1, h2, A, c, hP, h4, h5, h6, h7⟩ := hM
  have k1 := hP.cell (i := 1) rfl
  have hrb : (s.2 == 0) = false := by simpa using h0
  clear h0 hP h6
  go_enter Try.func111, Try.ntmps111
  go_wp2_with fail
  go_ret
  exact ⟨rfl, rfl⟩

/-- a whole number is read -/
theorem in_uint (W : World) (n₀ p : Nat) (s : St) (hb : ∀ x ∈ s.1, 0 ≤ x ∧ x < 256) (hl : s.1.length ≤ 1099511627776) (hM : IM W n₀ p s) :
    Calls Try.prog 111 #[.pointer (some ⟨p, 0, none⟩)] W fun e w' => e = .returned (.int .u64 ((takeU s).2 : Int)) ∧ IM w' n₀ p (takeU s).1 ∧ W.grownBy w' (some p) := by
  obtain ⟨bs, x⟩ := s
  by_cases hx : x = 0
  · subst hx
    by_cases h0 : (lenAux 0 bs).2 = 0
    · have e : takeU (bs, 0) = ((bs.drop (lenAux 0 bs).1, 0), val (bs.take (lenAux 0 bs).1)) := by unfold takeU; rw [if_pos rfl, if_pos h0]
      rw [e]
      exact in_uint_ok W n₀ p bs hb hl hM h0
    · have e : takeU (bs, 0) = (failS (bs, 0) (lenAux 0 bs).2, 0) := by unfold takeU; rw [if_pos rfl, if_neg h0]
      rw [e]
      exact in_uint_bad W n₀ p bs hl hM h0
  · have e : takeU (bs, x) = ((bs, x), 0) := by unfold takeU; rw [if_neg hx]
    rw [e]
    exact (in_uint_err W n₀ p (bs, x) hM hx).mono fun _ _ ⟨h1, h2⟩ => by subst h2; exact ⟨h1, hM, ⟨rfl, rfl, rfl, Nat.le_refl _, fun _ _ _ => rfl⟩⟩

end Go.Proofs.Ytnlhgnioedalpaa.Cod

/- layer 5: numbers with a sign, bytes, all bytes. -/
set_option linter.unusedSimpArgs false
set_option linter.unusedVariables false
namespace Go.Proofs.Ytnlhgnioedalpaa.Cod
open Go.RowKit Go.Shelf Go.Proofs.YtnlhgnioedalpaaW.PrintWords Go.Proofs.Ytnlhgnioedalpaa.CodL
attribute [local go_sem] Oper.semAt_some

theorem zb_bits {n : Nat} (h : n < 18446744073709551616) : bits .xor .i64 (wrap64 ((n : Int) / 2)) (wrap64 (-wrap64 (bits .and .u64 (n : Int) 1))) = zb n := by
  rw [u64_and1 n h]
  have e1 : wrap64 ((n : Int) / 2) = ((n / 2 : Nat) : Int) := by unfold wrap64; omega
  rw [e1]
  unfold zb
  by_cases h2 : n % 2 = 0
  · rw [if_pos h2, h2]
    have e2 : wrap64 (-wrap64 ((0 : Nat) : Int)) = 0 := by unfold wrap64; omega
    rw [e2, i64_xor0 (by omega) (by omega)]
  · rw [if_neg h2, show n % 2 = 1 from by omega]
    have e2 : wrap64 (-wrap64 ((1 : Nat) : Int)) = -1 := by unfold wrap64; omega
    rw [e2, i64_xorF (by omega) (by omega)]
set_option maxRecDepth 100000 in
set_option maxHeartbeats 4000000 in
theorem in_int (W : World) (n₀ p : Nat) (s : St) (hb : ∀ x ∈ s.1, 0 ≤ x ∧ x < 256) (hl : s.1.length ≤ 1099511627776) (hM : IM W n₀ p s) :
    Calls Try.prog 112 #[.pointer (some ⟨p, 0, none⟩)] W fun e w' => e = .returned (.int .i64 (takeI s).2) ∧ IM w' n₀ p (takeI s).1 ∧ W.grownBy w' (some p) := by
  have hlt := takeU_lt hb
  have hz := zb_bits hlt
  have HZ := Lib.hid hz; clear hz
  have HT := Lib.hid hlt; clear hlt
  have hn0 : (0 : Int) ≤ ((takeU s).2 : Int) := by omega
  go_enter Try.func112, Try.ntmps112
  go_wp2_with fail
  refine (in_uint W n₀ p s hb hl hM).mono ?_; rintro e w1 ⟨rfl, hM1, hg1⟩
  go_wp2_with fail
  go_ret
  rw [HZ.out]
  exact ⟨rfl, hM1, hg1⟩

set_option maxRecDepth 100000 in
set_option maxHeartbeats 4000000 in
theorem from_any (W : World) (bs : List Int) (A : Option Addr) (c : Nat) (hx : (Kd.int .u8).C W A bs.length bs) (hA0 : A = none → c = 0) (hl : bs.length ≤ 1099511627776) :
    Calls Try.prog 106 #[.slice A bs.length c] W fun e w' => ∃ p, W.heap.size ≤ p ∧ e = .returned (.pointer (some ⟨p, 0, none⟩)) ∧ IM w' w'.heap.size p (bs, 0) ∧ Below W.heap.size W w' := by
  go_enter Try.func106, Try.ntmps106
  go_wp2_with fail
  refine (clone_any W bs A c hx hA0 hl).mono ?_; rintro e w1 ⟨A1, c1, rfl, hR, hB⟩
  go_wp2_with fail
  go_ret
  obtain ⟨h4, _, h6⟩ := C_own hR
  have hbA : ∀ ad, A1 = some ad → ad.block < w1.heap.size := by
    intro ad e
    subst e
    rcases hR.2 with ⟨h, _⟩ | ⟨g, cap, cur, h, _, hg, _⟩
    · cases h
    · injection h with h1 h2 h3
      cases h1
      exact (Array.getElem?_eq_some_iff.1 hg).1
  refine ⟨_, hB.size, rfl, ⟨by simp, Nat.le_refl _, A1, c1, Blk.new w1 _ _, h4, fun e => ?_, Kd.C_alloc h6 _, fun ad e => ?_⟩, hB.alloc hB.size _⟩
  · subst e
    rcases hR.2 with ⟨h, _⟩ | ⟨g, cap, cur, h, _⟩
    · injection h
    · cases h
  · have := hbA ad e
    rw [World.size_alloc]
    omega

end Go.Proofs.Ytnlhgnioedalpaa.Cod
