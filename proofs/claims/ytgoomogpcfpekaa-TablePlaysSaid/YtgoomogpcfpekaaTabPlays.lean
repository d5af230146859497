/- TablePlays. -/
import Derived.Test.YtgoomogpcfpekaaTabPw
import Derived.Deep.RegionHeld3
set_option linter.unusedSimpArgs false
set_option linter.unusedVariables false
namespace Go.Proofs.Ytgoomogpcfpekaa.TabR
open Go.RowKit Go.Proofs.Ytgoomogpcfpekaa.TabL Go.Proofs.YtgoomogpcfpekaaW.PrintWords Go.Proofs.Ytgoomogpcfpekaa.PTablePlays
open Go.Proofs.Ytgoomogpcfpekaa.TabN (ltI belowL getV putL_len lin TMx cP d0 ek ev Gives2)
attribute [local go_sem] Oper.semAt_some

theorem i64_and127 (n : Int) : bits .and .i64 n 127 = n % 128 := by
  have h127 : (BitVec.ofInt 64 127).toNat = 2 ^ 7 - 1 := by decide
  have key : (BitVec.ofInt 64 n &&& BitVec.ofInt 64 127).toNat = (n % ((2 ^ 64 : Nat) : Int)).toNat % 2 ^ 7 := by
    rw [BitVec.toNat_and, BitVec.toNat_ofInt, h127, Nat.and_two_pow_sub_one_eq_mod]
  show IntKind.i64.wrap ((BitVec.ofInt 64 n &&& BitVec.ofInt 64 127).toNat : Nat) = n % 128
  rw [key, IntKind.wrap_i64]
  omega
theorem PS.at {W : World} {v : Value} {l : List (Int × Int)} {j : Nat} {q : Int × Int} (h : PS W v l) (hj : l[j]? = some q) : ∃ b off c, v = .slice (some ⟨b, off, none⟩) l.length c ∧ W.cell? ⟨b, off + j * 2, none⟩ = some (.int .i64 q.1) ∧ W.cell? ⟨b, off + j * 2 + 1, none⟩ = some (.int .i64 q.2) := by
  obtain ⟨A, c, rfl, h1, h2⟩ := h
  have hlt := (List.getElem?_eq_some_iff.1 hj).1
  obtain ⟨a, rfl, hr⟩ := h2.2.2 (by omega)
  have hjq : (l.map toS)[j]? = some (toS q) := by rw [List.getElem?_map, hj]; rfl
  have hz : (l.map toS)[0]? = some (toS (l[0]'(by omega))) := by rw [List.getElem?_map, List.getElem?_eq_getElem (by omega)]; rfl
  obtain ⟨cs0, _, hk0, hc0⟩ := hr 0 _ hz
  obtain rfl := k41_open hk0
  have hsp := cell_spot (by simpa [Addr.add] using hc0 0 _ rfl)
  obtain ⟨b, off, s⟩ := a
  obtain rfl : s = none := by injection hsp.1
  obtain ⟨cs, _, hk, hc⟩ := hr j _ hjq
  obtain rfl := k41_open hk
  have h3 := hc 0 _ rfl
  have h4 := hc 1 _ rfl
  rw [addr_add] at h3 h4
  exact ⟨b, off, c, rfl, h3, h4⟩
theorem same_refl (W : World) (v u : Value) (l : List (Int × Int)) (hl : l.length ≤ 1099511627776) (h : PS W v l) (h' : PS W u l) : Calls Try.prog 12 #[v, u] W fun e w' => e = .returned (.bool true) ∧ Below W.heap.size W w' :=
  (ref_same W v u l l hl h h').mono fun e w' ⟨a, b⟩ => ⟨by rw [a, decide_eq_true rfl], b⟩
set_option maxRecDepth 100000 in
set_option maxHeartbeats 8000000 in
theorem plays_walk (W : World) (sv : Value) (ops : List Op3) (hR : Rd cO 3 W.heap.size W sv ops) (hL : ops.length ≤ maxLen) (_ : ∀ z ∈ ops, (Lit.int .i64 z.1).wf = true ∧ (Lit.int .i64 z.2.1).wf = true ∧ (Lit.int .i64 z.2.2).wf = true) (k : Int) (_ : (Lit.int .i64 k).wf = true) (most : Int) (_ : (Lit.int .i64 most).wf = true) :
    Calls Try.prog 3 #[sv, .int .i64 k, .int .i64 most] W fun e w' => e = .returned (.bool true) ∧ Below W.heap.size W w' := by
  obtain ⟨A, c, rfl⟩ : ∃ A c, sv = .slice A ops.length c := by
    rcases hR with ⟨a, cap, rfl, rfl⟩ | ⟨b, off, cap, rfl, _, _⟩
    · exact ⟨a, cap, rfl⟩
    · exact ⟨_, _, rfl⟩
  unfold maxLen at hL
  have HR := Lib.hid hR
  clear hR
  by_cases hl : ops.length ≤ 100
  · go_enter Try.func3, Try.ntmps3
    go_wp2_with fail
    have hBx : Blk (W.alloc (.cells #[.int .i64 most] 3)) W.heap.size 3 [.int .i64 most] := Blk.new W [.int .i64 most] _
    have hB0 : Below W.heap.size W (W.alloc (.cells #[.int .i64 most] 3)) := (Below.refl _ W).alloc (Nat.le_refl _) _
    refine (TabN.alive_any _).mono ?_; rintro e w1 ⟨rfl, hb1⟩
    have hz1 := hb1.size
    rw [World.size_alloc] at hz1 hb1
    have hBx1 : Blk w1 W.heap.size 3 [.int .i64 most] := hBx.below hb1 (by omega)
    have hB1 := hB0.trans (hb1.mono (by omega))
    clear hBx hB0 hb1
    go_wp2_with fail
    have hR1 := (HR.out.below hB1).mono hB1.size
    refine (play_any w1 A c ops hl hR1).mono ?_; rintro e w2 ⟨v2, rfl, hT2, hP2, hv2, hb2⟩
    have hB2 := hB1.trans (hb2.mono hB1.size)
    have hz2 := hB1.size
    have hBx2 := hBx1.belowS hb2
    have cx2 := hBx2.cell (i := 0) rfl
    obtain ⟨p, hp⟩ : ∃ p, w1.heap.size = p := ⟨_, rfl⟩
    rw [hp] at hT2 hv2 ⊢
    have hsd := playL_sd ops
    have hpz := hT2.lt
    have hln := playL_len ops
    obtain ⟨xs, hxs⟩ : ∃ xs, playL ops = xs := ⟨_, rfl⟩
    rw [hxs] at hT2 hP2 hsd hln
    have cf2 := hBx2.frozen 0
    obtain ⟨M, hM⟩ : ∃ M : Int, wrap64 (1 + bits BinOp.and IntKind.i64 most 127) = M := ⟨_, rfl⟩
    have hM1 : 1 ≤ M ∧ M ≤ 128 := by rw [← hM, i64_and127]; unfold wrap64; omega
    have hBx3 : Blk (w2.setCell ⟨W.heap.size, 0, none⟩ (.int .i64 M)) W.heap.size 3 [.int .i64 M] := hBx2.set 0 _
    have hg3 : w2.grownBy (w2.setCell ⟨W.heap.size, 0, none⟩ (.int .i64 M)) (some W.heap.size) := grownBy_setAt w2 W.heap.size 0 _
    have hT3 := hT2.other hg3 hBx2 (by omega) (by decide)
    have hP3 := hP2.other (fun e => by have := hv2 _ e; omega) hg3
    have hB3 : Below W.heap.size W (w2.setCell ⟨W.heap.size, 0, none⟩ (.int .i64 M)) := hB2.grown hg3 (by omega) (fun r e => by cases e; exact Nat.le_refl _)
    have hz3 : W.heap.size ≤ w2.heap.size := by omega
    have hzs : (w2.setCell ⟨W.heap.size, 0, none⟩ (.int .i64 M)).heap.size = w2.heap.size := by simp [World.setCell]
    clear hxs hR1 HR hb2 hB1 hBx1
    go_wp2_with fail
    rw [hM]
    obtain ⟨w3, hw3⟩ : ∃ w3, w2.setCell ⟨W.heap.size, 0, none⟩ (.int .i64 M) = w3 := ⟨_, rfl⟩
    rw [hw3] at hBx3 hT3 hP3 hB3 hzs hg3 ⊢
    have hxl : xs.length ≤ 100 := by omega
    have G : ∀ w, Below w3.heap.size w3 w → TMx w p xs ∧ PS w v2 xs ∧ w.cell? ⟨W.heap.size, 0, none⟩ = some (.int .i64 M) ∧ Below W.heap.size W w := fun w hb => ⟨hT3.below hb, hP3.below hb, (hBx3.belowS hb).cell (i := 0) rfl, hB3.trans (hb.mono (by omega))⟩
    have T : ∀ (A B : World), Below w3.heap.size w3 A → Below A.heap.size A B → Below w3.heap.size w3 B := fun A B h1 h2 => h1.trans (h2.mono h1.size)
    have hbd : Below w3.heap.size w3 w3.drew := (Below.refl _ w3).drew
    have c3 := (G _ hbd).2.2.1
    have c3' := (G _ (Below.refl _ w3)).2.2.1
    have JA := fun w hw => pairs_all w p xs M hM1.1 (by omega) (G w hw).1
    have JB := fun w hw => pairs_back w p xs M hM1.1 (by omega) (G w hw).1
    have JF := fun w hw => pairs_from w p xs k M hM1.1 (by omega) (G w hw).1 hsd
    have JC := fun (w : World) (hw : Below w3.heap.size w3 w) (v : Value) (l : List (Int × Int)) (hl : l.length ≤ 1099511627776) (h : PS w v l) => cut_any w v l W.heap.size M hM1.1 hl (G w hw).2.2.1 h
    have JRB := fun w hw => ref_back w v2 xs (by omega) (G w hw).2.1
    have JRF := fun w hw => ref_from w v2 xs k (by omega) (G w hw).2.1
    obtain ⟨ls, hls⟩ : ∃ ls, xs.take M.toNat = ls := ⟨_, rfl⟩
    obtain ⟨lb, hlb⟩ : ∃ lb, xs.reverse.take M.toNat = lb := ⟨_, rfl⟩
    obtain ⟨lf, hlf⟩ : ∃ lf, (fromL ltI xs k).take M.toNat = lf := ⟨_, rfl⟩
    have hl1 : ls.length ≤ 1099511627776 := by rw [← hls, List.length_take]; omega
    have hl2 : lb.length ≤ 1099511627776 := by rw [← hlb, List.length_take, List.length_reverse]; omega
    have hff : (fromL ltI xs k).length ≤ xs.length := List.length_filter_le _ _
    have hl3 : lf.length ≤ 1099511627776 := by rw [← hlf, List.length_take]; omega
    have CA := fun (w : World) (hw : Below w3.heap.size w3 w) => JC w hw v2 xs (by omega) (G w hw).2.1
    have CB := fun (w : World) (hw : Below w3.heap.size w3 w) (v : Value) (h : PS w v xs.reverse) => JC w hw v xs.reverse (by rw [List.length_reverse]; omega) h
    have CF := fun (w : World) (hw : Below w3.heap.size w3 w) (v : Value) (h : PS w v (fromL ltI xs k)) => JC w hw v (fromL ltI xs k) (by omega) h
    rw [hls] at JA CA
    rw [hlb] at JB CB
    rw [hlf] at JF CF
    have HG := Lib.hid G; have HT := Lib.hid T; have HJA := Lib.hid JA; have HJB := Lib.hid JB; have HJF := Lib.hid JF; have HRB := Lib.hid JRB; have HRF := Lib.hid JRF; have HCA := Lib.hid CA; have HCB := Lib.hid CB; have HCF := Lib.hid CF; have HBD := Lib.hid hbd
    clear G T JA JB JF JC JRB JRF CA CB CF hls hlb hlf hff hw3 hg3 hBx3 hT3 hP3 hB3 hzs hBx2 cx2 cf2 hT2 hP2 hv2 hB2 hM hbd hz3
    go_region_held3 (fun w' => w'.cell? ⟨W.heap.size, 0, none⟩ = some (.int .i64 M)) (first | exact c3 | exact c3' | exact c4 | exact c5 | exact c7 | exact c8 | exact c9 | exact c10 | exact c12 | exact c13 | exact c14 | exact c15 | exact c17) ((first
      | (go_at_call 12; refine (same_refl w15 v14 v16 lf hl3 (hP14.below hb15) hP16).mono ?_; rintro e w17 ⟨rfl, hb17⟩; have hB17 := Lib.hid (HT.out _ _ hB15.out hb17); have c17 := (HG.out _ hB17.out).2.2.1)
      | (go_at_call 11; refine (HCF.out w15 hB15.out v15 hP15).mono ?_; rintro e w16 ⟨v16, rfl, hP16, rfl⟩)
      | (go_at_call 18; refine (HRF.out w14 hB14.out).mono ?_; rintro e w15 ⟨v15, rfl, hP15, -, hb15⟩; have hB15 := Lib.hid (HT.out _ _ hB14.out hb15); have c15 := (HG.out _ hB15.out).2.2.1)
      | (go_at_call 13; refine JF13.mono ?_; rintro e w14 ⟨v14, rfl, hP14, -, hb14⟩; have hB14 := Lib.hid (HT.out _ _ hB12.out hb14); have c14 := (HG.out _ hB14.out).2.2.1)
      | (go_at_call 17; refine (TabN.from_any w12 _ _).mono ?_; rintro e w13 ⟨rfl, hw13⟩; have JF13 := HJF.out w12 hB12.out; have c13 := (HG.out _ (HT.out _ _ hB12.out (TabN.bel_alloc2 w12 (.cells #[.pointer (some ⟨p, 0, none⟩)] 24) (.cells #[(.int .i64 k)] 2)))).2.2.1; rw [← hw13] at JF13 c13; clear hw13)
      | (go_at_call 12; refine (same_refl w10 v9 v11 lb hl2 (hP9.below hb10) hP11).mono ?_; rintro e w12 ⟨rfl, hb12⟩; have hB12 := Lib.hid (HT.out _ _ hB10.out hb12); have c12 := (HG.out _ hB12.out).2.2.1)
      | (go_at_call 11; refine (HCB.out w10 hB10.out v10 hP10).mono ?_; rintro e w11 ⟨v11, rfl, hP11, rfl⟩)
      | (go_at_call 16; refine (HRB.out w9 hB9.out).mono ?_; rintro e w10 ⟨v10, rfl, hP10, -, hb10⟩; have hB10 := Lib.hid (HT.out _ _ hB9.out hb10); have c10 := (HG.out _ hB10.out).2.2.1)
      | (go_at_call 13; refine JB8.mono ?_; rintro e w9 ⟨v9, rfl, hP9, -, hb9⟩; have hB9 := Lib.hid (HT.out _ _ hB7.out hb9); have c9 := (HG.out _ hB9.out).2.2.1)
      | (go_at_call 15; refine (TabN.back_any w7 _).mono ?_; rintro e w8 ⟨rfl, hw8⟩; have JB8 := HJB.out w7 hB7.out; have c8 := (HG.out _ (HT.out _ _ hB7.out ((Below.refl _ w7).alloc (Nat.le_refl _) (.cells #[.pointer (some ⟨p, 0, none⟩)] 24)))).2.2.1; rw [← hw8] at JB8 c8; clear hw8)
      | (go_at_call 12; refine (same_refl w5 v5 v6 ls hl1 hP5 hP6).mono ?_; rintro e w7 ⟨rfl, hb7⟩; have hB7 := Lib.hid (HT.out _ _ hB5.out hb7); have c7 := (HG.out _ hB7.out).2.2.1)
      | (go_at_call 11; refine (HCA.out w5 hB5.out).mono ?_; rintro e w6 ⟨v6, rfl, hP6, rfl⟩)
      | (go_at_call 13; refine JA4.mono ?_; rintro e w5 ⟨v5, rfl, hP5, -, hb5⟩; have hB5 := Lib.hid (HT.out _ _ HBD.out hb5); have c5 := (HG.out _ hB5.out).2.2.1)
      | (go_at_call 14; refine (TabN.all_any w3.drew _).mono ?_; rintro e w4 ⟨rfl, hw4⟩; have JA4 := HJA.out w3.drew HBD.out; have c4 := (HG.out _ (HT.out _ _ HBD.out ((Below.refl _ w3.drew).alloc (Nat.le_refl _) (.cells #[.pointer (some ⟨p, 0, none⟩)] 24)))).2.2.1; rw [← hw4] at JA4 c4; clear hw4)))
    obtain ⟨bo, hbo⟩ : ∃ bo : Option Int, belowL xs k = bo := ⟨_, rfl⟩
    have D1 : Calls Try.prog 19 #[.pointer (some ⟨p, 0, none⟩), (.int .i64 k)] w17 fun e w' => e = .returned (.tuple #[.int .i64 (bo.getD 0), .bool bo.isSome]) ∧ w17 = w' := by rw [← hbo]; exact TabN.below_any w17 p xs k (HG.out _ hB17.out).1 hsd
    have D2 : Calls Try.prog 20 #[v2, (.int .i64 k)] w17 fun e w' => e = .returned (.tuple #[.int .i64 (bo.getD 0), .bool bo.isSome]) ∧ Below w17.heap.size w17 w' := by rw [← hbo]; exact ref_below w17 v2 xs k (by omega) (HG.out _ hB17.out).2.1
    obtain ⟨bv, hbv⟩ : ∃ bv : Int, bo.getD 0 = bv := ⟨_, rfl⟩
    obtain ⟨bb, hbb⟩ : ∃ bb : Bool, bo.isSome = bb := ⟨_, rfl⟩
    rw [hbv, hbb] at D1 D2
    have HD1 := Lib.hid D1; have HD2 := Lib.hid D2
    clear D1 D2 hbo hbv hbb HJA HJB HJF HRB HRF HCA HCB HCF HBD
    clear hB5 hB7 hB9 hB10 hB12 hB14 hB15 hP5 hP6 hP9 hP10 hP11 hP14 hP15 hP16 hb5 hb7 hb9 hb10 hb12 hb14 hb15 c3 c3' c4 c5 c7 c8 c9 c10 c12 c13 c14 c15 c17 JA4 JB8 JF13
    go_wp2_with fail
    refine HD1.out.mono ?_; rintro e w18 ⟨rfl, rfl⟩
    go_wp2_with fail
    refine HD2.out.mono ?_; rintro e w19 ⟨rfl, hb19⟩
    have hB19 := Lib.hid (HT.out _ _ hB17.out hb19)
    cases xs with
    | nil =>
      have D3 : Calls Try.prog 21 #[.pointer (some ⟨p, 0, none⟩)] w19 fun e w' => e = .returned (.tuple #[.int .i64 0, .bool false]) ∧ Below w19.heap.size w19 w' := TabN.least_any w19 p [] (HG.out _ hB19.out).1
      obtain ⟨A2, c2, rfl, -⟩ := (HG.out _ hB19.out).2.1
      go_wp2_with fail
      refine D3.mono ?_; rintro e w20 ⟨rfl, hb20⟩
      have hB20 := Lib.hid (HT.out _ _ hB19.out hb20)
      have D4 : Calls Try.prog 22 #[.pointer (some ⟨p, 0, none⟩)] w20 fun e w' => e = .returned (.tuple #[.int .i64 0, .bool false]) ∧ Below w20.heap.size w20 w' := TabN.most_any w20 p [] (HG.out _ hB20.out).1
      clear D3
      go_wp2_with fail
      refine D4.mono ?_; rintro e w21 ⟨rfl, hb21⟩
      have hB21 := Lib.hid (HT.out _ _ hB20.out hb21)
      clear D4
      go_wp2_with fail
      go_ret
      exact ⟨rfl, (HG.out _ hB21.out).2.2.2⟩
    | cons x rest =>
      have D3 : Calls Try.prog 21 #[.pointer (some ⟨p, 0, none⟩)] w19 fun e w' => e = .returned (.tuple #[.int .i64 x.1, .bool true]) ∧ Below w19.heap.size w19 w' := TabN.least_any w19 p (x :: rest) (HG.out _ hB19.out).1
      obtain ⟨y, hy⟩ : ∃ y, (x :: rest)[rest.length]? = some y := ⟨_, List.getElem?_eq_getElem (by simp)⟩
      have hyr : ((x :: rest).reverse.getD 0 d0) = y := by
        rw [List.getD_eq_getElem?_getD, List.getElem?_reverse (by simp)]
        simpa using congrArg (fun o => Option.getD o d0) hy
      have hye : (!(x :: rest).reverse.isEmpty) = true := by simp
      go_wp2_with fail
      refine D3.mono ?_; rintro e w20 ⟨rfl, hb20⟩
      have hB20 := Lib.hid (HT.out _ _ hB19.out hb20)
      have D4 := TabN.most_any w20 p (x :: rest) (HG.out _ hB20.out).1
      rw [hyr, hye] at D4
      unfold ek at D4
      clear D3
      go_wp2_with fail
      refine D4.mono ?_; rintro e w21 ⟨rfl, hb21⟩
      have hB21 := Lib.hid (HT.out _ _ hB20.out hb21)
      obtain ⟨b, off, c', rfl, ca, -⟩ := (HG.out _ hB21.out).2.1.at (j := 0) rfl
      obtain ⟨b', off', c'', e2, cb, -⟩ := (HG.out _ hB21.out).2.1.at hy
      obtain ⟨rfl, rfl⟩ : b = b' ∧ off = off' := by injection e2 with e3 _ _; injection e3 with e4; injection e4 with e5 e6 _; exact ⟨e5, e6⟩
      clear D4 e2
      rw [Nat.zero_mul, Nat.add_zero] at ca
      obtain ⟨n, hn⟩ : ∃ n, rest.length = n := ⟨_, rfl⟩
      rw [List.length_cons] at hxl ⊢
      rw [hn] at cb hxl ⊢
      go_wp2_with fail
      go_ret
      exact ⟨rfl, (HG.out _ hB21.out).2.2.2⟩
  · go_enter Try.func3, Try.ntmps3
    have hl' : (100 : Int) < (ops.length : Int) := by omega
    go_wp2_with fail
    refine (TabN.alive_any _).mono ?_; rintro e w1 ⟨rfl, hb1⟩
    rw [World.size_alloc] at hb1
    have hB1 : Below W.heap.size W w1 := ((Below.refl _ W).alloc (Nat.le_refl _) _).trans (hb1.mono (by omega))
    go_wp2_with fail
    go_ret
    exact ⟨rfl, hB1⟩

end Go.Proofs.Ytgoomogpcfpekaa.TabR
