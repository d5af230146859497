/- PriB, PriI, laid together. -/
import Derived.Test.YtnlhgnioedalpaaGr04
import Derived.Shelf.Spec.SlicesInsertGrow

/- price: where a set stands (slices.BinarySearchFunc). -/
set_option linter.unusedSimpArgs false
set_option linter.unusedVariables false
namespace Go.Proofs.Ytnlhgnioedalpaa.Pri
open Go.RowKit Go.Proofs.YtnlhgnioedalpaaW.PrintWords Go.Proofs.Ytnlhgnioedalpaa.PPricePlays
attribute [local go_sem] Oper.semAt_some

theorem put2_any (W : World) (s x y : Int) (hs : U s) (hx : U x) :
    Calls Try.prog 67 #[.agg #[.int .u64 x, .int .i64 y], .int .u64 s] W fun e w' => e = .returned (.int .i64 (cmpS x s)) ∧ Below W.heap.size W w' := by
  have hal : Below W.heap.size W (W.alloc (.cells #[.int .u64 x, .int .i64 y] tE)) := (Below.refl _ W).alloc (Nat.le_refl _) _
  have C := Lib.hid (cmp_any (W.alloc (.cells #[.int .u64 x, .int .i64 y] tE)) x s hx hs)
  have HAL := Lib.hid hal
  clear hal
  obtain ⟨r, hr⟩ : ∃ r, cmpS x s = r := ⟨_, rfl⟩
  rw [hr] at C ⊢
  clear hr
  go_enter Try.func67, Try.ntmps67
  go_wp2_with fail
  refine C.out.mono ?_; rintro e w1 ⟨rfl, hb⟩
  go_wp2_with fail
  go_ret
  exact ⟨rfl, HAL.out.trans (hb.mono HAL.out.size)⟩
theorem cmpS_lt {a b : Int} : cmpS a b < 0 ↔ ltS a b = true := by
  unfold cmpS
  by_cases h : ltS a b = true
  · rw [if_pos h]; simp [h]
  · rw [if_neg h]
    split <;> simp [h]
/-- where s stands among sorted entries -/
structure Pos (es : List En) (s : Int) (k : Nat) : Prop where
  le : k ≤ es.length
  lo : ∀ m, m < k → ltS (es.getD m dE).1 s = true
  hi : ∀ m, k ≤ m → m < es.length → ltS (es.getD m dE).1 s = false
theorem sd_at {es : List En} (h : es.Pairwise (fun a b => ltS a.1 b.1 = true)) {i j : Nat} (hij : i < j) (hj : j < es.length) : ltS (es.getD i dE).1 (es.getD j dE).1 = true := by
  have := List.pairwise_iff_getElem.1 h i j (by omega) hj hij
  rw [show es.getD i dE = es[i]'(by omega) from by simp [List.getD, (show i < es.length by omega)], show es.getD j dE = es[j] from by simp [List.getD, hj]]
  exact this
set_option maxRecDepth 100000 in
set_option maxHeartbeats 8000000 in
theorem pos_any (W : World) (v : Value) (es : List En) (h : PE W v es) (hU : UE es) (hl : es.length ≤ 1099511627776) (hsd : es.Pairwise (fun a b => ltS a.1 b.1 = true)) (s : Int) (hs : U s) :
    Calls Try.prog 66 #[v, .int .u64 s, .func (.func 67) #[] #[]] W fun e w' => ∃ (k : Nat) (b : Bool), e = .returned (.tuple #[.int .i64 (k : Int), .bool b]) ∧ Pos es s k ∧ Below W.heap.size W w' := by
  have H := Lib.hid h
  obtain ⟨A, c, rfl, -⟩ := h
  go_enter Try.func66, Try.ntmps66
  go_wp2_with fail
  go_loopw [9, 10] (fun x y wr => ∃ i j : Nat, x = .int .i64 (i : Int) ∧ y = .int .i64 (j : Int) ∧ i ≤ j ∧ j ≤ es.length ∧ (∀ m, m < i → ltS (es.getD m dE).1 s = true) ∧ (∀ m, j ≤ m → m < es.length → ltS (es.getD m dE).1 s = false) ∧ Below W.heap.size W wr) (fun x y _ => (intOf y - intOf x).toNat)
  case atStart => exact ⟨0, es.length, rfl, rfl, Nat.zero_le _, Nat.le_refl _, fun m hm => by omega, fun m h1 h2 => by omega, Below.refl _ W⟩
  case round =>
    obtain ⟨i, j, rfl, rfl, hij, hj, hlo, hhi, hB⟩ := hrel
    by_cases hlt : i < j
    · obtain ⟨k, hk⟩ : ∃ k : Nat, (i + j) / 2 = k := ⟨_, rfl⟩
      have hki : i ≤ k := by omega
      have hkj : k < j := by omega
      have hkl : k < es.length := by omega
      obtain ⟨⟨x, y⟩, hx⟩ : ∃ x, es[k] = x := ⟨_, rfl⟩
      have hx2 : es[k]? = some (x, y) := by rw [List.getElem?_eq_getElem hkl, hx]
      have hgd : es.getD k dE = (x, y) := by rw [List.getD_eq_getElem?_getD, hx2]; rfl
      have hux : U x := hU _ (List.mem_of_getElem? hx2)
      obtain ⟨b3, off3, c4, e1, hlb, r0, r1⟩ := (H.out.below hB).at hx2
      obtain ⟨rfl, rfl⟩ : A = some ⟨b3, off3, none⟩ ∧ c = c4 := by injection e1 with e1 e2 e3; exact ⟨e1, e3⟩
      simp only at r0 r1
      have P2 := Lib.hid (put2_any wr s x y hs hux)
      have li : (i : Int) < (j : Int) := by omega
      have HB := Lib.hid hB
      have HLO := Lib.hid hlo; have HHI := Lib.hid hhi; have HGD := Lib.hid hgd
      clear hx hx2 hgd e1 hB hlo hhi
      subst hk
      go_wp2_with fail
      refine P2.out.mono ?_; rintro e w1 ⟨rfl, hb1⟩
      have HB1 := Lib.hid (HB.out.trans (hb1.mono HB.out.size))
      obtain ⟨r, hr⟩ : ∃ r, cmpS x s = r := ⟨_, rfl⟩
      have hiff : r < 0 ↔ ltS x s = true := by rw [← hr]; exact cmpS_lt
      rw [hr]
      clear hb1 P2 hr
      by_cases hc : ltS x s = true
      · have hr0 : r < 0 := hiff.2 hc
        have HC := Lib.hid hc
        have g1 : ((i : Int) + (j : Int)) / 2 + 1 ≤ 9223372036854775807 := by omega
        have g2 : -9223372036854775808 ≤ ((i : Int) + (j : Int)) / 2 + 1 := by omega
        clear hiff hc
        go_wp2_with fail
        go_roundw
        case rel => exact ⟨(i + j) / 2 + 1, j, by congr 1, rfl, by omega, hj, fun m hm => by
          rcases Nat.lt_succ_iff_lt_or_eq.1 hm with h | h
          · have h1 := sd_at hsd h hkl
            rw [HGD.out] at h1
            exact ltS_trans h1 HC.out
          · rw [h, HGD.out]; exact HC.out, HHI.out, HB1.out⟩
        case measure => simp [intOf]; omega
      · have hr0 : ¬ r < 0 := fun h => hc (hiff.1 h)
        have HC := Lib.hid (show ltS x s = false by simpa using hc)
        clear hiff hc
        go_wp2_with fail
        go_roundw
        case rel => exact ⟨i, (i + j) / 2, rfl, by congr 1, by omega, by omega, HLO.out, fun m h1 h2 => by
          rcases Nat.lt_or_eq_of_le h1 with h | h
          · cases hq : ltS (es.getD m dE).1 s with
            | false => rfl
            | true =>
              have h3 := sd_at hsd h h2
              rw [HGD.out] at h3
              have h4 := ltS_trans h3 hq
              rw [HC.out] at h4
              cases h4
          · rw [← h, HGD.out]; exact HC.out, HB1.out⟩
        case measure => simp [intOf]; omega
    · obtain rfl : i = j := by omega
      have HP := Lib.hid (show Pos es s i from ⟨hj, hlo, hhi⟩)
      have HB := Lib.hid hB
      clear hlo hhi hB
      by_cases hin : i < es.length
      · obtain ⟨⟨x, y⟩, hx⟩ : ∃ x, es[i] = x := ⟨_, rfl⟩
        have hx2 : es[i]? = some (x, y) := by rw [List.getElem?_eq_getElem hin, hx]
        have hux : U x := hU _ (List.mem_of_getElem? hx2)
        obtain ⟨b3, off3, c4, e1, hlb, r0, r1⟩ := (H.out.below HB.out).at hx2
        obtain ⟨rfl, rfl⟩ : A = some ⟨b3, off3, none⟩ ∧ c = c4 := by injection e1 with e1 e2 e3; exact ⟨e1, e3⟩
        simp only at r0 r1
        have P2 := Lib.hid (put2_any wr s x y hs hux)
        have kl : (i : Int) < (es.length : Int) := by omega
        have k0 : (0 : Int) ≤ (i : Int) := Int.natCast_nonneg _
        clear hx hx2 e1
        go_wp2_with fail
        refine P2.out.mono ?_; rintro e w1 ⟨rfl, hb1⟩
        have HB1 := Lib.hid (HB.out.trans (hb1.mono HB.out.size))
        obtain ⟨r, hr⟩ : ∃ r, cmpS x s = r := ⟨_, rfl⟩
        rw [hr]
        clear hb1 P2 hr
        go_wp2_with fail
        go_ret2
        exact ⟨i, _, rfl, HP.out, HB1.out⟩
      · have kl : ¬ (i : Int) < (es.length : Int) := by omega
        go_wp2_with fail
        go_ret2
        first | exact ⟨i, _, rfl, HP.out, HB.out⟩ | exact ⟨i, rfl, HP.out, HB.out⟩ | exact ⟨i, by simp, HP.out, HB.out⟩

end Go.Proofs.Ytnlhgnioedalpaa.Pri

/- price: one entry put in (slices.Insert). -/
set_option linter.unusedSimpArgs false
set_option linter.unusedVariables false
namespace Go.Proofs.Ytnlhgnioedalpaa.Pri
open Go.RowKit Go.Proofs.YtnlhgnioedalpaaW.PrintWords Go.Proofs.Ytnlhgnioedalpaa.PPricePlays
attribute [local go_sem] Oper.semAt_some

/-- 'copy(d, s)', elements of any size, where the cells that go over are known -/
theorem run_copy_any {P : Program} (w : World) (dT sT ty elem : TypeId) (b o dLen dCap : Nat) (a : Addr) (sLen sCap : Nat) (cs : List Value) (size m : Nat)
    (hu : P.underlying dT = some (.slice elem)) (hs : (P.info? elem).map (·.size) = some size) (hm : m = Nat.min sLen dLen) (hn : cs.length = m * size)
    (hsrc : ∀ j v, cs[j]? = some v → w.cell? (a.add j) = some v) (hc : ∀ j, j < cs.length → (w.cell? ⟨b, o + j, none⟩).isSome = true) (hf : ∀ j, j < cs.length → w.frozen? ⟨b, o + j, none⟩ = false) (h1 : ∀ v ∈ cs, v.oneCell' = true) :
    (Builtin.copy_ #[dT, sT] ty #[.slice (some ⟨b, o, none⟩) dLen dCap, .slice (some a) sLen sCap]).run P w = .ok (goInt m) (w.setCells b o cs) := by
  have hl := run_loadCells_list (P := P) w a cs hsrc
  have hst := run_storeCells_cells (P := P) b o cs 0 w (by simpa using hc) (by simpa using hf) h1
  cases hq : P.info? elem with
  | none => simp [hq] at hs
  | some i =>
    have hi : i.size = size := by simpa [hq] using hs
    rw [hn] at hl
    simp [Builtin.copy_, run_underlying hu, Builtin.lenOf, Builtin.firstCells, sizeOf, typeInfo, hq, hi, ← hm, hl, hst]
theorem sizeE : (Try.prog.info? 41).map (·.size) = some 2 := by kernel_rfl
theorem oneE (es : List En) : ∀ u ∈ cellsOf cE es, u.oneCell' = true := fun u hu => by
  obtain ⟨x, _, hx⟩ := List.mem_flatMap.1 hu
  simp [cE] at hx
  rcases hx with rfl | rfl <;> rfl
theorem cellsOf_drop (es : List En) (k : Nat) : (cellsOf cE es).drop (k * 2) = cellsOf cE (es.drop k) := by
  have h := cellsOf_take cE_length es k
  have e : cellsOf cE es = cellsOf cE (es.take k) ++ cellsOf cE (es.drop k) := by rw [← cellsOf_append, List.take_append_drop]
  by_cases hk : k ≤ es.length
  · rw [e, List.drop_append_of_le_length (by rw [cellsOf_length cE_length, List.length_take]; omega), List.drop_eq_nil_of_le (by rw [cellsOf_length cE_length, List.length_take]; omega), List.nil_append]
  · rw [List.drop_eq_nil_of_le (by rw [cellsOf_length cE_length]; omega), List.drop_eq_nil_of_le (by omega)]
    rfl
/-- room for one more is taken -/
theorem own_ext {w : World} {base size g n cap : Nat} {e : TypeId} {xs : List Value} (h : w.ownsRow base e size (.slice (some ⟨g, 0, none⟩) n cap) n xs) (hr : n < cap) : ∃ ys : List Value, ys.length = size ∧ w.ownsRow base e size (.slice (some ⟨g, 0, none⟩) (n + 1) cap) (n + 1) (xs ++ ys) := by
  rcases h.2 with ⟨h1, _⟩ | ⟨g', cap', cur, h1, h2, h3, h4, h5, h6, h7⟩
  · cases h1
  · injection h1 with e1 e2 e3
    injection e1 with e1
    injection e1 with e1
    subst e1; subst e3
    have hm : (n + 1) * size ≤ cap * size := Nat.mul_le_mul_right _ hr
    have hx : (n + 1) * size = n * size + size := by rw [Nat.add_mul, Nat.one_mul]
    have hcl : cur.toList.length = cap * size := by rw [Array.length_toList, h6]
    refine ⟨(cur.toList.drop (n * size)).take size, by rw [List.length_take, List.length_drop, hcl]; omega, by rw [List.length_append, List.length_take, List.length_drop, hcl, h.1]; omega, .inr ⟨g, cap, cur, rfl, h2, h3, hr, h5, h6, ?_⟩⟩
    rw [hx, List.take_add, h7]
/-- the row behind both copies -/
theorem ins_row {es : List En} {k : Nat} {x : En} {ys : List Value} (hk : k < es.length) (hy : ys.length = 2) :
    setL (setL (cellsOf cE es ++ ys) ((k + 1) * 2) (cellsOf cE (es.drop k))) (k * 2) (cE x) = cellsOf cE (es.take k ++ x :: es.drop k) := by
  have hl := cellsOf_length cE_length es
  have hd : (cellsOf cE (es.drop k)).length = (es.length - k) * 2 := by rw [cellsOf_length cE_length, List.length_drop]
  have hA : (cellsOf cE es ++ ys).length = (es.length + 1) * 2 := by rw [List.length_append, hl, hy]; omega
  rw [setL_eq (cellsOf cE (es.drop k)) _ _ (by rw [hd, hA]; omega)]
  have h1 : (cellsOf cE es ++ ys).drop ((k + 1) * 2 + (cellsOf cE (es.drop k)).length) = [] := List.drop_eq_nil_of_le (by rw [hd, hA]; omega)
  rw [h1, List.append_nil]
  have h2 : ((cellsOf cE es ++ ys).take ((k + 1) * 2)).length = (k + 1) * 2 := by rw [List.length_take, hA]; omega
  rw [setL_eq (cE x) _ _ (by rw [List.length_append, h2, hd, cE_length]; omega), cE_length]
  have h3 : (((cellsOf cE es ++ ys).take ((k + 1) * 2)) ++ cellsOf cE (es.drop k)).take (k * 2) = cellsOf cE (es.take k) := by
    rw [List.take_append_of_le_length (by rw [h2]; omega), List.take_take, Nat.min_eq_left (by omega), List.take_append_of_le_length (by rw [hl]; omega), cellsOf_take cE_length]
  have h4 : (((cellsOf cE es ++ ys).take ((k + 1) * 2)) ++ cellsOf cE (es.drop k)).drop (k * 2 + 2) = cellsOf cE (es.drop k) := by
    rw [show k * 2 + 2 = ((cellsOf cE es ++ ys).take ((k + 1) * 2)).length from by rw [h2]; omega, List.drop_left]
  rw [h3, h4, cellsOf_append]
  show cellsOf cE (es.take k) ++ (cE x ++ cellsOf cE (es.drop k)) = cellsOf cE (es.take k) ++ cellsOf cE ([x] ++ es.drop k)
  rw [cellsOf_append, cellsOf_one]
set_option maxRecDepth 100000 in
set_option maxHeartbeats 8000000 in
theorem ins_end (W : World) (base : Nat) (v : Value) (es : List En) (h : W.ownsRow base tE 2 v es.length (cellsOf cE es)) (hbs : base ≤ W.heap.size) (hl : es.length ≤ 1099511627776) (q : Nat) (x : En) (hq : Blk W q tE (cE x)) :
    Calls Try.prog 69 #[v, .int .i64 (es.length : Int), .slice (some ⟨q, 0, none⟩) 1 1] W fun e w' => ∃ v', e = .returned v' ∧ w'.ownsRow base tE 2 v' (es.length + 1) (cellsOf cE (es ++ [x])) ∧ Below base W w' := by
  obtain ⟨i0, hi0, hiz0, hiz1, hiz2⟩ := info_parts infoE
  have hnew := news_blk hq
  have h0 := h
  have hx : ∃ A c, v = .slice A es.length c ∧ es.length ≤ c ∧ (A = none → c = 0) := by
    rcases h0.2 with ⟨rfl, hz⟩ | ⟨g, cap, cur, rfl, hg, _, h4, _⟩
    · exact ⟨none, 0, by rw [hz], by omega, fun _ => rfl⟩
    · exact ⟨_, cap, rfl, h4, fun e => by cases e⟩
  obtain ⟨A, c, rfl, hc, hA⟩ := hx
  have h1c : ∀ u ∈ cE x, u.oneCell' = true := fun u hu => oneE [x] u (by rw [cellsOf_one]; exact hu)
  have hB : ∀ r, (Value.slice A es.length c).ownBlock = some r → base ≤ r := fun r e => (own_typ h r e).1
  go_enter Try.func69, Try.ntmps69
  go_wp2_with (at_builtin; refine wpList_append_own _ rfl _ _ tL rfl base tE i0 _ 2 16 Try.underlying22 hi0 hiz0 hiz1 hiz2 rfl (by decide) _ es.length _ rfl h ⟨q, 0, none⟩ 1 1 (cE x) rfl rfl hnew h1c (by unfold maxLen; omega) (by omega) hbs ?_; intro v' w3 hown' hgrow _)
  all_goals
    go_ret
    rw [cellsOf_append, cellsOf_one]
    exact ⟨_, rfl, hown', (Below.refl base W).grown hgrow hbs (fun r e => hB r e)⟩
theorem own_at {w : World} {base g n cap : Nat} {e : TypeId} {xs : List Value} {size : Nat} (h : w.ownsRow base e size (.slice (some ⟨g, 0, none⟩) n cap) n xs) {j : Nat} {v : Value} (hj : xs[j]? = some v) : w.cell? ⟨g, j, none⟩ = some v := by
  have hl := (List.getElem?_eq_some_iff.1 hj).1
  have := h.cellAt j (by rw [← h.1]; exact hl)
  rw [this]; exact hj
theorem shape_blk {w : World} {b : Nat} {t : TypeId} {l : List Value} (h : Blk w b t l) : w.shape? b = some (t, l.length) := by
  have h' : w.heap[b]? = _ := h
  simp [World.shape?, h']
theorem own_shape {w : World} {base size g n cap : Nat} {e : TypeId} {xs : List Value} (h : w.ownsRow base e size (.slice (some ⟨g, 0, none⟩) n cap) n xs) : w.shape? g = some (e, cap * size) := by
  rcases h.2 with ⟨h1, _⟩ | ⟨g', cap', cur, h1, h2, h3, h4, h5, h6, h7⟩
  · cases h1
  · injection h1 with e1 e2 e3
    injection e1 with e1
    injection e1 with e1
    subst e1; subst e3
    simp [World.shape?, h3, h6]
set_option maxRecDepth 100000 in
set_option maxHeartbeats 8000000 in
theorem ins_room (W : World) (base g cap : Nat) (es : List En) (h : W.ownsRow base tE 2 (.slice (some ⟨g, 0, none⟩) es.length cap) es.length (cellsOf cE es)) (hg : base ≤ g) (hbs : base ≤ W.heap.size) (hl : es.length ≤ 1099511627776) (k : Nat) (hk : k < es.length) (hroom : es.length < cap) (hcm : cap ≤ maxLen) (q : Nat) (x : En) (hq : Blk W q tE (cE x)) (hqg : q ≠ g) :
    Calls Try.prog 69 #[.slice (some ⟨g, 0, none⟩) es.length cap, .int .i64 (k : Int), .slice (some ⟨q, 0, none⟩) 1 1] W fun e w' => ∃ v', e = .returned v' ∧ w'.ownsRow base tE 2 v' (es.length + 1) (cellsOf cE (es.take k ++ x :: es.drop k)) ∧ Below base W w' := by
  obtain ⟨i0, hi0, hiz0, hiz1, hiz2⟩ := info_parts infoE
  unfold maxLen at hcm
  obtain ⟨ys, hys, hext⟩ := own_ext h hroom
  have hel : (cellsOf cE es ++ ys).length = (es.length + 1) * 2 := hext.1
  have hov : ∀ lb cb, (callFunc 101 #[.slice (some ⟨q, 0, none⟩) 1 1, .slice (some ⟨g, (k + 1) * 2, none⟩) lb cb]).run Try.prog W = .ok (.value (.bool false)) W := fun lb cb => by
    rw [run_callFunc_extern (P := Try.prog) Try.func101 (by kernel_rfl) (by kernel_rfl) (by kernel_rfl) (e := Extern.SlicesOverlaps.overlaps #[tL, tL] #[4]) (by kernel_rfl),
      Lib.run_overlaps_apart W tL 4 tE Try.underlying22 2 (fun w => by simp [Go.sizeOf, typeInfo, hi0, hiz1]) ⟨q, 0, none⟩ ⟨g, (k + 1) * 2, none⟩ 1 1 lb cb hqg tE tE 2 (cap * 2) (shape_blk hq) (own_shape h) (by omega) (hq.frozen 0) (hq.frozen 2)]
    rfl
  have hdl : (cellsOf cE (es.drop k)).length = (es.length - k) * 2 := by rw [cellsOf_length cE_length, List.length_drop]
  have hat : ∀ j v, (cellsOf cE es)[j]? = some v → W.cell? ⟨g, j, none⟩ = some v := fun j v hj => own_at h hj
  have hcp1 : ∀ ty dc sc, (Builtin.copy_ #[tL, tL] ty #[.slice (some ⟨g, (k + 1) * 2, none⟩) (es.length - k) dc, .slice (some ⟨g, k * 2, none⟩) (es.length + 1 - k) sc]).run Try.prog W.drew = .ok (goInt ((es.length - k : Nat) : Int)) (W.drew.setCells g ((k + 1) * 2) (cellsOf cE (es.drop k))) := fun ty dc sc =>
    run_copy_any W.drew tL tL ty tE g ((k + 1) * 2) (es.length - k) dc ⟨g, k * 2, none⟩ (es.length + 1 - k) sc (cellsOf cE (es.drop k)) 2 (es.length - k) Try.underlying22 sizeE (by simp only [Nat.min_def]; split <;> omega) hdl
      (fun j v hj => by
        rw [addr_add]
        rw [← cellsOf_drop, List.getElem?_drop] at hj
        exact hat _ v hj)
      (fun j hj => by obtain ⟨z, hz⟩ := own_some hext (k := (k + 1) * 2 + j) (by omega); show (W.cell? _).isSome = true; rw [hz]; rfl)
      (fun j hj => own_frozen hext _) (oneE _)
  obtain ⟨W1, hW1⟩ : ∃ W1, W1 = W.drew.setCells g ((k + 1) * 2) (cellsOf cE (es.drop k)) := ⟨_, rfl⟩
  have hextd : W.drew.ownsRow base tE 2 (.slice (some ⟨g, 0, none⟩) (es.length + 1) cap) (es.length + 1) (cellsOf cE es ++ ys) := own_below hext ((Below.refl _ W).drew)
  have hst1 : W1.ownsRow base tE 2 (.slice (some ⟨g, 0, none⟩) (es.length + 1) cap) (es.length + 1) (setL (cellsOf cE es ++ ys) ((k + 1) * 2) (cellsOf cE (es.drop k))) := by rw [hW1]; exact ownsRow_storedL _ _ hextd
  have hs1l : (setL (cellsOf cE es ++ ys) ((k + 1) * 2) (cellsOf cE (es.drop k))).length = (es.length + 1) * 2 := by rw [setL_length, hel]
  have hq1 : ∀ j v, (cE x)[j]? = some v → W1.cell? ⟨q, j, none⟩ = some v := fun j v hj => by
    rw [hW1, World.cell?_setCells_out g _ _ _ ⟨q, j, none⟩ (fun e _ => absurd e hqg)]
    exact hq.cell hj
  have h1c : ∀ u ∈ cE x, u.oneCell' = true := fun u hu => oneE [x] u (by rw [cellsOf_one]; exact hu)
  have hcp2 : ∀ ty dc, (Builtin.copy_ #[tL, tL] ty #[.slice (some ⟨g, k * 2, none⟩) (es.length + 1 - k) dc, .slice (some ⟨q, 0, none⟩) 1 1]).run Try.prog W1 = .ok (goInt 1) (W1.setCells g (k * 2) (cE x)) := fun ty dc =>
    run_copy_any W1 tL tL ty tE g (k * 2) (es.length + 1 - k) dc ⟨q, 0, none⟩ 1 1 (cE x) 2 1 Try.underlying22 sizeE (by simp only [Nat.min_def]; split <;> omega) rfl
      (fun j v hj => by rw [addr_add, Nat.zero_add]; exact hq1 j v hj)
      (fun j hj => by rw [cE_length] at hj; obtain ⟨z, hz⟩ := own_some hst1 (k := k * 2 + j) (by omega); rw [hz]; rfl)
      (fun j hj => own_frozen hst1 _) h1c
  have hst2 := ownsRow_storedL (cE x) (k * 2) hst1
  rw [ins_row hk hys] at hst2
  have hB2 : Below base W (W1.setCells g (k * 2) (cE x)) := by
    rw [hW1]
    exact below_cells hg _ _ (below_cells hg _ _ ((Below.refl base W).drew))
  rw [← hW1] at hcp1
  have HST := Lib.hid hst2; have HB2 := Lib.hid hB2
  have hz2 : ((k : Int) == (es.length : Int)) = false := by rw [beq_eq_false_iff_ne]; omega
  have hb2 : ¬ (cap = k + 1) := by omega
  have hb4 : ¬ (cap = k) := by omega
  have hz3 : ¬ (cap : Int) < (es.length : Int) + 1 := by omega
  have hb3 : (k : Int) ≤ (es.length : Int) + 1 := by omega
  have hb5 : (k : Int) + 1 ≤ (es.length : Int) + 1 := by omega
  have hb6 : (es.length : Int) + 1 ≤ (cap : Int) := by omega
  have hb7 : (k : Int) ≤ (es.length : Int) := by omega
  clear hst2 hB2 hst1 hextd hext hel hs1l hq1 hat hdl h1c h hq hW1
  go_enter Try.func69, Try.ntmps69
  go_wp2_with (simp only [hov])
  have hw1 : IntKind.i64.wrap ((k : Int) + 1) = (k : Int) + 1 := by rw [IntKind.wrap_i64]; omega
  have hb1 : (0 : Int) ≤ (k : Int) + 1 := by omega
  have htn : ((k : Int) + 1).toNat = k + 1 := by omega
  go_region_law (refine step_copy_runI rfl _ _ tL tL rfl _ _ (by simp [Act.eval, Act.put]) (by simp [Act.eval, Act.put]) (hcp1 _ _ _) ?_)
  go_wp2_with (at_builtin; refine wpList_copy_runI _ rfl _ _ tL tL rfl _ _ rfl rfl (hcp2 _ _) ?_)
  go_ret
  exact ⟨_, rfl, HST.out, HB2.out⟩

theorem ins_row2 {es : List En} {k : Nat} {x : En} {Z : List Value} (hk : k < es.length) (hZ : Z.length = (es.length + 1 - k) * 2) :
    setL (setL (cellsOf cE (es.take k) ++ Z) (k * 2) (cE x)) ((k + 1) * 2) (cellsOf cE (es.drop k)) = cellsOf cE (es.take k ++ x :: es.drop k) := by
  have hl : (cellsOf cE (es.take k)).length = k * 2 := by rw [cellsOf_length cE_length, List.length_take]; omega
  have hd : (cellsOf cE (es.drop k)).length = (es.length - k) * 2 := by rw [cellsOf_length cE_length, List.length_drop]
  have hA : (cellsOf cE (es.take k) ++ Z).length = (es.length + 1) * 2 := by rw [List.length_append, hl, hZ]; omega
  rw [setL_eq (cE x) _ _ (by rw [cE_length, hA]; omega), cE_length]
  have h1 : (cellsOf cE (es.take k) ++ Z).take (k * 2) = cellsOf cE (es.take k) := by rw [← hl, List.take_left]
  rw [h1]
  have h2 : ((cellsOf cE (es.take k) ++ Z).drop (k * 2 + 2)).length = (es.length - k) * 2 := by rw [List.length_drop, hA]; omega
  have h3 : (cellsOf cE (es.take k) ++ cE x).length = (k + 1) * 2 := by rw [List.length_append, hl, cE_length]; omega
  rw [← List.append_assoc, setL_eq _ _ _ (by rw [List.length_append, h3, h2, hd]; omega), ← h3, List.take_left, h3]
  have h4 : (cellsOf cE (es.take k) ++ cE x ++ (cellsOf cE (es.take k) ++ Z).drop (k * 2 + 2)).drop ((k + 1) * 2 + (cellsOf cE (es.drop k)).length) = [] := List.drop_eq_nil_of_le (by rw [List.length_append, h3, h2, hd]; omega)
  rw [h4, List.append_nil, cellsOf_append]
  show cellsOf cE (es.take k) ++ cE x ++ cellsOf cE (es.drop k) = cellsOf cE (es.take k) ++ cellsOf cE ([x] ++ es.drop k)
  rw [cellsOf_append, cellsOf_one, List.append_assoc]
set_option maxRecDepth 100000 in
set_option maxHeartbeats 8000000 in
theorem ins_grow (W : World) (base g cap : Nat) (es : List En) (h : W.ownsRow base tE 2 (.slice (some ⟨g, 0, none⟩) es.length cap) es.length (cellsOf cE es)) (hbs : base ≤ W.heap.size) (hl : es.length ≤ 1099511627776) (k : Nat) (hk : k < es.length) (hroom : cap < es.length + 1) (hnc : es.length ≤ cap) (q : Nat) (x : En) (hq : Blk W q tE (cE x)) :
    Calls Try.prog 69 #[.slice (some ⟨g, 0, none⟩) es.length cap, .int .i64 (k : Int), .slice (some ⟨q, 0, none⟩) 1 1] W fun e w' => ∃ v', e = .returned v' ∧ w'.ownsRow base tE 2 v' (es.length + 1) (cellsOf cE (es.take k ++ x :: es.drop k)) ∧ Below base W w' := by
  obtain ⟨i0, hi0, hiz0, hiz1, hiz2⟩ := info_parts infoE
  have hat : ∀ j v, (cellsOf cE es)[j]? = some v → W.cell? ⟨g, j, none⟩ = some v := fun j v hj => own_at h hj
  have hgw : g < W.heap.size := (h.lt g rfl).2
  have hqw := hq.lt
  have htk : (cellsOf cE (es.take k)).length = k * 2 := by rw [cellsOf_length cE_length, List.length_take]; omega
  have hdl : (cellsOf cE (es.drop k)).length = (es.length - k) * 2 := by rw [cellsOf_length cE_length, List.length_drop]
  have hold : (Builtin.firstCells i0.size k (.slice (some ⟨g, 0, none⟩) k cap)).run Try.prog W.drew = .ok (cellsOf cE (es.take k)).toArray W.drew :=
    run_firstCells_some (P := Try.prog) W.drew i0.size k ⟨g, 0, none⟩ k cap (cellsOf cE (es.take k)) (by rw [hiz1]; exact htk) (fun j v hj => by
      rw [addr_add, Nat.zero_add]
      rw [← cellsOf_take cE_length, List.getElem?_take] at hj
      split at hj
      · exact hat j v hj
      · cases hj)
  have hkk : (es.length : Int) + 1 - (k : Int) = ((es.length + 1 - k : Nat) : Int) := by omega
  have hik : k + (es.length + 1 - k) = es.length + 1 := by omega
  have hrz : ∀ ty, (Builtin.append_ #[tL, 3] ty #[.slice (some ⟨g, 0, none⟩) k cap, .int .i64 ((es.length : Int) + 1 - (k : Int))]).run Try.prog W =
      .ok (.slice (some ⟨W.heap.size, 0, none⟩) (es.length + 1) (grownCap W (es.length + 1) cap tE)) (W.drew.alloc (.cells ((cellsOf cE (es.take k)).toArray ++ Builtin.zeroCells zeroE.cells (es.length + 1 - k) ++ Builtin.zeroCells zeroE.cells (grownCap W (es.length + 1) cap tE - (es.length + 1))) tE)) := fun ty => by
    have h := Lib.run_append_grow_zeros (P := Try.prog) W tL 3 ty tE i0 zeroE .i64 .i64 Try.underlying22 Try.underlying3 hi0 hiz0 (some ⟨g, 0, none⟩) k cap (cellsOf cE (es.take k)) hold (es.length + 1 - k) (by omega) (by omega) (by omega) (by omega) (by rw [hiz2]; omega) (by rw [hiz2, hik]; exact growslice_fits hroom (by omega))
    rw [hik] at h
    rw [hkk]
    exact h
  obtain ⟨G, hG⟩ : ∃ G, G = grownCap W (es.length + 1) cap tE := ⟨_, rfl⟩
  obtain ⟨hz1, hzo⟩ := zerosE (es.length + 1 - k)
  obtain ⟨hz2, _⟩ := zerosE (G - (es.length + 1))
  obtain ⟨Z1, hZ1⟩ : ∃ Z, Z = Builtin.zeroCells zeroE.cells (es.length + 1 - k) := ⟨_, rfl⟩
  obtain ⟨Z2, hZ2⟩ : ∃ Z, Z = Builtin.zeroCells zeroE.cells (G - (es.length + 1)) := ⟨_, rfl⟩
  obtain ⟨ROW, hROW⟩ : ∃ ROW : Array Value, ROW = (cellsOf cE (es.take k)).toArray ++ Z1 ++ Z2 := ⟨_, rfl⟩
  have hGn : es.length + 1 ≤ G := by rw [hG]; exact grownCap_ge W _ _ _
  have hGm : G ≤ maxLen := by rw [hG]; exact grownCap_le_maxLen W (es.length + 1) cap tE (by unfold maxLen; omega)
  rw [← hG] at hrz
  rw [← hZ1, ← hZ2, ← hROW] at hrz
  rw [← hZ1] at hz1
  rw [← hZ2] at hz2
  obtain ⟨W1, hW1⟩ : ∃ W1, W1 = W.drew.alloc (.cells ROW tE) := ⟨_, rfl⟩
  rw [← hW1] at hrz
  have hown : W1.ownsRow base tE 2 (.slice (some ⟨W.heap.size, 0, none⟩) (es.length + 1) G) (es.length + 1) (cellsOf cE (es.take k) ++ Z1.toList) := by
    refine ⟨by rw [List.length_append, htk, hz1]; omega, .inr ⟨W.heap.size, G, ROW, rfl, hbs, ?_, hGn, hGm, ?_, ?_⟩⟩
    · rw [hW1]; exact World.alloc_heap_new W.drew _
    · rw [hROW]
      have e1 := hz1; have e2 := hz2
      rw [Array.length_toList] at e1 e2
      simp [htk, e1, e2]
      omega
    · rw [hROW, Array.toList_append, Array.toList_append, show (cellsOf cE (es.take k)).toArray.toList = cellsOf cE (es.take k) from rfl]
      rw [show (es.length + 1) * 2 = (cellsOf cE (es.take k) ++ Z1.toList).length from by rw [List.length_append, htk, hz1]; omega, List.take_left]
  have hB1 : Below base W W1 := by rw [hW1]; exact (((Below.refl base W).drew).alloc hbs _)
  have hOb : ∀ j v, W.cell? ⟨g, j, none⟩ = some v → W1.cell? ⟨g, j, none⟩ = some v := fun j v h => by rw [hW1, World.cell?_alloc_past (w := W.drew) _ g j hgw]; exact h
  have hOv : ∀ j v, W.cell? ⟨q, j, none⟩ = some v → W1.cell? ⟨q, j, none⟩ = some v := fun j v h => by rw [hW1, World.cell?_alloc_past (w := W.drew) _ q j hqw]; exact h
  have h1c : ∀ u ∈ cE x, u.oneCell' = true := fun u hu => oneE [x] u (by rw [cellsOf_one]; exact hu)
  have hst1 := ownsRow_storedL (cE x) (k * 2) hown
  have hst2 := ownsRow_storedL (cellsOf cE (es.drop k)) ((k + 1) * 2) hst1
  rw [ins_row2 hk (by rw [hz1])] at hst2
  have hcpA : ∀ (V : World), (∀ x, V.cell? x = W1.cell? x) → (∀ x, V.frozen? x = W1.frozen? x) → ∀ ty dc, (Builtin.copy_ #[tL, tL] ty #[.slice (some ⟨W.heap.size, k * 2, none⟩) (es.length + 1 - k) dc, .slice (some ⟨q, 0, none⟩) 1 1]).run Try.prog V = .ok (goInt 1) (V.setCells W.heap.size (k * 2) (cE x)) := fun V hVc hVf ty dc =>
    run_copy_any V tL tL ty tE W.heap.size (k * 2) (es.length + 1 - k) dc ⟨q, 0, none⟩ 1 1 (cE x) 2 1 Try.underlying22 sizeE (by simp only [Nat.min_def]; split <;> omega) rfl
      (fun j v hj => by rw [addr_add, Nat.zero_add, hVc]; exact hOv _ v (hq.cell hj))
      (fun j hj => by rw [cE_length] at hj; obtain ⟨z, hz⟩ := own_some hown (k := k * 2 + j) (by rw [hown.1]; omega); rw [hVc, hz]; rfl)
      (fun j hj => by rw [hVf]; exact own_frozen hown _) h1c
  have hbN : g ≠ W.heap.size := by omega
  have hcpB : ∀ (V : World), (∀ y, V.cell? y = (W1.setCells W.heap.size (k * 2) (cE x)).cell? y) → (∀ y, V.frozen? y = (W1.setCells W.heap.size (k * 2) (cE x)).frozen? y) → ∀ ty dc sc, (Builtin.copy_ #[tL, tL] ty #[.slice (some ⟨W.heap.size, (k + 1) * 2, none⟩) (es.length - k) dc, .slice (some ⟨g, k * 2, none⟩) (es.length - k) sc]).run Try.prog V = .ok (goInt ((es.length - k : Nat) : Int)) (V.setCells W.heap.size ((k + 1) * 2) (cellsOf cE (es.drop k))) := fun V hVc hVf ty dc sc =>
    run_copy_any V tL tL ty tE W.heap.size ((k + 1) * 2) (es.length - k) dc ⟨g, k * 2, none⟩ (es.length - k) sc (cellsOf cE (es.drop k)) 2 (es.length - k) Try.underlying22 sizeE (by simp only [Nat.min_def]; split <;> omega) hdl
      (fun j v hj => by
        rw [addr_add, hVc, World.cell?_setCells_out _ _ _ _ _ (fun e _ => absurd e hbN)]
        rw [← cellsOf_drop, List.getElem?_drop] at hj
        exact hOb _ v (hat _ v hj))
      (fun j hj => by obtain ⟨z, hz⟩ := own_some hst1 (k := (k + 1) * 2 + j) (by rw [hst1.1]; omega); rw [hVc, hz]; rfl)
      (fun j hj => by rw [hVf]; exact own_frozen hst1 _) (oneE _)
  have hB2 : Below base W ((W1.setCells W.heap.size (k * 2) (cE x)).setCells W.heap.size ((k + 1) * 2) (cellsOf cE (es.drop k))) := below_cells hbs _ _ (below_cells hbs _ _ hB1)
  have HST := Lib.hid hst2; have HB2 := Lib.hid hB2
  have hz3 : (cap : Int) < (es.length : Int) + 1 := by omega
  have hzz : ((k : Int) == (es.length : Int)) = false := by rw [beq_eq_false_iff_ne]; omega
  have hGi : ¬ (G = k) := by omega
  have hGim : ¬ (G = k + 1) := by omega
  have hci : ¬ (cap = k) := by omega
  have hb7 : (k : Int) ≤ (es.length : Int) := by omega
  have hb3 : (k : Int) ≤ (cap : Int) := by omega
  have hb8 : (k : Int) ≤ (es.length : Int) + 1 := by omega
  have hw1 : IntKind.i64.wrap ((k : Int) + 1) = (k : Int) + 1 := by rw [IntKind.wrap_i64]; omega
  have hb1 : (0 : Int) ≤ (k : Int) + 1 := by omega
  have htn : ((k : Int) + 1).toNat = k + 1 := by omega
  subst hW1
  have hE1 : ∀ x, ((W.alloc (.cells ROW tE)).drew).cell? x = (W.drew.alloc (.cells ROW tE)).cell? x := fun x => rfl
  have hE2 : ∀ x, ((W.alloc (.cells ROW tE)).drew).frozen? x = (W.drew.alloc (.cells ROW tE)).frozen? x := fun x => rfl
  have hF1 : ∀ y, (((W.alloc (.cells ROW tE)).drew.setCells W.heap.size (k * 2) (cE x)).drew).cell? y = ((W.drew.alloc (.cells ROW tE)).setCells W.heap.size (k * 2) (cE x)).cell? y := fun y => rfl
  have hF2 : ∀ y, (((W.alloc (.cells ROW tE)).drew.setCells W.heap.size (k * 2) (cE x)).drew).frozen? y = ((W.drew.alloc (.cells ROW tE)).setCells W.heap.size (k * 2) (cE x)).frozen? y := fun y => rfl
  clear hst2 hB2 hst1 hown hat hold hOb hOv h1c hB1 hROW hZ1 hZ2 hz1 hz2 hzo hkk hik htk hdl h hq hG hGm
  go_enter Try.func69, Try.ntmps69
  go_wp2_with (first
    | (at_builtin; refine Lib.wpList_append_run _ rfl _ _ _ _ rfl _ _ rfl rfl _ _ (hrz _) ?_)
    | (at_builtin; refine wpList_copy_runI _ rfl _ _ tL tL rfl _ _ rfl rfl (hcpA _ hE1 hE2 _ _) ?_))
  go_region_law (refine step_copy_runI rfl _ _ tL tL rfl (.slice (some ⟨W.heap.size, (k + 1) * 2, none⟩) (es.length - k) (G - (k + 1))) (.slice (some ⟨g, k * 2, none⟩) (es.length - k) (cap - k)) (by simp [Act.eval, Act.put]) (by simp [Act.eval, Act.put]) (hcpB _ hF1 hF2 _ _ _) ?_)
  go_wp2
  go_ret
  refine ⟨_, rfl, ?_, ?_⟩
  · rw [← drew_setCells]
    exact own_below HST.out ((Below.refl _ _).drew)
  · rw [← drew_setCells]
    exact HB2.out.drew
/-- slices.Insert of one entry -/
theorem ins_any (W : World) (base : Nat) (v : Value) (es : List En) (h : W.ownsRow base tE 2 v es.length (cellsOf cE es)) (hbs : base ≤ W.heap.size) (hl : es.length ≤ 1099511627776) (k : Nat) (hk : k ≤ es.length) (q : Nat) (x : En) (hq : Blk W q tE (cE x)) (hqv : v.ownBlock ≠ some q) :
    Calls Try.prog 69 #[v, .int .i64 (k : Int), .slice (some ⟨q, 0, none⟩) 1 1] W fun e w' => ∃ v', e = .returned v' ∧ w'.ownsRow base tE 2 v' (es.length + 1) (cellsOf cE (es.take k ++ x :: es.drop k)) ∧ Below base W w' := by
  by_cases hke : k = es.length
  · subst hke
    rw [List.take_length, List.drop_length]
    exact ins_end W base v es h hbs hl q x hq
  · have h0 := h
    rcases h0.2 with ⟨rfl, hz⟩ | ⟨g, cap, cur, rfl, hg, _, hc, hcm, _⟩
    · omega
    · by_cases hr : es.length < cap
      · exact ins_room W base g cap es h hg hbs hl k (by omega) hr hcm q x hq (fun e => hqv (by rw [e]; rfl))
      · exact ins_grow W base g cap es h hbs hl k (by omega) (by omega) hc q x hq

end Go.Proofs.Ytnlhgnioedalpaa.Pri
