/- PriI, PriP, laid together. -/
import Derived.Test.YtnlhgnioedalpaaGr04
import Derived.Shelf.Spec.SlicesInsertGrow
import Derived.Deep.RegionHeld3

/- price: one entry put in (slices.Insert). -/
set_option linter.unusedSimpArgs false
set_option linter.unusedVariables false
namespace Go.Proofs.Ytnlhgnioedalpaa.Pri
open Go.RowKit Go.Proofs.YtnlhgnioedalpaaW.PrintWords Go.Proofs.Ytnlhgnioedalpaa.PPricePlays
attribute [local go_sem] Oper.semAt_some

/-- 'copy(d, s)', elements of any size, where the cells that go over are known -/
theorem run_copy_any {P : Program} (w : World) (dT sT ty elem : TypeId) (b o dLen dCap : Nat) (a : Addr) (sLen sCap : Nat) (cs : List Value) (size m : Nat)
    (hu : P.underlying dT = some (.slice elem)) (hs : (P.info? elem).map (·.size) = some size) (hm : m = Nat.min sLen dLen) (hn : cs.length = m * size)
    (hsrc : ∀ j v, cs[j]? = some v → w.cell? (a.add j) = some v) (hc : ∀ j, j < cs.length → (w.cell? ⟨b, o + j, none⟩).isSome = true) (hf : ∀ j, j < cs.length → w.frozen? ⟨b, o + j, none⟩ = false) (h1 : ∀ v ∈ cs, v.oneCell' = true) :
    (Builtin.copy_ #[dT, sT] ty #[.slice (some ⟨b, o, none⟩) dLen dCap, .slice (some a) sLen sCap]).run P w = .ok (goInt m) (w.setCells b o cs) := by
  have hl := run_loadCells_list (P := P) w a cs hsrc
  have hst := run_storeCells_cells (P := P) b o cs 0 w (by simpa using hc) (by simpa using hf) h1
  cases hq : P.info? elem with
  | none => simp [hq] at hs
  | some i =>
    have hi : i.size = size := by simpa [hq] using hs
    rw [hn] at hl
    simp [Builtin.copy_, run_underlying hu, Builtin.lenOf, Builtin.firstCells, sizeOf, typeInfo, hq, hi, ← hm, hl, hst]
theorem sizeE : (Try.prog.info? 41).map (·.size) = some 2 := by kernel_rfl
theorem oneE (es : List En) : ∀ u ∈ cellsOf cE es, u.oneCell' = true := fun u hu => by
  obtain ⟨x, _, hx⟩ := List.mem_flatMap.1 hu
  simp [cE] at hx
  rcases hx with rfl | rfl <;> rfl
theorem cellsOf_drop (es : List En) (k : Nat) : (cellsOf cE es).drop (k * 2) = cellsOf cE (es.drop k) := by
  have h := cellsOf_take cE_length es k
  have e : cellsOf cE es = cellsOf cE (es.take k) ++ cellsOf cE (es.drop k) := by rw [← cellsOf_append, List.take_append_drop]
  by_cases hk : k ≤ es.length
  · rw [e, List.drop_append_of_le_length (by rw [cellsOf_length cE_length, List.length_take]; omega), List.drop_eq_nil_of_le (by rw [cellsOf_length cE_length, List.length_take]; omega), List.nil_append]
  · rw [List.drop_eq_nil_of_le (by rw [cellsOf_length cE_length]; omega), List.drop_eq_nil_of_le (by omega)]
    rfl
/-- room for one more is taken -/
theorem own_ext {w : World} {base size g n cap : Nat} {e : TypeId} {xs : List Value} (h : w.ownsRow base e size (.slice (some ⟨g, 0, none⟩) n cap) n xs) (hr : n < cap) : ∃ ys : List Value, ys.length = size ∧ w.ownsRow base e size (.slice (some ⟨g, 0, none⟩) (n + 1) cap) (n + 1) (xs ++ ys) := by
  rcases h.2 with ⟨h1, _⟩ | ⟨g', cap', cur, h1, h2, h3, h4, h5, h6, h7⟩
  · cases h1
  · injection h1 with e1 e2 e3
    injection e1 with e1
    injection e1 with e1
    subst e1; subst e3
    have hm : (n + 1) * size ≤ cap * size := Nat.mul_le_mul_right _ hr
    have hx : (n + 1) * size = n * size + size := by rw [Nat.add_mul, Nat.one_mul]
    have hcl : cur.toList.length = cap * size := by rw [Array.length_toList, h6]
    refine ⟨(cur.toList.drop (n * size)).take size, by rw [List.length_take, List.length_drop, hcl]; omega, by rw [List.length_append, List.length_take, List.length_drop, hcl, h.1]; omega, .inr ⟨g, cap, cur, rfl, h2, h3, hr, h5, h6, ?_⟩⟩
    rw [hx, List.take_add, h7]
/-- the row behind both copies -/
theorem ins_row {es : List En} {k : Nat} {x : En} {ys : List Value} (hk : k < es.length) (hy : ys.length = 2) :
    setL (setL (cellsOf cE es ++ ys) ((k + 1) * 2) (cellsOf cE (es.drop k))) (k * 2) (cE x) = cellsOf cE (es.take k ++ x :: es.drop k) := by
  have hl := cellsOf_length cE_length es
  have hd : (cellsOf cE (es.drop k)).length = (es.length - k) * 2 := by rw [cellsOf_length cE_length, List.length_drop]
  have hA : (cellsOf cE es ++ ys).length = (es.length + 1) * 2 := by rw [List.length_append, hl, hy]; omega
  rw [setL_eq (cellsOf cE (es.drop k)) _ _ (by rw [hd, hA]; omega)]
  have h1 : (cellsOf cE es ++ ys).drop ((k + 1) * 2 + (cellsOf cE (es.drop k)).length) = [] := List.drop_eq_nil_of_le (by rw [hd, hA]; omega)
  rw [h1, List.append_nil]
  have h2 : ((cellsOf cE es ++ ys).take ((k + 1) * 2)).length = (k + 1) * 2 := by rw [List.length_take, hA]; omega
  rw [setL_eq (cE x) _ _ (by rw [List.length_append, h2, hd, cE_length]; omega), cE_length]
  have h3 : (((cellsOf cE es ++ ys).take ((k + 1) * 2)) ++ cellsOf cE (es.drop k)).take (k * 2) = cellsOf cE (es.take k) := by
    rw [List.take_append_of_le_length (by rw [h2]; omega), List.take_take, Nat.min_eq_left (by omega), List.take_append_of_le_length (by rw [hl]; omega), cellsOf_take cE_length]
  have h4 : (((cellsOf cE es ++ ys).take ((k + 1) * 2)) ++ cellsOf cE (es.drop k)).drop (k * 2 + 2) = cellsOf cE (es.drop k) := by
    rw [show k * 2 + 2 = ((cellsOf cE es ++ ys).take ((k + 1) * 2)).length from by rw [h2]; omega, List.drop_left]
  rw [h3, h4, cellsOf_append]
  show cellsOf cE (es.take k) ++ (cE x ++ cellsOf cE (es.drop k)) = cellsOf cE (es.take k) ++ cellsOf cE ([x] ++ es.drop k)
  rw [cellsOf_append, cellsOf_one]
set_option maxRecDepth 100000 in
set_option maxHeartbeats 8000000 in
theorem ins_end (W : World) (base : Nat) (v : Value) (es : List En) (h : W.ownsRow base tE 2 v es.length (cellsOf cE es)) (hbs : base ≤ W.heap.size) (hl : es.length ≤ 1099511627776) (q : Nat) (x : En) (hq : Blk W q tE (cE x)) :
    Calls Try.prog 69 #[v, .int .i64 (es.length : Int), .slice (some ⟨q, 0, none⟩) 1 1] W fun e w' => ∃ v', e = .returned v' ∧ w'.ownsRow base tE 2 v' (es.length + 1) (cellsOf cE (es ++ [x])) ∧ Below base W w' := by
  obtain ⟨i0, hi0, hiz0, hiz1, hiz2⟩ := info_parts infoE
  have hnew := news_blk hq
  have h0 := h
  have hx : ∃ A c, v = .slice A es.length c ∧ es.length ≤ c ∧ (A = none → c = 0) := by
    rcases h0.2 with ⟨rfl, hz⟩ | ⟨g, cap, cur, rfl, hg, _, h4, _⟩
    · exact ⟨none, 0, by rw [hz], by omega, fun _ => rfl⟩
    · exact ⟨_, cap, rfl, h4, fun e => by cases e⟩
  obtain ⟨A, c, rfl, hc, hA⟩ := hx
  have h1c : ∀ u ∈ cE x, u.oneCell' = true := fun u hu => oneE [x] u (by rw [cellsOf_one]; exact hu)
  have hB : ∀ r, (Value.slice A es.length c).ownBlock = some r → base ≤ r := fun r e => (own_typ h r e).1
  go_enter Try.func69, Try.ntmps69
  go_wp2_with (at_builtin; refine wpList_append_own _ rfl _ _ tL rfl base tE i0 _ 2 16 Try.underlying22 hi0 hiz0 hiz1 hiz2 rfl (by decide) _ es.length _ rfl h ⟨q, 0, none⟩ 1 1 (cE x) rfl rfl hnew h1c (by unfold maxLen; omega) (by omega) hbs ?_; intro v' w3 hown' hgrow _)
  all_goals
    go_ret
    rw [cellsOf_append, cellsOf_one]
    exact ⟨_, rfl, hown', (Below.refl base W).grown hgrow hbs (fun r e => hB r e)⟩
theorem own_at {w : World} {base g n cap : Nat} {e : TypeId} {xs : List Value} {size : Nat} (h : w.ownsRow base e size (.slice (some ⟨g, 0, none⟩) n cap) n xs) {j : Nat} {v : Value} (hj : xs[j]? = some v) : w.cell? ⟨g, j, none⟩ = some v := by
  have hl := (List.getElem?_eq_some_iff.1 hj).1
  have := h.cellAt j (by rw [← h.1]; exact hl)
  rw [this]; exact hj
theorem shape_blk {w : World} {b : Nat} {t : TypeId} {l : List Value} (h : Blk w b t l) : w.shape? b = some (t, l.length) := by
  have h' : w.heap[b]? = _ := h
  simp [World.shape?, h']
theorem own_shape {w : World} {base size g n cap : Nat} {e : TypeId} {xs : List Value} (h : w.ownsRow base e size (.slice (some ⟨g, 0, none⟩) n cap) n xs) : w.shape? g = some (e, cap * size) := by
  rcases h.2 with ⟨h1, _⟩ | ⟨g', cap', cur, h1, h2, h3, h4, h5, h6, h7⟩
  · cases h1
  · injection h1 with e1 e2 e3
    injection e1 with e1
    injection e1 with e1
    subst e1; subst e3
    simp [World.shape?, h3, h6]
set_option maxRecDepth 100000 in
set_option maxHeartbeats 8000000 in
theorem ins_room (W : World) (base g cap : Nat) (es : List En) (h : W.ownsRow base tE 2 (.slice (some ⟨g, 0, none⟩) es.length cap) es.length (cellsOf cE es)) (hg : base ≤ g) (hbs : base ≤ W.heap.size) (hl : es.length ≤ 1099511627776) (k : Nat) (hk : k < es.length) (hroom : es.length < cap) (hcm : cap ≤ maxLen) (q : Nat) (x : En) (hq : Blk W q tE (cE x)) (hqg : q ≠ g) :
    Calls Try.prog 69 #[.slice (some ⟨g, 0, none⟩) es.length cap, .int .i64 (k : Int), .slice (some ⟨q, 0, none⟩) 1 1] W fun e w' => ∃ v', e = .returned v' ∧ w'.ownsRow base tE 2 v' (es.length + 1) (cellsOf cE (es.take k ++ x :: es.drop k)) ∧ Below base W w' := by
  obtain ⟨i0, hi0, hiz0, hiz1, hiz2⟩ := info_parts infoE
  unfold maxLen at hcm
  obtain ⟨ys, hys, hext⟩ := own_ext h hroom
  have hel : (cellsOf cE es ++ ys).length = (es.length + 1) * 2 := hext.1
  have hov : ∀ lb cb, (callFunc 101 #[.slice (some ⟨q, 0, none⟩) 1 1, .slice (some ⟨g, (k + 1) * 2, none⟩) lb cb]).run Try.prog W = .ok (.value (.bool false)) W := fun lb cb => by
    rw [run_callFunc_extern (P := Try.prog) Try.func101 (by kernel_rfl) (by kernel_rfl) (by kernel_rfl) (e := Extern.SlicesOverlaps.overlaps #[tL, tL] #[4]) (by kernel_rfl),
      Lib.run_overlaps_apart W tL 4 tE Try.underlying22 2 (fun w => by simp [Go.sizeOf, typeInfo, hi0, hiz1]) ⟨q, 0, none⟩ ⟨g, (k + 1) * 2, none⟩ 1 1 lb cb hqg tE tE 2 (cap * 2) (shape_blk hq) (own_shape h) (by omega) (hq.frozen 0) (hq.frozen 2)]
    rfl
  have hdl : (cellsOf cE (es.drop k)).length = (es.length - k) * 2 := by rw [cellsOf_length cE_length, List.length_drop]
  have hat : ∀ j v, (cellsOf cE es)[j]? = some v → W.cell? ⟨g, j, none⟩ = some v := fun j v hj => own_at h hj
  have hcp1 : ∀ ty dc sc, (Builtin.copy_ #[tL, tL] ty #[.slice (some ⟨g, (k + 1) * 2, none⟩) (es.length - k) dc, .slice (some ⟨g, k * 2, none⟩) (es.length + 1 - k) sc]).run Try.prog W.drew = .ok (goInt ((es.length - k : Nat) : Int)) (W.drew.setCells g ((k + 1) * 2) (cellsOf cE (es.drop k))) := fun ty dc sc =>
    run_copy_any W.drew tL tL ty tE g ((k + 1) * 2) (es.length - k) dc ⟨g, k * 2, none⟩ (es.length + 1 - k) sc (cellsOf cE (es.drop k)) 2 (es.length - k) Try.underlying22 sizeE (by simp only [Nat.min_def]; split <;> omega) hdl
      (fun j v hj => by
        rw [addr_add]
        rw [← cellsOf_drop, List.getElem?_drop] at hj
        exact hat _ v hj)
      (fun j hj => by obtain ⟨z, hz⟩ := own_some hext (k := (k + 1) * 2 + j) (by omega); show (W.cell? _).isSome = true; rw [hz]; rfl)
      (fun j hj => own_frozen hext _) (oneE _)
  obtain ⟨W1, hW1⟩ : ∃ W1, W1 = W.drew.setCells g ((k + 1) * 2) (cellsOf cE (es.drop k)) := ⟨_, rfl⟩
  have hextd : W.drew.ownsRow base tE 2 (.slice (some ⟨g, 0, none⟩) (es.length + 1) cap) (es.length + 1) (cellsOf cE es ++ ys) := own_below hext ((Below.refl _ W).drew)
  have hst1 : W1.ownsRow base tE 2 (.slice (some ⟨g, 0, none⟩) (es.length + 1) cap) (es.length + 1) (setL (cellsOf cE es ++ ys) ((k + 1) * 2) (cellsOf cE (es.drop k))) := by rw [hW1]; exact ownsRow_storedL _ _ hextd
  have hs1l : (setL (cellsOf cE es ++ ys) ((k + 1) * 2) (cellsOf cE (es.drop k))).length = (es.length + 1) * 2 := by rw [setL_length, hel]
  have hq1 : ∀ j v, (cE x)[j]? = some v → W1.cell? ⟨q, j, none⟩ = some v := fun j v hj => by
    rw [hW1, World.cell?_setCells_out g _ _ _ ⟨q, j, none⟩ (fun e _ => absurd e hqg)]
    exact hq.cell hj
  have h1c : ∀ u ∈ cE x, u.oneCell' = true := fun u hu => oneE [x] u (by rw [cellsOf_one]; exact hu)
  have hcp2 : ∀ ty dc, (Builtin.copy_ #[tL, tL] ty #[.slice (some ⟨g, k * 2, none⟩) (es.length + 1 - k) dc, .slice (some ⟨q, 0, none⟩) 1 1]).run Try.prog W1 = .ok (goInt 1) (W1.setCells g (k * 2) (cE x)) := fun ty dc =>
    run_copy_any W1 tL tL ty tE g (k * 2) (es.length + 1 - k) dc ⟨q, 0, none⟩ 1 1 (cE x) 2 1 Try.underlying22 sizeE (by simp only [Nat.min_def]; split <;> omega) rfl
      (fun j v hj => by rw [addr_add, Nat.zero_add]; exact hq1 j v hj)
      (fun j hj => by rw [cE_length] at hj; obtain ⟨z, hz⟩ := own_some hst1 (k := k * 2 + j) (by omega); rw [hz]; rfl)
      (fun j hj => own_frozen hst1 _) h1c
  have hst2 := ownsRow_storedL (cE x) (k * 2) hst1
  rw [ins_row hk hys] at hst2
  have hB2 : Below base W (W1.setCells g (k * 2) (cE x)) := by
    rw [hW1]
    exact below_cells hg _ _ (below_cells hg _ _ ((Below.refl base W).drew))
  rw [← hW1] at hcp1
  have HST := Lib.hid hst2; have HB2 := Lib.hid hB2
  have hz2 : ((k : Int) == (es.length : Int)) = false := by rw [beq_eq_false_iff_ne]; omega
  have hb2 : ¬ (cap = k + 1) := by omega
  have hb4 : ¬ (cap = k) := by omega
  have hz3 : ¬ (cap : Int) < (es.length : Int) + 1 := by omega
  have hb3 : (k : Int) ≤ (es.length : Int) + 1 := by omega
  have hb5 : (k : Int) + 1 ≤ (es.length : Int) + 1 := by omega
  have hb6 : (es.length : Int) + 1 ≤ (cap : Int) := by omega
  have hb7 : (k : Int) ≤ (es.length : Int) := by omega
  clear hst2 hB2 hst1 hextd hext hel hs1l hq1 hat hdl h1c h hq hW1
  go_enter Try.func69, Try.ntmps69
  go_wp2_with (simp only [hov])
  have hw1 : IntKind.i64.wrap ((k : Int) + 1) = (k : Int) + 1 := by rw [IntKind.wrap_i64]; omega
  have hb1 : (0 : Int) ≤ (k : Int) + 1 := by omega
  have htn : ((k : Int) + 1).toNat = k + 1 := by omega
  go_region_law (refine step_copy_runI rfl _ _ tL tL rfl _ _ (by simp [Act.eval, Act.put]) (by simp [Act.eval, Act.put]) (hcp1 _ _ _) ?_)
  go_wp2_with (at_builtin; refine wpList_copy_runI _ rfl _ _ tL tL rfl _ _ rfl rfl (hcp2 _ _) ?_)
  go_ret
  exact ⟨_, rfl, HST.out, HB2.out⟩

theorem ins_row2 {es : List En} {k : Nat} {x : En} {Z : List Value} (hk : k < es.length) (hZ : Z.length = (es.length + 1 - k) * 2) :
    setL (setL (cellsOf cE (es.take k) ++ Z) (k * 2) (cE x)) ((k + 1) * 2) (cellsOf cE (es.drop k)) = cellsOf cE (es.take k ++ x :: es.drop k) := by
  have hl : (cellsOf cE (es.take k)).length = k * 2 := by rw [cellsOf_length cE_length, List.length_take]; omega
  have hd : (cellsOf cE (es.drop k)).length = (es.length - k) * 2 := by rw [cellsOf_length cE_length, List.length_drop]
  have hA : (cellsOf cE (es.take k) ++ Z).length = (es.length + 1) * 2 := by rw [List.length_append, hl, hZ]; omega
  rw [setL_eq (cE x) _ _ (by rw [cE_length, hA]; omega), cE_length]
  have h1 : (cellsOf cE (es.take k) ++ Z).take (k * 2) = cellsOf cE (es.take k) := by rw [← hl, List.take_left]
  rw [h1]
  have h2 : ((cellsOf cE (es.take k) ++ Z).drop (k * 2 + 2)).length = (es.length - k) * 2 := by rw [List.length_drop, hA]; omega
  have h3 : (cellsOf cE (es.take k) ++ cE x).length = (k + 1) * 2 := by rw [List.length_append, hl, cE_length]; omega
  rw [← List.append_assoc, setL_eq _ _ _ (by rw [List.length_append, h3, h2, hd]; omega), ← h3, List.take_left, h3]
  have h4 : (cellsOf cE (es.take k) ++ cE x ++ (cellsOf cE (es.take k) ++ Z).drop (k * 2 + 2)).drop ((k + 1) * 2 + (cellsOf cE (es.drop k)).length) = [] := List.drop_eq_nil_of_le (by rw [List.length_append, h3, h2, hd]; omega)
  rw [h4, List.append_nil, cellsOf_append]
  show cellsOf cE (es.take k) ++ cE x ++ cellsOf cE (es.drop k) = cellsOf cE (es.take k) ++ cellsOf cE ([x] ++ es.drop k)
  rw [cellsOf_append, cellsOf_one, List.append_assoc]
set_option maxRecDepth 100000 in
set_option maxHeartbeats 8000000 in
theorem ins_grow (W : World) (base g cap : Nat) (es : List En) (h : W.ownsRow base tE 2 (.slice (some ⟨g, 0, none⟩) es.length cap) es.length (cellsOf cE es)) (hbs : base ≤ W.heap.size) (hl : es.length ≤ 1099511627776) (k : Nat) (hk : k < es.length) (hroom : cap < es.length + 1) (hnc : es.length ≤ cap) (q : Nat) (x : En) (hq : Blk W q tE (cE x)) :
    Calls Try.prog 69 #[.slice (some ⟨g, 0, none⟩) es.length cap, .int .i64 (k : Int), .slice (some ⟨q, 0, none⟩) 1 1] W fun e w' => ∃ v', e = .returned v' ∧ w'.ownsRow base tE 2 v' (es.length + 1) (cellsOf cE (es.take k ++ x :: es.drop k)) ∧ Below base W w' := by
  obtain ⟨i0, hi0, hiz0, hiz1, hiz2⟩ := info_parts infoE
  have hat : ∀ j v, (cellsOf cE es)[j]? = some v → W.cell? ⟨g, j, none⟩ = some v := fun j v hj => own_at h hj
  have hgw : g < W.heap.size := (h.lt g rfl).2
  have hqw := hq.lt
  have htk : (cellsOf cE (es.take k)).length = k * 2 := by rw [cellsOf_length cE_length, List.length_take]; omega
  have hdl : (cellsOf cE (es.drop k)).length = (es.length - k) * 2 := by rw [cellsOf_length cE_length, List.length_drop]
  have hold : (Builtin.firstCells i0.size k (.slice (some ⟨g, 0, none⟩) k cap)).run Try.prog W.drew = .ok (cellsOf cE (es.take k)).toArray W.drew :=
    run_firstCells_some (P := Try.prog) W.drew i0.size k ⟨g, 0, none⟩ k cap (cellsOf cE (es.take k)) (by rw [hiz1]; exact htk) (fun j v hj => by
      rw [addr_add, Nat.zero_add]
      rw [← cellsOf_take cE_length, List.getElem?_take] at hj
      split at hj
      · exact hat j v hj
      · cases hj)
  have hkk : (es.length : Int) + 1 - (k : Int) = ((es.length + 1 - k : Nat) : Int) := by omega
  have hik : k + (es.length + 1 - k) = es.length + 1 := by omega
  have hrz : ∀ ty, (Builtin.append_ #[tL, 3] ty #[.slice (some ⟨g, 0, none⟩) k cap, .int .i64 ((es.length : Int) + 1 - (k : Int))]).run Try.prog W =
      .ok (.slice (some ⟨W.heap.size, 0, none⟩) (es.length + 1) (grownCap W (es.length + 1) cap tE)) (W.drew.alloc (.cells ((cellsOf cE (es.take k)).toArray ++ Builtin.zeroCells zeroE.cells (es.length + 1 - k) ++ Builtin.zeroCells zeroE.cells (grownCap W (es.length + 1) cap tE - (es.length + 1))) tE)) := fun ty => by
    have h := Lib.run_append_grow_zeros (P := Try.prog) W tL 3 ty tE i0 zeroE .i64 .i64 Try.underlying22 Try.underlying3 hi0 hiz0 (some ⟨g, 0, none⟩) k cap (cellsOf cE (es.take k)) hold (es.length + 1 - k) (by omega) (by omega) (by omega) (by omega) (by rw [hiz2]; omega) (by rw [hiz2, hik]; exact growslice_fits hroom (by omega))
    rw [hik] at h
    rw [hkk]
    exact h
  obtain ⟨G, hG⟩ : ∃ G, G = grownCap W (es.length + 1) cap tE := ⟨_, rfl⟩
  obtain ⟨hz1, hzo⟩ := zerosE (es.length + 1 - k)
  obtain ⟨hz2, _⟩ := zerosE (G - (es.length + 1))
  obtain ⟨Z1, hZ1⟩ : ∃ Z, Z = Builtin.zeroCells zeroE.cells (es.length + 1 - k) := ⟨_, rfl⟩
  obtain ⟨Z2, hZ2⟩ : ∃ Z, Z = Builtin.zeroCells zeroE.cells (G - (es.length + 1)) := ⟨_, rfl⟩
  obtain ⟨ROW, hROW⟩ : ∃ ROW : Array Value, ROW = (cellsOf cE (es.take k)).toArray ++ Z1 ++ Z2 := ⟨_, rfl⟩
  have hGn : es.length + 1 ≤ G := by rw [hG]; exact grownCap_ge W _ _ _
  have hGm : G ≤ maxLen := by rw [hG]; exact grownCap_le_maxLen W (es.length + 1) cap tE (by unfold maxLen; omega)
  rw [← hG] at hrz
  rw [← hZ1, ← hZ2, ← hROW] at hrz
  rw [← hZ1] at hz1
  rw [← hZ2] at hz2
  obtain ⟨W1, hW1⟩ : ∃ W1, W1 = W.drew.alloc (.cells ROW tE) := ⟨_, rfl⟩
  rw [← hW1] at hrz
  have hown : W1.ownsRow base tE 2 (.slice (some ⟨W.heap.size, 0, none⟩) (es.length + 1) G) (es.length + 1) (cellsOf cE (es.take k) ++ Z1.toList) := by
    refine ⟨by rw [List.length_append, htk, hz1]; omega, .inr ⟨W.heap.size, G, ROW, rfl, hbs, ?_, hGn, hGm, ?_, ?_⟩⟩
    · rw [hW1]; exact World.alloc_heap_new W.drew _
    · rw [hROW]
      have e1 := hz1; have e2 := hz2
      rw [Array.length_toList] at e1 e2
      simp [htk, e1, e2]
      omega
    · rw [hROW, Array.toList_append, Array.toList_append, show (cellsOf cE (es.take k)).toArray.toList = cellsOf cE (es.take k) from rfl]
      rw [show (es.length + 1) * 2 = (cellsOf cE (es.take k) ++ Z1.toList).length from by rw [List.length_append, htk, hz1]; omega, List.take_left]
  have hB1 : Below base W W1 := by rw [hW1]; exact (((Below.refl base W).drew).alloc hbs _)
  have hOb : ∀ j v, W.cell? ⟨g, j, none⟩ = some v → W1.cell? ⟨g, j, none⟩ = some v := fun j v h => by rw [hW1, World.cell?_alloc_past (w := W.drew) _ g j hgw]; exact h
  have hOv : ∀ j v, W.cell? ⟨q, j, none⟩ = some v → W1.cell? ⟨q, j, none⟩ = some v := fun j v h => by rw [hW1, World.cell?_alloc_past (w := W.drew) _ q j hqw]; exact h
  have h1c : ∀ u ∈ cE x, u.oneCell' = true := fun u hu => oneE [x] u (by rw [cellsOf_one]; exact hu)
  have hst1 := ownsRow_storedL (cE x) (k * 2) hown
  have hst2 := ownsRow_storedL (cellsOf cE (es.drop k)) ((k + 1) * 2) hst1
  rw [ins_row2 hk (by rw [hz1])] at hst2
  have hcpA : ∀ (V : World), (∀ x, V.cell? x = W1.cell? x) → (∀ x, V.frozen? x = W1.frozen? x) → ∀ ty dc, (Builtin.copy_ #[tL, tL] ty #[.slice (some ⟨W.heap.size, k * 2, none⟩) (es.length + 1 - k) dc, .slice (some ⟨q, 0, none⟩) 1 1]).run Try.prog V = .ok (goInt 1) (V.setCells W.heap.size (k * 2) (cE x)) := fun V hVc hVf ty dc =>
    run_copy_any V tL tL ty tE W.heap.size (k * 2) (es.length + 1 - k) dc ⟨q, 0, none⟩ 1 1 (cE x) 2 1 Try.underlying22 sizeE (by simp only [Nat.min_def]; split <;> omega) rfl
      (fun j v hj => by rw [addr_add, Nat.zero_add, hVc]; exact hOv _ v (hq.cell hj))
      (fun j hj => by rw [cE_length] at hj; obtain ⟨z, hz⟩ := own_some hown (k := k * 2 + j) (by rw [hown.1]; omega); rw [hVc, hz]; rfl)
      (fun j hj => by rw [hVf]; exact own_frozen hown _) h1c
  have hbN : g ≠ W.heap.size := by omega
  have hcpB : ∀ (V : World), (∀ y, V.cell? y = (W1.setCells W.heap.size (k * 2) (cE x)).cell? y) → (∀ y, V.frozen? y = (W1.setCells W.heap.size (k * 2) (cE x)).frozen? y) → ∀ ty dc sc, (Builtin.copy_ #[tL, tL] ty #[.slice (some ⟨W.heap.size, (k + 1) * 2, none⟩) (es.length - k) dc, .slice (some ⟨g, k * 2, none⟩) (es.length - k) sc]).run Try.prog V = .ok (goInt ((es.length - k : Nat) : Int)) (V.setCells W.heap.size ((k + 1) * 2) (cellsOf cE (es.drop k))) := fun V hVc hVf ty dc sc =>
    run_copy_any V tL tL ty tE W.heap.size ((k + 1) * 2) (es.length - k) dc ⟨g, k * 2, none⟩ (es.length - k) sc (cellsOf cE (es.drop k)) 2 (es.length - k) Try.underlying22 sizeE (by simp only [Nat.min_def]; split <;> omega) hdl
      (fun j v hj => by
        rw [addr_add, hVc, World.cell?_setCells_out _ _ _ _ _ (fun e _ => absurd e hbN)]
        rw [← cellsOf_drop, List.getElem?_drop] at hj
        exact hOb _ v (hat _ v hj))
      (fun j hj => by obtain ⟨z, hz⟩ := own_some hst1 (k := (k + 1) * 2 + j) (by rw [hst1.1]; omega); rw [hVc, hz]; rfl)
      (fun j hj => by rw [hVf]; exact own_frozen hst1 _) (oneE _)
  have hB2 : Below base W ((W1.setCells W.heap.size (k * 2) (cE x)).setCells W.heap.size ((k + 1) * 2) (cellsOf cE (es.drop k))) := below_cells hbs _ _ (below_cells hbs _ _ hB1)
  have HST := Lib.hid hst2; have HB2 := Lib.hid hB2
  have hz3 : (cap : Int) < (es.length : Int) + 1 := by omega
  have hzz : ((k : Int) == (es.length : Int)) = false := by rw [beq_eq_false_iff_ne]; omega
  have hGi : ¬ (G = k) := by omega
  have hGim : ¬ (G = k + 1) := by omega
  have hci : ¬ (cap = k) := by omega
  have hb7 : (k : Int) ≤ (es.length : Int) := by omega
  have hb3 : (k : Int) ≤ (cap : Int) := by omega
  have hb8 : (k : Int) ≤ (es.length : Int) + 1 := by omega
  have hw1 : IntKind.i64.wrap ((k : Int) + 1) = (k : Int) + 1 := by rw [IntKind.wrap_i64]; omega
  have hb1 : (0 : Int) ≤ (k : Int) + 1 := by omega
  have htn : ((k : Int) + 1).toNat = k + 1 := by omega
  subst hW1
  have hE1 : ∀ x, ((W.alloc (.cells ROW tE)).drew).cell? x = (W.drew.alloc (.cells ROW tE)).cell? x := fun x => rfl
  have hE2 : ∀ x, ((W.alloc (.cells ROW tE)).drew).frozen? x = (W.drew.alloc (.cells ROW tE)).frozen? x := fun x => rfl
  have hF1 : ∀ y, (((W.alloc (.cells ROW tE)).drew.setCells W.heap.size (k * 2) (cE x)).drew).cell? y = ((W.drew.alloc (.cells ROW tE)).setCells W.heap.size (k * 2) (cE x)).cell? y := fun y => rfl
  have hF2 : ∀ y, (((W.alloc (.cells ROW tE)).drew.setCells W.heap.size (k * 2) (cE x)).drew).frozen? y = ((W.drew.alloc (.cells ROW tE)).setCells W.heap.size (k * 2) (cE x)).frozen? y := fun y => rfl
  clear hst2 hB2 hst1 hown hat hold hOb hOv h1c hB1 hROW hZ1 hZ2 hz1 hz2 hzo hkk hik htk hdl h hq hG hGm
  go_enter Try.func69, Try.ntmps69
  go_wp2_with (first
    | (at_builtin; refine Lib.wpList_append_run _ rfl _ _ _ _ rfl _ _ rfl rfl _ _ (hrz _) ?_)
    | (at_builtin; refine wpList_copy_runI _ rfl _ _ tL tL rfl _ _ rfl rfl (hcpA _ hE1 hE2 _ _) ?_))
  go_region_law (refine step_copy_runI rfl _ _ tL tL rfl (.slice (some ⟨W.heap.size, (k + 1) * 2, none⟩) (es.length - k) (G - (k + 1))) (.slice (some ⟨g, k * 2, none⟩) (es.length - k) (cap - k)) (by simp [Act.eval, Act.put]) (by simp [Act.eval, Act.put]) (hcpB _ hF1 hF2 _ _ _) ?_)
  go_wp2
  go_ret
  refine ⟨_, rfl, ?_, ?_⟩
  · rw [← drew_setCells]
    exact own_below HST.out ((Below.refl _ _).drew)
  · rw [← drew_setCells]
    exact HB2.out.drew
/-- slices.Insert of one entry -/
theorem ins_any (W : World) (base : Nat) (v : Value) (es : List En) (h : W.ownsRow base tE 2 v es.length (cellsOf cE es)) (hbs : base ≤ W.heap.size) (hl : es.length ≤ 1099511627776) (k : Nat) (hk : k ≤ es.length) (q : Nat) (x : En) (hq : Blk W q tE (cE x)) (hqv : v.ownBlock ≠ some q) :
    Calls Try.prog 69 #[v, .int .i64 (k : Int), .slice (some ⟨q, 0, none⟩) 1 1] W fun e w' => ∃ v', e = .returned v' ∧ w'.ownsRow base tE 2 v' (es.length + 1) (cellsOf cE (es.take k ++ x :: es.drop k)) ∧ Below base W w' := by
  by_cases hke : k = es.length
  · subst hke
    rw [List.take_length, List.drop_length]
    exact ins_end W base v es h hbs hl q x hq
  · have h0 := h
    rcases h0.2 with ⟨rfl, hz⟩ | ⟨g, cap, cur, rfl, hg, _, hc, hcm, _⟩
    · omega
    · by_cases hr : es.length < cap
      · exact ins_room W base g cap es h hg hbs hl k (by omega) hr hcm q x hq (fun e => hqv (by rw [e]; rfl))
      · exact ins_grow W base g cap es h hbs hl k (by omega) (by omega) hc q x hq

end Go.Proofs.Ytnlhgnioedalpaa.Pri

/- price: Put. -/
set_option linter.unusedSimpArgs false
set_option linter.unusedVariables false
namespace Go.Proofs.Ytnlhgnioedalpaa.Pri
open Go.RowKit Go.Proofs.YtnlhgnioedalpaaW.PrintWords Go.Proofs.Ytnlhgnioedalpaa.PPricePlays
attribute [local go_sem] Oper.semAt_some

theorem ins_pos {s a : Int} : ∀ {es : List En} {k : Nat}, Pos es s k → insL es s a = es.take k ++ (s, a) :: es.drop k
  | [], k, h => by simp [insL]
  | e :: r, 0, h => by
    have h0 : ltS e.1 s = false := h.hi 0 (Nat.le_refl _) (by simp)
    simp only [insL]
    rw [if_neg (by rw [h0]; decide)]
    rfl
  | e :: r, k + 1, h => by
    have h0 : ltS e.1 s = true := h.lo 0 (by omega)
    have ih := ins_pos (es := r) (k := k) (a := a) ⟨by have := h.le; simp at this; omega, fun m hm => h.lo (m + 1) (by omega), fun m h1 h2 => h.hi (m + 1) (by omega) (by simp; omega)⟩
    simp only [insL]
    rw [if_pos h0, ih]
    rfl
theorem below_gb {A B : World} {p : Nat} (h : Below A.heap.size A B) : A.grownBy B (some p) := ⟨h.os, h.tape, h.output, h.size, fun k hk _ => h.block k hk⟩
theorem gb_trans {A B C : World} {p : Nat} (h : A.grownBy B (some p)) (k : B.grownBy C (some p)) : A.grownBy C (some p) :=
  ⟨k.os.trans h.os, k.tape.trans h.tape, k.output.trans h.output, Nat.le_trans h.size k.size, fun j hj hne => (k.block j (Nat.lt_of_lt_of_le hj h.size) hne).trans (h.block j hj hne)⟩
theorem UE.del {es : List En} (h : UE es) (s a : Int) : UE (delL es s a) := fun e he => h e (del_mem.1 he).1
theorem sd_del {es : List En} (h : es.Pairwise (fun a b => ltS a.1 b.1 = true)) (s a : Int) : (delL es s a).Pairwise (fun a b => ltS a.1 b.1 = true) := h.filter _
theorem own_sl {w : World} {base n size : Nat} {e : TypeId} {v : Value} {xs : List Value} (h : w.ownsRow base e size v n xs) : ∃ A c, v = .slice A n c := by
  rcases h.2 with ⟨rfl, hz⟩ | ⟨g, cap, cur, rfl, _⟩
  · exact ⟨none, 0, by rw [hz]⟩
  · exact ⟨_, cap, rfl⟩
/-- what holds of a store that puts have made -/
structure SR (W : World) (p : Nat) (es : List En) : Prop where
  pr : PR W p es
  ue : UE es
  ti : Tight es
  len : es.length ≤ 100000000
theorem SR.below {W W' : World} {p : Nat} {es : List En} (h : SR W p es) (hb : Below W.heap.size W W') : SR W' p es := ⟨h.pr.below hb, h.ue, h.ti, h.len⟩
/-- the slice of a store behind a step is new, or the one it was -/
def NF (W W' : World) (p : Nat) : Prop := ∀ v, Blk W' p tS [v] → (∀ k, v.ownBlock = some k → W.heap.size ≤ k ∧ k < W'.heap.size) ∨ Blk W p tS [v]
theorem NF.below {W W' : World} {p : Nat} (hp : p < W.heap.size) (h : Below W.heap.size W W') : NF W W' p := fun v hv => .inr ((h.block p hp).symm.trans hv)
theorem NF.fresh {W W' : World} {p : Nat} {u : Value} (hb : Blk W' p tS [u]) (h : ∀ k, u.ownBlock = some k → W.heap.size ≤ k ∧ k < W'.heap.size) : NF W W' p := fun v hv => by
  unfold Blk at hb hv
  rw [hb] at hv
  have : u = v := by simpa using hv
  subst this
  exact .inl h
theorem NF.trans {A B C : World} {p : Nat} (h : NF A B p) (k : NF B C p) (hs : A.heap.size ≤ B.heap.size) (hs2 : B.heap.size ≤ C.heap.size) : NF A C p := fun v hv => by
  rcases k v hv with k1 | k1
  · exact .inl (fun j hj => ⟨Nat.le_trans hs (k1 j hj).1, (k1 j hj).2⟩)
  · rcases h v k1 with h1 | h1
    · exact .inl (fun j hj => ⟨(h1 j hj).1, Nat.lt_of_lt_of_le (h1 j hj).2 hs2⟩)
    · exact .inr h1
set_option maxRecDepth 100000 in
set_option maxHeartbeats 8000000 in
theorem put_anyF (W : World) (p : Nat) (es : List En) (s a : Int) (h : PR W p es) (hU : UE es) (hT : Tight es) (hs : U s) (hl : es.length ≤ 100000000) :
    Calls Try.prog 25 #[.pointer (some ⟨p, 0, none⟩), .int .u64 s, .int .i64 a] W fun e w' => e = .returned (.bool (okP es s a)) ∧ PR w' p (putP es s a) ∧ W.grownBy w' (some p) ∧ NF W w' p := by
  have hpl := h.lt
  obtain ⟨w1, hw1⟩ : ∃ w1, (W.alloc (.cells #[.int .u64 s] 32)).alloc (.cells #[.int .i64 a] 2) = w1 := ⟨_, rfl⟩
  have b1 : Blk w1 W.heap.size 32 [.int .u64 s] := by rw [← hw1]; exact (Blk.new W _ _).alloc _
  have b2 : Blk w1 (W.heap.size + 1) 2 [.int .i64 a] := by rw [← hw1]; exact Blk.new2 W _ _ _
  have hal : Below W.heap.size W w1 := by rw [← hw1]; exact ((Below.refl _ W).alloc (Nat.le_refl _) _).alloc (by simp) _
  have hz1 : w1.heap.size = W.heap.size + 2 := by rw [← hw1]; simp
  have hP1 := h.below hal
  have HW1 := Lib.hid hw1; have HP1 := Lib.hid hP1; have HAL := Lib.hid hal
  have c1 := b1.cell (i := 0) rfl
  have c2 := b2.cell (i := 0) rfl
  have HB1 := Lib.hid b1; have HB2 := Lib.hid b2
  clear hw1 hP1 hal b1 b2 h
  have HD := Lib.hid (show Below W.heap.size W w1.drew from HAL.out.drew)
  have HPD := Lib.hid (HP1.out.below ((Below.refl w1.heap.size w1).drew))
  by_cases h0 : s = 0
  · subst h0
    have hok : okP es 0 a = false := by unfold okP; simp
    have hpp : putP es 0 a = es := by unfold putP; rw [hok]; rfl
    rw [hok, hpp]
    go_enter Try.func25, Try.ntmps25
    go_wp2_with fail
    rw [HW1.out]
    go_region
    all_goals
      go_wp2_with fail
      go_ret
      exact ⟨rfl, HPD.out, below_gb HD.out, NF.below hpl HD.out⟩
  · have hs0 : (s == 0) = false := by simp [h0]
    by_cases hm : 2199023255552 < a
    · have hok : okP es s a = false := by unfold okP most; simp; omega
      have hpp : putP es s a = es := by unfold putP; rw [hok]; rfl
      rw [hok, hpp]
      go_enter Try.func25, Try.ntmps25
      go_wp2_with fail
      rw [HW1.out]
      go_region
      all_goals
        go_wp2_with fail
        go_ret
        exact ⟨rfl, HPD.out, below_gb HD.out, NF.below hpl HD.out⟩
    · have AK := Lib.hid (ask_any w1.drew p es s HPD.out hU hs (by omega))
      obtain ⟨m, hmm⟩ : ∃ m, askL es s = m := ⟨_, rfl⟩
      rw [hmm] at AK
      by_cases hle : a ≤ m
      · have hok : okP es s a = false := by unfold okP; rw [hmm]; simp; omega
        have hpp : putP es s a = es := by unfold putP; rw [hok]; rfl
        rw [hok, hpp]
        have hm2 : a ≤ 2199023255552 := by omega
        have hm3 : decide (2199023255552 < a) = false := by simp; omega
        clear hok hpp hmm hm
        go_enter Try.func25, Try.ntmps25
        go_wp2_with fail
        rw [HW1.out]
        go_region_held3 (fun w' => w'.cell? ⟨W.heap.size, 0, none⟩ = some (.int .u64 s) ∧ w'.cell? ⟨W.heap.size + 1, 0, none⟩ = some (.int .i64 a)) (go_keep) ((refine AK.out.mono ?_; rintro e w2 ⟨rfl, hb2⟩; obtain ⟨hc2, hf2⟩ := bcell hb2))
        go_wp2_with fail
        go_ret
        exact ⟨rfl, HPD.out.below hb2, below_gb (HD.out.trans (hb2.mono HD.out.size)), NF.below hpl (HD.out.trans (hb2.mono HD.out.size))⟩
      · have hlt : askL es s < a := by rw [hmm]; omega
        have hok : okP es s a = true := ok_iff.2 ⟨h0, by unfold most; omega, hlt⟩
        have hpp : putP es s a = insL (delL es s a) s a := by unfold putP; rw [hok]; rfl
        rw [hok]
        have hm2 : a ≤ 2199023255552 := by omega
        have hm3 : decide (2199023255552 < a) = false := by simp; omega
        have hle2 : decide (a ≤ m) = false := by simp; omega
        have HPP := Lib.hid hpp
        rw [hpp]
        clear hok hpp hmm hm hlt
        go_enter Try.func25, Try.ntmps25
        go_wp2_with fail
        rw [HW1.out]
        go_region_held3 (fun w' => w'.cell? ⟨W.heap.size, 0, none⟩ = some (.int .u64 s) ∧ w'.cell? ⟨W.heap.size + 1, 0, none⟩ = some (.int .i64 a)) (go_keep) ((refine AK.out.mono ?_; rintro e w2 ⟨rfl, hb2⟩; obtain ⟨hc2, hf2⟩ := bcell hb2))
        have hBw2 := HD.out.trans (hb2.mono HD.out.size)
        have hP2 := HPD.out.below hb2
        have hd1 := (HB1.out.belowS ((Below.refl _ w1).drew)).belowS hb2
        have hd2 := (HB2.out.belowS ((Below.refl _ w1).drew)).belowS hb2
        obtain ⟨v, hbv, hpe⟩ := hP2
        have cp := hbv.cell (i := 0) rfl
        have hl1 := hd2.lt
        obtain ⟨B, hB⟩ : ∃ B, w2.heap.size = B := ⟨_, rfl⟩
        have HBV := Lib.hid hbv; have HD1 := Lib.hid hd1; have HD2 := Lib.hid hd2; have HBW2 := Lib.hid hBw2; have HPE := Lib.hid hpe; have HBB := Lib.hid hB
        clear hc2 hf2 hb2 hBw2 hd1 hd2 hbv hpe AK c1 c2
        go_wp2_with fail
        refine (clone_any w2 v es HPE.out (by omega)).mono ?_; rintro e w3 ⟨v1, rfl, ho1, hb3⟩
        rw [HBB.out] at ho1 hb3
        have HO1 := Lib.hid ho1; have HB3 := Lib.hid hb3
        have hs3 := hb3.size
        clear ho1 hb3 cp
        go_wp2_with fail
        refine (del_any w3 B v1 es HO1.out (by omega) hU (by omega) W.heap.size (W.heap.size + 1) s a hs (HD1.out.below HB3.out (by omega)) (HD2.out.below HB3.out (by omega)) (by omega) (by omega)).mono ?_; rintro e w4 ⟨v2, rfl, ho2, hb4⟩
        have hb4' := HB3.out.trans hb4
        have hdl : (delL es s a).length ≤ es.length := List.length_filter_le ..
        have e1 := (HD1.out.below hb4' (by omega)).cell (i := 0) rfl
        have hpe2 := pe_own (by omega) ho2
        have HO2 := Lib.hid ho2; have HB4 := Lib.hid hb4'; have HPE2 := Lib.hid hpe2
        have hs4 := hb4.size
        clear ho2 hb4 hb4' hpe2
        go_wp2_with fail
        refine (pos_any w4 v2 (delL es s a) HPE2.out (hU.del s a) (by omega) (sd_del hT.sd s a) s hs).mono ?_; rintro e w5 ⟨k, bb, rfl, hpos, hb5⟩
        have HB5 := Lib.hid (HB4.out.trans (hb5.mono (by omega)))
        have HO5 := Lib.hid (own_below HO2.out hb5)
        have hs5 := hb5.size
        have e2 := (HD1.out.below HB5.out (by omega)).cell (i := 0) rfl
        have e3 := (HD2.out.below HB5.out (by omega)).cell (i := 0) rfl
        have HPOS := Lib.hid hpos
        clear hb5 hpos e1
        go_wp2_with fail
        have hq := Blk.new w5 [.int .u64 s, .int .i64 a] tE
        have hal6 : Below w5.heap.size w5 (w5.alloc (.cells #[.int .u64 s, .int .i64 a] tE)) := (Below.refl _ w5).alloc (Nat.le_refl _) _
        have ho6 := own_below HO5.out hal6
        have hB6 := HB5.out.trans (hal6.mono (by omega))
        have hqv : v2.ownBlock ≠ some w5.heap.size := fun e => by have := (HO5.out.lt _ e).2; omega
        have hs6 := hal6.size
        refine (ins_any _ B v2 (delL es s a) ho6 (by omega) (by omega) k HPOS.out.le w5.heap.size (s, a) hq hqv).mono ?_; rintro e w7 ⟨v3, rfl, ho7, hb7⟩
        rw [← ins_pos HPOS.out] at ho7
        obtain ⟨A3, c3, rfl⟩ := own_sl ho7
        have hB7 := hB6.trans hb7
        have hln : (insL (delL es s a) s a).length = (delL es s a).length + 1 := by
          rw [ins_pos HPOS.out, List.length_append, List.length_cons, List.length_take, List.length_drop]
          have := HPOS.out.le
          omega
        have hb := HBV.out.below hB7 (by omega)
        have cp7 := hb.cell (i := 0) rfl
        have fp7 := hb.frozen 0
        have hW7 := HBW2.out.trans (hB7.mono (by have := HBW2.out.size; omega))
        have hne : (Value.slice A3 ((delL es s a).length + 1) c3).ownBlock ≠ some p := fun e => by have := (ho7.lt _ e).1; omega
        have ho7' := ho7
        have hne' := hne
        rw [← hln] at ho7' hne'
        have HF := Lib.hid (show PR (w7.setCell ⟨p, 0, none⟩ (.slice A3 ((delL es s a).length + 1) c3)) p (insL (delL es s a) s a) ∧ W.grownBy (w7.setCell ⟨p, 0, none⟩ (.slice A3 ((delL es s a).length + 1) c3)) (some p) ∧ NF W (w7.setCell ⟨p, 0, none⟩ (.slice A3 ((delL es s a).length + 1) c3)) p from
          ⟨⟨_, hb.set 0 _, by rw [← hln]; exact pe_own (by omega) (own_setCell ho7' hne' 0 _)⟩, gb_trans (below_gb hW7) (grownBy_setAt w7 p 0 _), NF.fresh (hb.set 0 _) (fun k hk => ⟨by have := (ho7.lt k hk).1; have := HBB.out; have := HBW2.out.size; omega, by have := (ho7.lt k hk).2; simpa [World.setCell] using this⟩)⟩)
        clear hq hal6 ho6 hB6 hqv ho7 hb7 hB7 hb hW7 hne hln e2 e3 ho7' hne'
        go_wp2_with fail
        go_ret
        exact ⟨rfl, HF.out⟩
theorem put_any (W : World) (p : Nat) (es : List En) (s a : Int) (h : PR W p es) (hU : UE es) (hT : Tight es) (hs : U s) (hl : es.length ≤ 100000000) :
    Calls Try.prog 25 #[.pointer (some ⟨p, 0, none⟩), .int .u64 s, .int .i64 a] W fun e w' => e = .returned (.bool (okP es s a)) ∧ PR w' p (putP es s a) ∧ W.grownBy w' (some p) :=
  (put_anyF W p es s a h hU hT hs hl).mono fun e w' ⟨h1, h2, h3, _⟩ => ⟨h1, h2, h3⟩

end Go.Proofs.Ytnlhgnioedalpaa.Pri
