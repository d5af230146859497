/- table N: pairs of what comes. -/
import Derived.Test.YtgoomogpcfpekaaTabN11
import Derived.Maps.AppendAt
set_option linter.unusedSimpArgs false
set_option linter.unusedVariables false
namespace Go.Proofs.Ytgoomogpcfpekaa.TabN
open Go.RowKit Go.Proofs.Ytgoomogpcfpekaa.TabL
attribute [local go_sem] Oper.semAt_some

theorem run_eql_func_nil {P : Program} (w : World) (t : TypeId) (ps rs : Array TypeId) (v : Bool) (G : Nat) (lb : Array Value) (h : P.underlying t = some (.func ps rs v)) :
    (binOp .eql t (.func (.func G) #[] lb) .nilFunc).run P w = .ok (.bool false) w := by
  have h1 : ∀ d, (Op.equalIn (d + 1) t (.func (.func G) #[] lb) .nilFunc).run P w = .ok false w := fun d => by simp [Op.equalIn, run_underlying h]
  simp only [binOp]
  simp [Op.equal, Op.maxDepth, h1 9999]
def cP (x : Pr) : List Value := [ek x.1, ev x.2]
theorem infoP : (Try.prog.info? 41).map (fun i => (i.zero, i.size, i.bytes)) = some (some (.agg #[.int .i64 0, .int .i64 0]), 2, 16) := by kernel_rfl
/-- a boxed slice variable that holds xs, in memory of the call's own -/
def Out (W : World) (base Bo : Nat) (xs : List Pr) : Prop := ∃ v, Boxed W Bo 25 v ∧ W.ownsRow base 41 2 v xs.length (cellsOf cP xs)
theorem Out.ownF (base Bo : Nat) (xs : List Pr) : Own (fun (_ : Unit) W => Out W base Bo xs) := fun s A B row hs hg hr => by
  obtain ⟨v, hb, ho⟩ := hs
  refine ⟨v, boxed_own Bo _ (fun _ : Unit => v) () A B row hb hg hr, ho.kept hg ?_⟩
  cases hv : v.ownBlock with
  | none => exact .inl rfl
  | some k =>
    refine .inr (fun e => ?_)
    obtain ⟨_, cs, fr, hc⟩ := own_typ ho k hv
    obtain ⟨o, ho', hcc⟩ := hr k (by rw [← e])
    rw [hc] at ho'
    cases ho'
    simp [Obj.isCells] at hcc

theorem blk_kept {W w1 : World} {b base size n : Nat} {t e : TypeId} {l xs : List Value} {v : Value} {o : Obj} (hb : Blk W b t l) (ho : W.ownsRow base e size v n xs) (hte : t ≠ e) (hg : (W.alloc o).grownBy w1 v.ownBlock) : Blk w1 b t l :=
  (hb.alloc o).kept hg (fun h => by
    obtain ⟨_, cs, fr, hc⟩ := own_typ ho b h.symm
    unfold Blk at hb
    rw [hb] at hc
    simp at hc
    exact hte hc.2.1)
/-- what pairs holds while it goes on -/
def PI (w0 : World) (m : Int) (xs : List Pr) (W : World) : Prop := Out W w0.heap.size (w0.heap.size + 1 + 1) xs ∧ Blk W w0.heap.size 3 [.int .i64 m] ∧ Below w0.heap.size w0 W
theorem PI.ownF (w0 : World) (m : Int) (xs : List Pr) {b : Nat} (hb : w0.heap.size ≤ b) : OwnFrom b (fun (_ : Unit) W => PI w0 m xs W) :=
  OwnFrom.and (Own.from (Out.ownF _ _ _) _) (OwnFrom.and (Own.from (blk_own _ _ (fun _ => _)) _) (ownFrom_below (Nat.le_refl _) hb))

set_option maxRecDepth 100000 in
set_option maxHeartbeats 4000000 in
theorem pairs_any (W : World) (G : Nat) (lb : Array Value) (St N : World → Prop) (zs : List Pr) (m : Int) (hG : Gives2 G lb St N zs) (hm : 1 ≤ m) (hz : zs.length < 1099511627776)
    (hSt : ∀ W', Below W.heap.size W W' → St W') (hN : ∀ W', Below W.heap.size W W' → N W') :
    Calls Try.prog 13 #[.func (.func G) #[] lb, .int .i64 m] W fun e w' => ∃ v, e = .returned v ∧ w'.ownsRow W.heap.size 41 2 v (zs.take m.toNat).length (cellsOf cP (zs.take m.toNat)) ∧ Below W.heap.size W w' := by
  obtain ⟨i0, hi0, hiz0, hiz1, hiz2⟩ := info_parts infoP
  have hq := fun W => run_eql_func_nil (P := Try.prog) W 32 #[47] #[] false G lb (by kernel_rfl)
  refine (callsIn_wide (n := 4)).1 ?_
  refine callsIn_of_wp_marks Try.func13 rfl trivial ?_ rfl
  refine wpIn_wide.2 ?_
  simp only [Try.ntmps13, List.size_toArray, List.length_cons, List.length_nil, Nat.reduceAdd, Nat.reduceSub, Array.replicate_succ, Array.replicate_zero, List.push_toArray, List.append_toArray, List.nil_append, List.cons_append]
  go_wp2_with fail
  have b0 := ((Blk.new W [.int .i64 m] 3).alloc (.cells #[] 41)).alloc (.cells #[.slice (some ⟨W.heap.size + 1, 0, none⟩) 0 0] 25)
  have bo : Boxed (((W.alloc (.cells #[.int .i64 m] 3)).alloc (.cells #[] 41)).alloc (.cells #[.slice (some ⟨W.heap.size + 1, 0, none⟩) 0 0] 25)) (W.heap.size + 1 + 1) 25 (.slice (some ⟨W.heap.size + 1, 0, none⟩) 0 0) := by
    have := Boxed.new ((W.alloc (.cells #[.int .i64 m] 3)).alloc (.cells #[] 41)) 25 (.slice (some ⟨W.heap.size + 1, 0, none⟩) 0 0)
    rw [World.size_alloc, World.size_alloc] at this
    exact this
  have rO : (((W.alloc (.cells #[.int .i64 m] 3)).alloc (.cells #[] 41)).alloc (.cells #[.slice (some ⟨W.heap.size + 1, 0, none⟩) 0 0] 25)).ownsRow W.heap.size 41 2 (.slice (some ⟨W.heap.size + 1, 0, none⟩) 0 0) 0 [] := by
    have := (World.ownsRow_lit (base := W.heap.size) (e := 41) (size := 2) (W.alloc (.cells #[.int .i64 m] 3)) #[] 0 (by simp) (by decide) rfl).alloc (.cells #[.slice (some ⟨W.heap.size + 1, 0, none⟩) 0 0] 25)
    rw [World.size_alloc] at this
    exact this
  have hB0 := (bel_alloc2 W (.cells #[.int .i64 m] 3) (.cells #[] 41)).alloc (by simp; omega) (.cells #[.slice (some ⟨W.heap.size + 1, 0, none⟩) 0 0] 25)
  obtain ⟨W2, hW2⟩ : ∃ W2, (((W.alloc (.cells #[.int .i64 m] 3)).alloc (.cells #[] 41)).alloc (.cells #[.slice (some ⟨W.heap.size + 1, 0, none⟩) 0 0] 25)) = W2 := ⟨_, rfl⟩
  have hz2 : W2.heap.size = W.heap.size + 3 := by rw [← hW2]; simp
  have hPI0 : PI W m (zs.take 0) W2 := by rw [← hW2]; exact ⟨⟨_, bo, rO⟩, b0, hB0⟩
  rw [hW2] at hB0 ⊢
  clear hW2 b0 bo rO hq
  have hsO : ∀ xs, OwnFrom W2.heap.size (fun (_ : Unit) W' => PI W m xs W') := fun xs => PI.ownF W m xs (by omega)
  refine wpIn_wide.1 (range_gen (F := Fence.wide) (n := 4) rfl (by omega) (gf := G) (lb := lb) rfl trivial hG.1 (encs := fun k : Nat => #[ek (zs.getD k d0).1, ev (zs.getD k d0).2]) (fun _ => rfl)
    (fun W' => St W' ∧ ((0 : Nat) : Int) < m ∧ PI W m (zs.take 0) W')
    (fun k W' => k < zs.length ∧ (k : Int) < m ∧ PI W m (zs.take k) W')
    (fun k W' => ((k + 1 : Nat) : Int) < m ∧ PI W m (zs.take (k + 1)) W')
    (fun c W' => (c = .exit 0 ∧ True) ∧ PI W m (zs.take m.toNat) W')
    (fun W' => ((zs.length : Nat) : Int) < m ∧ PI W m (zs.take zs.length) W')
    (fun k a' W' => a' = { tmps := #[.func (.func G) #[] lb, .int .i64 m, undef, .pointer (some ⟨W.heap.size, 0, none⟩), .slice none 0 0, .pointer (some ⟨W.heap.size + 1 + 1, 0, none⟩), ek (zs.getD k d0).1, ev (zs.getD k d0).2, .slice (some ⟨W.heap.size + 1, 0, none⟩) 0 0, .func (.func G) #[] lb, .bool false, undef, .func (.func G) #[] lb, ek (zs.getD k d0).1, ev (zs.getD k d0).2, undef, undef, undef, undef, undef, undef, undef, undef, undef, undef, undef], defers := [] } ∧ k < zs.length ∧ (k : Int) < m ∧ PI W m (zs.take k) W')
    (fun s A A' row hs hg hr => by
      have h := hsO _ () A A' row hs.2.2 hg hr
      exact ⟨hSt _ h.2.2, hs.2.1, h⟩)
    (fun k => OwnFrom.and (fun _ _ _ _ hs _ _ => hs) (hsO _))
    (fun c => OwnFrom.and (fun _ _ _ _ hs _ _ => hs) (hsO _))
    (OwnFrom.and (fun _ _ _ _ hs _ _ => hs) (hsO _))
    (fun k a' => OwnFrom.and (fun _ _ _ _ hs _ _ => hs) (OwnFrom.and (fun _ _ _ _ hs _ _ => hs) (OwnFrom.and (fun _ _ _ _ hs _ _ => hs) (hsO _))))
    ⟨hSt _ hB0, by omega, hPI0⟩
    (hG.2 3 (fun k W' => ((k : Nat) : Int) < m ∧ PI W m (zs.take k) W') (fun k W' h => hN _ h.2.2.2)
      (fun k W' j h => ⟨h.1, hsO _ () W' _ none h.2 ⟨rfl, rfl, rfl, Nat.le_refl _, fun _ _ _ => rfl⟩ (fun r e => by cases e)⟩))
    ?assign ?body ?done ?stop)
  case assign =>
    rintro l k W' K ⟨hk, hkm, hP⟩ hK
    obtain ⟨⟨x, y⟩, hx⟩ : ∃ x, zs.getD k d0 = x := ⟨_, rfl⟩
    rw [hx] at hK ⊢
    unfold ek ev at hK ⊢
    have HKM := Lib.hid hkm
    clear hkm
    gi_wp2
    exact hK _ _ (KeepsFrom.refl _ _) ⟨rfl, hk, HKM.out, hP⟩
  case body =>
    rintro l k a' W' hl hr ⟨rfl, hk, hkm, ⟨v, hv, hrow⟩, bm, hB⟩
    have htk : zs.take (k + 1) = zs.take k ++ [zs.getD k d0] := by rw [List.take_succ_eq_append_getElem hk]; simp [List.getD, hk]
    obtain ⟨⟨x, y⟩, hx⟩ : ∃ x, zs.getD k d0 = x := ⟨_, rfl⟩
    rw [hx] at htk ⊢
    have hlk : (zs.take k).length = k := by rw [List.length_take]; omega
    rw [hlk] at hrow
    have HTK := Lib.hid htk; have HLK := Lib.hid hlk; have HKZ := Lib.hid hk
    clear htk hx hlk
    have hc := hv.cell
    have hz1 := hB.size
    have bmc := bm.cell (i := 0) rfl
    have blt := bm.lt
    unfold ek ev
    by_cases hlast : ((k : Int) + 1) = m
    · have hmk : m.toNat = k + 1 := by omega
      have HMK := Lib.hid hmk
      clear hmk
      gi_wp2_with (gi_at_builtin; refine wpListIn_append_own _ rfl _ _ 25 rfl W.heap.size 41 i0 _ 2 16 Try.underlying25 hi0 hiz0 hiz1 hiz2 rfl (by decide) _ k _ rfl (hrow.alloc _) ⟨W'.heap.size, 0, none⟩ 1 1 [.int .i64 x, .int .i64 y] rfl rfl (news_blk (Blk.new W' [.int .i64 x, .int .i64 y] 41)) (by simp [Value.oneCell']) (by unfold maxLen; omega) (by omega) (by simp; omega) ?_; intro v' w3 hown' hgrow _; obtain ⟨g', cap', rfl⟩ := ownsRow_succ hown'; obtain ⟨hv1, hv2, hr2, hk2, hb2⟩ := hv.appended (by decide) hrow hB.size (by omega) hown' hgrow; have hc1 := hv1.cell; have hf1 := hv1.frozen; have hc2 := hv2.cell; have bm3 := (blk_kept bm hrow (by decide) hgrow).other (p := ⟨W.heap.size + 1 + 1, 0, none⟩) (by simp; omega) (.slice (some ⟨g', 0, none⟩) (k + 1) cap'); have bmc3 := bm3.cell (i := 0) rfl)
      refine ⟨hk2.from _, rfl, ⟨⟨_, hv2, ?_⟩, bm3, hB.trans hb2⟩⟩
      rw [HMK.out, HTK.out, List.length_append, HLK.out, cellsOf_append, cellsOf_one]
      exact hr2
    · have hlt2 : (((k + 1 : Nat) : Int)) < m := by omega
      have HLT := Lib.hid hlt2
      clear hlt2
      gi_wp2_with (gi_at_builtin; refine wpListIn_append_own _ rfl _ _ 25 rfl W.heap.size 41 i0 _ 2 16 Try.underlying25 hi0 hiz0 hiz1 hiz2 rfl (by decide) _ k _ rfl (hrow.alloc _) ⟨W'.heap.size, 0, none⟩ 1 1 [.int .i64 x, .int .i64 y] rfl rfl (news_blk (Blk.new W' [.int .i64 x, .int .i64 y] 41)) (by simp [Value.oneCell']) (by unfold maxLen; omega) (by omega) (by simp; omega) ?_; intro v' w3 hown' hgrow _; obtain ⟨g', cap', rfl⟩ := ownsRow_succ hown'; obtain ⟨hv1, hv2, hr2, hk2, hb2⟩ := hv.appended (by decide) hrow hB.size (by omega) hown' hgrow; have hc1 := hv1.cell; have hf1 := hv1.frozen; have hc2 := hv2.cell; have bm3 := (blk_kept bm hrow (by decide) hgrow).other (p := ⟨W.heap.size + 1 + 1, 0, none⟩) (by simp; omega) (.slice (some ⟨g', 0, none⟩) (k + 1) cap'); have bmc3 := bm3.cell (i := 0) rfl)
      refine ⟨hk2.from _, HLT.out, ⟨⟨_, hv2, ?_⟩, bm3, hB.trans hb2⟩⟩
      rw [HTK.out, List.length_append, HLK.out, cellsOf_append, cellsOf_one]
      exact hr2
  case done =>
    rintro D W' hD ⟨hzm, ⟨v, hv, hrow⟩, bm, hB⟩ hK
    have hc := hv.cell
    have hfin : zs.take m.toNat = zs.take zs.length := by rw [List.take_length, List.take_of_length_le (by omega)]
    rw [← hfin] at hrow
    clear hfin
    go_wp2
    refine ⟨by simp, .inl ⟨_, _, rfl, run_takeDeferred hK, ?_⟩⟩
    exact ⟨_, results_tmp rfl _ _ _, v, rfl, ownsRow_putObj hrow _ hK rfl, hB.trans (belowK_b (w := W2) (by omega) W' D _ _ hD hK rfl rfl)⟩
  case stop =>
    rintro D c W' hD ⟨⟨rfl, _⟩, ⟨v, hv, hrow⟩, bm, hB⟩ hK
    have hc := hv.cell
    gi_wp2
    go_wp2
    refine ⟨by simp, .inl ⟨_, _, rfl, run_takeDeferred hK, ?_⟩⟩
    exact ⟨_, results_tmp rfl _ _ _, v, rfl, ownsRow_putObj hrow _ hK rfl, hB.trans (belowK_b (w := W2) (by omega) W' D _ _ hD hK rfl rfl)⟩

end Go.Proofs.Ytgoomogpcfpekaa.TabN
