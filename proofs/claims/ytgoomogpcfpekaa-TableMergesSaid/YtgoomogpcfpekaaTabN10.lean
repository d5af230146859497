/- table N: the first of what comes; a table of all that comes. -/
import Derived.Test.YtgoomogpcfpekaaTabN9
set_option linter.unusedSimpArgs false
set_option linter.unusedVariables false
namespace Go.Proofs.Ytgoomogpcfpekaa.TabN
open Go.RowKit Go.Proofs.Ytgoomogpcfpekaa.TabL
attribute [local go_sem] Oper.semAt_some

theorem bel_alloc2 (W : World) (o o2 : Obj) : Below W.heap.size W ((W.alloc o).alloc o2) := ((Below.refl _ W).alloc (Nat.le_refl _) o).alloc (by simp) o2
theorem results_cell2 {fn : Func} {p u : Tmp} {ty uy : TypeId} (h : fn.results = #[.cell p ty, .cell u uy]) (tmps : Array Value) (P : Program) (w : World) :
    (results fn tmps).run P w =
      ((asAddr (tmps.getD p undef)).run P w).andThen fun a w₁ => ((loadVar ty a).run P w₁).andThen fun v w₂ => ((asAddr (tmps.getD u undef)).run P w₂).andThen fun b w₃ => ((loadVar uy b).run P w₃).andThen fun x w₄ => .ok (.tuple #[v, x]) w₄ := by
  simp only [results, h]
  simp [Sem.run_bind, Result.andThen]
theorem ofBelow0 {B B2 : Nat} {W W2 : World} (hB : B ≤ W2.heap.size) (hBB : B ≤ B2) : OwnFrom B2 (fun (_ : Unit) W' => Below B W W' ∧ B ≤ W'.heap.size) := fun s A A' row hs hg hr =>
  ⟨hs.1.grown hg hs.2 (fun r e => Nat.le_trans hBB (hr r e).1), Nat.le_trans hs.2 hg.size⟩
set_option maxRecDepth 100000 in
set_option maxHeartbeats 4000000 in
theorem only_any (W : World) (G : Nat) (lb : Array Value) (St N : World → Prop) (zs : List Pr) (hG : Gives2 G lb St N zs)
    (hSt : ∀ W', Below W.heap.size W W' → St W') (hN : ∀ W', Below W.heap.size W W' → N W') :
    Calls Try.prog 51 #[.func (.func G) #[] lb] W fun e w' => e = .returned (.tuple #[ek (zs.getD 0 d0).1, .bool (!zs.isEmpty)]) ∧ Below W.heap.size W w' := by
  refine (callsIn_wide (n := 4)).1 ?_
  refine callsIn_of_wp_marks Try.func51 rfl trivial ?_ rfl
  refine wpIn_wide.2 ?_
  simp only [Try.ntmps51, List.size_toArray, List.length_cons, List.length_nil, Nat.reduceAdd, Nat.reduceSub, Array.replicate_succ, Array.replicate_zero, List.push_toArray, List.append_toArray, List.nil_append, List.cons_append]
  go_wp2_with fail
  have nb1 := (Blk.new W [(.int .i64 0)] 2).alloc (.cells #[.bool false] 4)
  have nb2 := Blk.new2 W (.cells #[(.int .i64 0)] 2) [.bool false] 4
  have hB0 := bel_alloc2 W (.cells #[(.int .i64 0)] 2) (.cells #[.bool false] 4)
  obtain ⟨W2, hW2⟩ : ∃ W2, ((W.alloc (.cells #[(.int .i64 0)] 2)).alloc (.cells #[.bool false] 4)) = W2 := ⟨_, rfl⟩
  rw [hW2] at nb1 nb2 hB0 ⊢
  have hz2 : W2.heap.size = W.heap.size + 1 + 1 := by rw [← hW2]; simp
  clear hW2
  have hInvS : ∀ x y, OwnFrom W2.heap.size (fun (_ : Unit) W' => Blk W' W.heap.size 2 [x] ∧ Blk W' (W.heap.size + 1) 4 [y] ∧ Below W.heap.size W W') := fun x y =>
    OwnFrom.and (Own.from (blk_own _ _ (fun _ => _)) _) (OwnFrom.and (Own.from (blk_own _ _ (fun _ => _)) _) (ownFrom_below (Nat.le_refl _) (by omega)))
  refine wpIn_wide.1 (range_gen (F := Fence.wide) (n := 4) rfl (by omega) (gf := G) (lb := lb) rfl trivial hG.1 (encs := fun k : Nat => #[ek (zs.getD k d0).1, ev (zs.getD k d0).2]) (fun _ => rfl)
    (fun W' => St W' ∧ 0 = 0 ∧ Blk W' W.heap.size 2 [(.int .i64 0)] ∧ Blk W' (W.heap.size + 1) 4 [.bool false] ∧ Below W.heap.size W W')
    (fun k W' => k < zs.length ∧ k = 0 ∧ Blk W' W.heap.size 2 [(.int .i64 0)] ∧ Blk W' (W.heap.size + 1) 4 [.bool false] ∧ Below W.heap.size W W')
    (fun k W' => k + 1 = 0 ∧ Blk W' W.heap.size 2 [(.int .i64 0)] ∧ Blk W' (W.heap.size + 1) 4 [.bool false] ∧ Below W.heap.size W W')
    (fun c W' => (c = .ret ∧ 0 < zs.length) ∧ Blk W' W.heap.size 2 [ek (zs.getD 0 d0).1] ∧ Blk W' (W.heap.size + 1) 4 [.bool true] ∧ Below W.heap.size W W')
    (fun W' => zs.length = 0 ∧ Blk W' W.heap.size 2 [(.int .i64 0)] ∧ Blk W' (W.heap.size + 1) 4 [.bool false] ∧ Below W.heap.size W W')
    (fun k a' W' => a' = { tmps := #[.func (.func G) #[] lb, undef, .pointer (some ⟨W.heap.size, 0, none⟩), .pointer (some ⟨W.heap.size + 1, 0, none⟩), ek (zs.getD k d0).1, undef, .func (.func G) #[] lb, ek (zs.getD k d0).1, ev (zs.getD k d0).2, undef, undef], defers := [] } ∧ k < zs.length ∧ k = 0 ∧ Blk W' W.heap.size 2 [(.int .i64 0)] ∧ Blk W' (W.heap.size + 1) 4 [.bool false] ∧ Below W.heap.size W W')
    (fun s A A' row hs hg hr => by
      have h := hInvS _ _ () A A' row hs.2.2 hg hr
      exact ⟨hSt _ h.2.2, rfl, h⟩)
    (fun k => OwnFrom.and (fun _ _ _ _ hs _ _ => hs) (hInvS _ _))
    (fun c => OwnFrom.and (fun _ _ _ _ hs _ _ => hs) (hInvS _ _))
    (OwnFrom.and (fun _ _ _ _ hs _ _ => hs) (hInvS _ _))
    (fun k a' => OwnFrom.and (fun _ _ _ _ hs _ _ => hs) (OwnFrom.and (fun _ _ _ _ hs _ _ => hs) (OwnFrom.and (fun _ _ _ _ hs _ _ => hs) (hInvS _ _))))
    ⟨hSt _ hB0, rfl, nb1, nb2, hB0⟩
    (hG.2 3 (fun k W' => k = 0 ∧ Blk W' W.heap.size 2 [(.int .i64 0)] ∧ Blk W' (W.heap.size + 1) 4 [.bool false] ∧ Below W.heap.size W W') (fun k W' h => hN _ h.2.2.2)
      (fun k W' m h => ⟨h.1, h.2.1.drewN m, h.2.2.1.drewN m, ⟨h.2.2.2.os, h.2.2.2.tape, h.2.2.2.output, h.2.2.2.size, h.2.2.2.block⟩⟩))
    ?assign ?body ?done ?stop)
  case assign =>
    rintro l k W' K ⟨hk, h0, b1, b2, hB⟩ hK
    have H0 := Lib.hid h0
    clear h0
    obtain ⟨⟨x, y⟩, hx⟩ : ∃ x, zs.getD k d0 = x := ⟨_, rfl⟩
    rw [hx] at hK ⊢
    unfold ek ev at hK ⊢
    gi_wp2
    exact hK _ _ (KeepsFrom.refl _ _) ⟨rfl, hk, H0.out, b1, b2, hB⟩
  case body =>
    rintro l k a' W' hl hr ⟨rfl, hk, rfl, b1, b2, hB⟩
    have c1 := b1.cell (i := 0) rfl
    have c2 := b2.cell (i := 0) rfl
    have f1 := b1.frozen 0
    have f2 := b2.frozen 0
    have B1 := Lib.hid b1; have B2 := Lib.hid b2
    clear b1 b2
    obtain ⟨x, hx⟩ : ∃ x, (zs.getD 0 d0).1 = x := ⟨_, rfl⟩
    rw [hx]
    unfold ek
    gi_wp2
    have hg1 := grownBy_setAt W' W.heap.size 0 (.int .i64 x)
    have hg2 := grownBy_setAt (W'.setCell ⟨W.heap.size, 0, none⟩ (.int .i64 x)) (W.heap.size + 1) 0 (.bool true)
    refine ⟨(KeepsFrom.of_grownBy hg1 (fun j e => by cases e; omega)).trans (KeepsFrom.of_grownBy hg2 (fun j e => by cases e; omega)), ⟨rfl, hk⟩, ?_, ?_, ?_⟩
    · exact (B1.out.set 0 _).other (by simp) _
    · exact (B2.out.other (by simp) _).set 0 _
    · exact (hB.setCell (p := ⟨W.heap.size, 0, none⟩) (Nat.le_refl _) _).setCell (p := ⟨W.heap.size + 1, 0, none⟩) (by simp) _
  case done =>
    rintro D W' hD ⟨hz, b1, b2, hB⟩ hK
    have c1 := b1.cell (i := 0) rfl
    have c2 := b2.cell (i := 0) rfl
    have f1 := b1.frozen 0
    have f2 := b2.frozen 0
    obtain rfl : zs = [] := List.eq_nil_of_length_eq_zero hz
    go_wp2
    have b1' := (b1.set 0 (.int .i64 0)).other (p := ⟨W.heap.size + 1, 0, none⟩) (by simp) (.bool false)
    have b2' := (b2.other (p := ⟨W.heap.size, 0, none⟩) (by simp) (.int .i64 0)).set 0 (.bool false)
    have hK3 := (Below.heap_setCell (W'.setCell ⟨W.heap.size, 0, none⟩ (.int .i64 0)) ⟨W.heap.size + 1, 0, none⟩ (.bool false) D (by simp; omega)).trans ((Below.heap_setCell W' ⟨W.heap.size, 0, none⟩ (.int .i64 0) D (by simp; omega)).trans hK)
    have hB3 := (hB.setCell (p := ⟨W.heap.size, 0, none⟩) (Nat.le_refl _) (.int .i64 0)).setCell (p := ⟨W.heap.size + 1, 0, none⟩) (by simp) (.bool false)
    obtain ⟨W3, hW3⟩ : ∃ W3, ((W'.setCell ⟨W.heap.size, 0, none⟩ (.int .i64 0)).setCell ⟨W.heap.size + 1, 0, none⟩ (.bool false)) = W3 := ⟨_, rfl⟩
    rw [hW3] at b1' b2' hK3 hB3 ⊢
    clear hW3 c1 c2 f1 f2 b1 b2
    refine ⟨by simp, .inl ⟨_, _, rfl, run_takeDeferred hK3, ?_⟩⟩
    have c1 := (b1'.kept (grownBy_putObj' W3 D (.deferred none)) (by simp; omega)).cell (i := 0) rfl
    have c2 := (b2'.kept (grownBy_putObj' W3 D (.deferred none)) (by simp; omega)).cell (i := 0) rfl
    refine ⟨.tuple #[ek (([] : List Pr).getD 0 d0).1, .bool (!([] : List Pr).isEmpty)], (results_cell2 rfl _ _ _).trans ?_, rfl, hB3.trans (belowK_b (w := W2) (by omega) W3 D _ _ hD hK3 rfl rfl)⟩
    go_simp
    rfl
  case stop =>
    rintro D c W' hD ⟨⟨rfl, hz⟩, b1, b2, hB⟩ hK
    gi_wp2
    refine ⟨by simp, .inl ⟨_, _, rfl, run_takeDeferred hK, ?_⟩⟩
    have c1 := (b1.kept (grownBy_putObj' W' D (.deferred none)) (by simp; omega)).cell (i := 0) rfl
    have c2 := (b2.kept (grownBy_putObj' W' D (.deferred none)) (by simp; omega)).cell (i := 0) rfl
    refine ⟨.tuple #[ek (zs.getD 0 d0).1, .bool true], (results_cell2 rfl _ _ _).trans ?_, ?_, hB.trans (belowK_b (w := W2) (by omega) W' D _ _ hD hK rfl rfl)⟩
    · go_simp
    · cases zs with
      | nil => simp at hz
      | cons z zs => rfl
theorem own_tm (p : Nat) (xs : List Pr) : Own (fun (_ : Unit) W => TMx W p xs) := fun s A B row hs hg hr => by
  have hk : ∀ t, KT t A B := fun t => KT.grown hg (fun r e => by
    obtain ⟨o, ho, hc⟩ := hr r e
    exact ⟨o, ho, fun cs fr e2 => by rw [e2] at hc; simp [Obj.isCells] at hc⟩)
  exact TM.kept hs (hk _) (hk _)
def putsL (l : List Pr) (zs : List Pr) : List Pr := zs.foldl (fun l p => putL ltI l p.1 p.2) l
theorem putsL_take (l zs : List Pr) {k : Nat} (hk : k < zs.length) : putsL l (zs.take (k + 1)) = putL ltI (putsL l (zs.take k)) (zs.getD k d0).1 (zs.getD k d0).2 := by
  rw [List.take_succ_eq_append_getElem hk]
  unfold putsL
  rw [List.foldl_append]
  simp [List.getD, hk]
theorem putsL_len (l zs : List Pr) : (putsL l zs).length ≤ l.length + zs.length := by
  unfold putsL
  induction zs generalizing l with
  | nil => simp
  | cons z zs ih =>
    rw [List.foldl_cons]
    have := ih (putL ltI l z.1 z.2)
    have h2 := putL_len l z.1 z.2
    rw [List.length_cons]
    omega
theorem putsL_sd (l zs : List Pr) (h : Sd ltI l) : Sd ltI (putsL l zs) := by
  unfold putsL
  induction zs generalizing l with
  | nil => exact h
  | cons z zs ih => rw [List.foldl_cons]; exact ih _ (putL_sd lin h z.1 z.2)
set_option maxRecDepth 100000 in
set_option maxHeartbeats 4000000 in
theorem of_any (W : World) (G : Nat) (lb : Array Value) (St N : World → Prop) (zs : List Pr) (hG : Gives2 G lb St N zs) (hz : zs.length < 1099511627776)
    (hSt : ∀ W', Below W.heap.size W W' → St W') (hN : ∀ W', Below W.heap.size W W' → N W') :
    Calls Try.prog 24 #[.func (.func G) #[] lb] W fun e w' => e = .returned (.pointer (some ⟨W.heap.size, 0, none⟩)) ∧ TMx w' W.heap.size (putsL [] zs) ∧ Below W.heap.size W w' := by
  refine (callsIn_wide (n := 4)).1 ?_
  refine callsIn_of_wp_marks Try.func24 rfl trivial ?_ rfl
  refine wpIn_wide.2 ?_
  simp only [Try.ntmps24, List.size_toArray, List.length_cons, List.length_nil, Nat.reduceAdd, Nat.reduceSub, Array.replicate_succ, Array.replicate_zero, List.push_toArray, List.append_toArray, List.nil_append, List.cons_append]
  go_wp2_with fail
  have nb1 := (Blk.new W [.pointer none] 73).alloc (.cells #[.pointer (some ⟨W.heap.size, 0, none⟩)] 24)
  have nb2 := Blk.new2 W (.cells #[.pointer none] 73) [.pointer (some ⟨W.heap.size, 0, none⟩)] 24
  have hB0 := bel_alloc2 W (.cells #[.pointer none] 73) (.cells #[.pointer (some ⟨W.heap.size, 0, none⟩)] 24)
  obtain ⟨W2, hW2⟩ : ∃ W2, ((W.alloc (.cells #[.pointer none] 73)).alloc (.cells #[.pointer (some ⟨W.heap.size, 0, none⟩)] 24)) = W2 := ⟨_, rfl⟩
  rw [hW2] at nb1 nb2 hB0 ⊢
  have hz2 : W2.heap.size = W.heap.size + 1 + 1 := by rw [← hW2]; simp
  clear hW2
  have hT0 : TMx W2 W.heap.size [] := ⟨none, .leaf, nb1, rfl, rfl⟩
  have hInvS : ∀ xs, OwnFrom W2.heap.size (fun (_ : Unit) W' => TMx W' W.heap.size xs ∧ Blk W' (W.heap.size + 1) 24 [.pointer (some ⟨W.heap.size, 0, none⟩)] ∧ Below W.heap.size W W') := fun xs =>
    OwnFrom.and (Own.from (own_tm _ _) _) (OwnFrom.and (Own.from (blk_own _ _ (fun _ => _)) _) (ownFrom_below (Nat.le_refl _) (by omega)))
  refine wpIn_wide.1 (range_gen (F := Fence.wide) (n := 4) rfl (by omega) (gf := G) (lb := lb) rfl trivial hG.1 (encs := fun k : Nat => #[ek (zs.getD k d0).1, ev (zs.getD k d0).2]) (fun _ => rfl)
    (fun W' => St W' ∧ TMx W' W.heap.size (putsL [] (zs.take 0)) ∧ Blk W' (W.heap.size + 1) 24 [.pointer (some ⟨W.heap.size, 0, none⟩)] ∧ Below W.heap.size W W')
    (fun k W' => k < zs.length ∧ TMx W' W.heap.size (putsL [] (zs.take k)) ∧ Blk W' (W.heap.size + 1) 24 [.pointer (some ⟨W.heap.size, 0, none⟩)] ∧ Below W.heap.size W W')
    (fun k W' => TMx W' W.heap.size (putsL [] (zs.take (k + 1))) ∧ Blk W' (W.heap.size + 1) 24 [.pointer (some ⟨W.heap.size, 0, none⟩)] ∧ Below W.heap.size W W')
    (fun _ _ => False)
    (fun W' => TMx W' W.heap.size (putsL [] (zs.take zs.length)) ∧ Blk W' (W.heap.size + 1) 24 [.pointer (some ⟨W.heap.size, 0, none⟩)] ∧ Below W.heap.size W W')
    (fun k a' W' => a' = { tmps := #[.func (.func G) #[] lb, undef, .pointer none, .pointer (some ⟨W.heap.size + 1, 0, none⟩), ek (zs.getD k d0).1, ev (zs.getD k d0).2, .agg #[.pointer none], .pointer (some ⟨W.heap.size, 0, none⟩), .func (.func G) #[] lb, ek (zs.getD k d0).1, ev (zs.getD k d0).2, undef, undef, undef, undef, undef], defers := [] } ∧ k < zs.length ∧ TMx W' W.heap.size (putsL [] (zs.take k)) ∧ Blk W' (W.heap.size + 1) 24 [.pointer (some ⟨W.heap.size, 0, none⟩)] ∧ Below W.heap.size W W')
    (fun s A A' row hs hg hr => by
      have h := hInvS _ () A A' row hs.2 hg hr
      exact ⟨hSt _ h.2.2, h⟩)
    (fun k => hInvS _)
    (fun _ _ _ _ _ hs _ _ => hs)
    (hInvS _)
    (fun k a' => OwnFrom.and (fun _ _ _ _ hs _ _ => hs) (OwnFrom.and (fun _ _ _ _ hs _ _ => hs) (hInvS _)))
    ⟨hSt _ hB0, hT0, nb2, hB0⟩
    (hG.2 3 (fun k W' => TMx W' W.heap.size (putsL [] (zs.take k)) ∧ Blk W' (W.heap.size + 1) 24 [.pointer (some ⟨W.heap.size, 0, none⟩)] ∧ Below W.heap.size W W') (fun k W' h => hN _ h.2.2)
      (fun k W' m h => ⟨h.1.kept (kt_drewN _ _) (kt_drewN _ _), h.2.1.drewN m, ⟨h.2.2.os, h.2.2.tape, h.2.2.output, h.2.2.size, h.2.2.block⟩⟩))
    ?assign ?body ?done ?stop)
  case assign =>
    rintro l k W' K ⟨hk, hT, hb, hB⟩ hK
    obtain ⟨⟨x, y⟩, hx⟩ : ∃ x, zs.getD k d0 = x := ⟨_, rfl⟩
    rw [hx] at hK ⊢
    unfold ek ev at hK ⊢
    gi_wp2
    exact hK _ _ (KeepsFrom.refl _ _) ⟨rfl, hk, hT, hb, hB⟩
  case body =>
    rintro l k a' W' hl hr ⟨rfl, hk, hT, hb, hB⟩
    have hst : putsL [] (zs.take (k + 1)) = putL ltI (putsL [] (zs.take k)) (zs.getD k d0).1 (zs.getD k d0).2 := putsL_take [] zs hk
    have hln := putsL_len [] (zs.take k)
    rw [List.length_take, List.length_nil] at hln
    obtain ⟨⟨x, y⟩, hx⟩ : ∃ x, zs.getD k d0 = x := ⟨_, rfl⟩
    rw [hx] at hst ⊢
    rw [hst]
    unfold ek ev
    have cb := hb.cell (i := 0) rfl
    have HP := Lib.hid (putM_any W' W.heap.size _ x y hT (putsL_sd _ _ List.Pairwise.nil) (by omega))
    have HB := Lib.hid hb
    have plt := hT.lt
    clear hst hx hln hT hb
    gi_wp2_with (refine ⟨trivial, ?_⟩; gi_at_call 25; refine (CallsIn.inRound l (callsIn_wide.2 HP.out)).mono ?_; rintro e w3 ⟨rfl, hT3, hg3⟩)
    exact ⟨KeepsFrom.of_grownBy hg3 (fun j e => by cases e; omega), hT3, HB.out.kept hg3 (by simp), hB.grown hg3 (by omega) (fun r e => by cases e; omega)⟩
  case done =>
    rintro D W' hD ⟨hT, hb, hB⟩ hK
    have cb := hb.cell (i := 0) rfl
    rw [List.take_length] at hT
    go_wp2
    refine ⟨by simp, .inl ⟨_, _, rfl, run_takeDeferred hK, ?_⟩⟩
    exact ⟨_, results_tmp rfl _ _ _, rfl, (own_tm _ _).putObj (s := ()) _ hT hK rfl, hB.trans (belowK_b (w := W2) (by omega) W' D _ _ hD hK rfl rfl)⟩
  case stop =>
    rintro D c W' hD h hK
    exact h.elim

end Go.Proofs.Ytgoomogpcfpekaa.TabN
