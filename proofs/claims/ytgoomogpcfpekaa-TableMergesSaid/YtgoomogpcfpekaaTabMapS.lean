/- table: of what is made of each. -/
import Derived.Test.YtgoomogpcfpekaaTabN12
import Derived.Test.YtgoomogpcfpekaaTabS8
import Derived.Shelf.RegionOpen
set_option linter.unusedSimpArgs false
set_option linter.unusedVariables false
namespace Go.Proofs.Ytgoomogpcfpekaa.TabMapS
open Go.RowKit Go.Proofs.Ytgoomogpcfpekaa.TabL Go.Proofs.Ytgoomogpcfpekaa.TabN
attribute [local go_sem] Oper.semAt_some

section
variable {F : Fence} {n : Nat} {P : Program} {ops : Array Oper} {Q : Exit → Act → World → Prop} {md : Region.Mode}
def noDefer (ops : Array Oper) : Bool := ops.all (fun o => match o.op with | .defer _ => false | _ => true)
theorem wpOpIn_inRound (l : Nat) (hro : F.round = none) (hnd : noDefer ops = true) {i : Nat} {K : Act → World → Prop} {a : Act} {w : World} (h : wpOpIn F n P ops Q i K a w) : wpOpIn (F.inRound l) n P ops Q i K a w := by
  unfold wpOpIn at *
  cases ho : ops[i]? with
  | none => simpa [ho] using h
  | some o =>
    have hd : ∀ c, o.op ≠ .defer c := fun c e => by
      have h1 := Array.all_eq_true.1 hnd i (Array.getElem?_eq_some_iff.1 ho).1
      rw [(Array.getElem?_eq_some_iff.1 ho).2, e] at h1
      simp at h1
    simp only [ho] at h ⊢
    split
    · rename_i hw
      rw [if_pos hw] at h
      unfold Oper.wpIn at *
      rw [hro, Oper.semAt_none] at h
      rw [show (F.inRound l).round = some l from rfl, Oper.semAt_some l _ _ hd]
      exact h
    · rename_i hw
      rw [if_neg hw] at h
      exact h
/-- a region within a round goes as anywhere -/
theorem wpAnyIn_inRound (l : Nat) (hro : F.round = none) (hnd : noDefer ops = true) : ∀ {fuel : Nat} {listed : Array Bool} {a : Act} {w : World}, wpAnyIn F n P md ops Q fuel listed a w → wpAnyIn (F.inRound l) n P md ops Q fuel listed a w
  | 0, _, _, _, h => h
  | fuel + 1, _, _, _, h => ⟨h.1, fun i hi => wpOpIn_inRound l hro hnd (wpOpIn_mono (fun a w => wpAnyIn_inRound l hro hnd) (h.2 i hi))⟩
end
theorem putL_snoc {K V : Type} {lt : K → K → Bool} (ho : Lin lt) {l : List (K × V)} {k : K} {v : V} (h : ∀ q ∈ l, lt q.1 k = true) : putL lt l k v = l ++ [(k, v)] := by
  induction l with
  | nil => rfl
  | cons q l ih =>
    have h1 := h q List.mem_cons_self
    rw [putL, ho.asym h1, h1, ih (fun x hx => h x (List.mem_cons_of_mem _ hx))]
    rfl
def mapL (tf : Int → Int → ByteArray) (xs : List Pr) : List (Int × ByteArray) := xs.map (fun p => (p.1, tf p.1 p.2))
theorem mapL_sd (tf : Int → Int → ByteArray) {xs : List Pr} (h : Sd ltI xs) : Sd TabS.ltI (mapL tf xs) := by
  unfold Sd mapL
  rw [List.pairwise_map]
  exact h
theorem mapL_put (tf : Int → Int → ByteArray) {xs : List Pr} (h : Sd ltI xs) {k : Nat} (hk : k < xs.length) : putL TabS.ltI (mapL tf (xs.take k)) (xs.getD k d0).1 (tf (xs.getD k d0).1 (xs.getD k d0).2) = mapL tf (xs.take (k + 1)) := by
  have e : xs.take (k + 1) = xs.take k ++ [xs.getD k d0] := by rw [List.take_succ_eq_append_getElem hk]; simp [List.getD, hk]
  rw [putL_snoc TabS.lin, e]
  · simp [mapL]
  · intro q hq
    obtain ⟨p, hp, rfl⟩ := List.mem_map.1 hq
    have h2 : Sd ltI (xs.take (k + 1)) := List.Pairwise.sublist (List.take_sublist _ _) h
    rw [e] at h2
    exact (List.pairwise_append.1 h2).2.2 p hp _ (List.mem_singleton.2 rfl)
theorem own_tmJ (p : Nat) (xs : List (Int × ByteArray)) : Own (fun (_ : Unit) W => TabS.TMx W p xs) := fun s A B row hs hg hr => by
  have hk : ∀ t, KT t A B := fun t => KT.grown hg (fun r e => by
    obtain ⟨o, ho, hc⟩ := hr r e
    exact ⟨o, ho, fun cs fr e2 => by rw [e2] at hc; simp [Obj.isCells] at hc⟩)
  exact TM.kept hs (hk _) (hk _)
theorem own_kt (t : TypeId) (w0 : World) : Own (fun (_ : Unit) W => KT t w0 W) := fun s A B row hs hg hr => hs.trans (KT.grown hg (fun r e => by
    obtain ⟨o, ho, hc⟩ := hr r e
    exact ⟨o, ho, fun cs fr e2 => by rw [e2] at hc; simp [Obj.isCells] at hc⟩))

/-- what Map holds while it goes on -/
def MI (w0 w1 : World) (fv : Value) (ys : List (Int × ByteArray)) (W : World) : Prop :=
  TabS.TMx W (w0.heap.size + 1) ys ∧ Blk W (w0.heap.size + 1 + 1) 74 [.pointer (some ⟨w0.heap.size + 1, 0, none⟩)] ∧ Blk W w0.heap.size 76 [fv] ∧ KT 84 w1 W ∧ Below w0.heap.size w0 W
theorem MI.ownF (w0 w1 : World) (fv : Value) (ys : List (Int × ByteArray)) {b : Nat} (hb : w0.heap.size ≤ b) : OwnFrom b (fun (_ : Unit) W => MI w0 w1 fv ys W) :=
  OwnFrom.and (Own.from (own_tmJ _ _) _) (OwnFrom.and (Own.from (blk_own _ _ (fun _ => _)) _) (OwnFrom.and (Own.from (blk_own _ _ (fun _ => _)) _) (OwnFrom.and (Own.from (own_kt _ _) _) (ownFrom_below (Nat.le_refl _) hb))))

set_option maxRecDepth 100000 in
set_option maxHeartbeats 4000000 in
theorem map_any (W : World) (p : Nat) (xs : List Pr) (F : Nat) (lbt : Array Value) (tf : Int → Int → ByteArray) (h : TMx W p xs) (hs : Sd ltI xs) (hl : xs.length < 1099511627776)
    (hen : ∀ args w, (callFunc F args).run Try.prog w = .ok (.enter F args) w)
    (hF : ∀ W' k v, (k, v) ∈ xs → Below W.heap.size W W' → Calls Try.prog F (#[.int .i64 k, .int .i64 v] ++ lbt) W' fun e w' => e = .returned (.string (tf k v)) ∧ W' = w') :
    Calls Try.prog 40 #[.pointer (some ⟨p, 0, none⟩), .func (.func F) #[] lbt] W fun e w' => e = .returned (.pointer (some ⟨W.heap.size + 1, 0, none⟩)) ∧ TabS.TMx w' (W.heap.size + 1) (mapL tf xs) ∧ Below W.heap.size W w' := by
  obtain ⟨q, T0, h1, h2, rfl⟩ := h
  obtain ⟨xs, hxs⟩ : ∃ xs, T0.toL = xs := ⟨_, rfl⟩
  have hplt := h1.lt
  obtain ⟨W1, hW1⟩ : ∃ W1, ((((W.alloc (.cells #[.func (.func F) #[] lbt] 76)).alloc (.cells #[.pointer none] 98)).alloc (.cells #[.pointer (some ⟨W.heap.size + 1, 0, none⟩)] 74)).alloc (.cells #[.pointer (some ⟨p, 0, none⟩)] 24)) = W1 := ⟨_, rfl⟩
  have hz1 : W1.heap.size = W.heap.size + 4 := by rw [← hW1]; simp
  have hB1 : Below W.heap.size W W1 := by rw [← hW1]; exact ((bel_alloc2 W _ _).alloc (by simp; omega) _).alloc (by simp; omega) _
  have nb0 : Blk W1 W.heap.size 76 [.func (.func F) #[] lbt] := by rw [← hW1]; exact (((Blk.new W [.func (.func F) #[] lbt] 76).alloc _).alloc _).alloc _
  have nb1 : Blk W1 (W.heap.size + 1) 98 [.pointer none] := by rw [← hW1]; exact ((Blk.new2 W _ [.pointer none] _).alloc _).alloc _
  have nb2 : Blk W1 (W.heap.size + 1 + 1) 74 [.pointer (some ⟨W.heap.size + 1, 0, none⟩)] := by
    rw [← hW1]
    have := Blk.new2 (W.alloc (.cells #[.func (.func F) #[] lbt] 76)) (.cells #[.pointer none] 98) [.pointer (some ⟨W.heap.size + 1, 0, none⟩)] 74
    rw [World.size_alloc] at this
    exact this.alloc _
  have nb3 : Blk W1 (W.heap.size + 1 + 1 + 1) 24 [.pointer (some ⟨p, 0, none⟩)] := by
    rw [← hW1]
    have := Blk.new2 ((W.alloc (.cells #[.func (.func F) #[] lbt] 76)).alloc (.cells #[.pointer none] 98)) (.cells #[.pointer (some ⟨W.heap.size + 1, 0, none⟩)] 74) [.pointer (some ⟨p, 0, none⟩)] 24
    rw [World.size_alloc, World.size_alloc] at this
    exact this
  have hG := all_gives W1 (W.heap.size + 1 + 1 + 1) p q T0 (h2.below hB1)
  have hP1 := h1.belowS hB1
  rw [hxs] at hG hs hl hF ⊢
  clear h2 hxs
  refine (callsIn_wide (n := 4)).1 ?_
  refine callsIn_of_wp_marks Try.func40 rfl trivial ?_ rfl
  refine wpIn_wide.2 ?_
  simp only [Try.ntmps40, List.size_toArray, List.length_cons, List.length_nil, Nat.reduceAdd, Nat.reduceSub, Array.replicate_succ, Array.replicate_zero, List.push_toArray, List.append_toArray, List.nil_append, List.cons_append]
  go_wp2_with fail
  refine (all_any _ _).mono ?_; rintro e w1 ⟨rfl, rfl⟩
  go_wp2_with fail
  try rw [hW1]
  clear hW1
  have hsO : ∀ ys, OwnFrom W1.heap.size (fun (_ : Unit) W' => MI W W1 (.func (.func F) #[] lbt) ys W') := fun ys => MI.ownF W W1 _ ys (by omega)
  have hM0 : MI W W1 (.func (.func F) #[] lbt) (mapL tf (xs.take 0)) W1 := ⟨⟨none, .leaf, nb1, rfl, rfl⟩, nb2, nb0, KT.refl _ _, hB1⟩
  refine wpIn_wide.1 (range_gen (F := Fence.wide) (n := 4) rfl (by omega) (gf := 45) (lb := #[.pointer (some ⟨W.heap.size + 1 + 1 + 1, 0, none⟩)]) rfl trivial hG.1 (encs := fun k : Nat => #[ek (xs.getD k d0).1, ev (xs.getD k d0).2]) (fun _ => rfl)
    (fun W' => (W'.cell? ⟨W.heap.size + 1 + 1 + 1, 0, none⟩ = some (.pointer (some ⟨p, 0, none⟩)) ∧ W'.cell? ⟨p, 0, none⟩ = some (.pointer q)) ∧ MI W W1 (.func (.func F) #[] lbt) (mapL tf (xs.take 0)) W')
    (fun k W' => k < xs.length ∧ MI W W1 (.func (.func F) #[] lbt) (mapL tf (xs.take k)) W')
    (fun k W' => MI W W1 (.func (.func F) #[] lbt) (mapL tf (xs.take (k + 1))) W')
    (fun _ _ => False)
    (fun W' => MI W W1 (.func (.func F) #[] lbt) (mapL tf (xs.take xs.length)) W')
    (fun k a' W' => a' = { tmps := #[.pointer (some ⟨p, 0, none⟩), .func (.func F) #[] lbt, undef, .pointer (some ⟨W.heap.size, 0, none⟩), .pointer none, .pointer (some ⟨W.heap.size + 1 + 1, 0, none⟩), ek (xs.getD k d0).1, ev (xs.getD k d0).2, .agg #[.pointer none], .pointer (some ⟨W.heap.size + 1, 0, none⟩), .pointer (some ⟨p, 0, none⟩), .func (.func 45) #[] #[.pointer (some ⟨W.heap.size + 1 + 1 + 1, 0, none⟩)], ek (xs.getD k d0).1, ev (xs.getD k d0).2, undef, undef, undef, undef, undef, undef, undef, undef], defers := [] } ∧ k < xs.length ∧ MI W W1 (.func (.func F) #[] lbt) (mapL tf (xs.take k)) W')
    (fun s A A' row hs hg hr => ⟨⟨cell_kept hs.1.1 hg (fun r e => (hr r e).2), cell_kept hs.1.2 hg (fun r e => (hr r e).2)⟩, hsO _ () A A' row hs.2 hg hr⟩)
    (fun k => hsO _)
    (fun _ _ _ _ _ hs _ _ => hs)
    (hsO _)
    (fun k a' => OwnFrom.and (fun _ _ _ _ hs _ _ => hs) (OwnFrom.and (fun _ _ _ _ hs _ _ => hs) (hsO _)))
    ⟨⟨nb3.cell (i := 0) rfl, hP1.cell (i := 0) rfl⟩, hM0⟩
    (hG.2 3 (fun k W' => MI W W1 (.func (.func F) #[] lbt) (mapL tf (xs.take k)) W') (fun k W' h => h.2.2.2.1)
      (fun k W' j h => hsO _ () W' _ none h ⟨rfl, rfl, rfl, Nat.le_refl _, fun _ _ _ => rfl⟩ (fun r e => by cases e)))
    ?assign ?body ?done ?stop)
  case assign =>
    rintro l k W' K ⟨hk, hP⟩ hK
    obtain ⟨⟨x, y⟩, hx⟩ : ∃ x, xs.getD k d0 = x := ⟨_, rfl⟩
    rw [hx] at hK ⊢
    unfold ek ev at hK ⊢
    gi_wp2
    exact hK _ _ (KeepsFrom.refl _ _) ⟨rfl, hk, hP⟩
  case body =>
    rintro l k a' W' hl2 hr ⟨rfl, hk, hT, hb2, hb0, hKT, hB⟩
    have hst := mapL_put tf hs hk
    have hln : (mapL tf (xs.take k)).length < 1099511627776 := by unfold mapL; rw [List.length_map, List.length_take]; omega
    have hsd := mapL_sd tf (List.Pairwise.sublist (List.take_sublist k xs) hs)
    obtain ⟨⟨x, y⟩, hx⟩ : ∃ x, xs.getD k d0 = x := ⟨_, rfl⟩
    have hmem : (x, y) ∈ xs := by rw [← hx]; simp [List.getD, hk]
    rw [hx] at hst ⊢
    obtain ⟨ys, hys⟩ : ∃ ys, mapL tf (xs.take k) = ys := ⟨_, rfl⟩
    rw [hys] at hst hln hsd hT
    rw [← hst]
    unfold ek ev
    dsimp only
    obtain ⟨z, hz⟩ : ∃ z, tf x y = z := ⟨_, rfl⟩
    have c2 := hb2.cell (i := 0) rfl
    have c0 := hb0.cell (i := 0) rfl
    have HT := Lib.hid (fun n => hF (W'.drewN n) x y hmem ⟨hB.os, hB.tape, hB.output, hB.size, hB.block⟩)
    rw [hz] at HT ⊢
    have HP := Lib.hid (fun n => TabS.putM_any (W'.drewN n) (W.heap.size + 1) ys x z (hT.kept (kt_drewN _ _) (kt_drewN _ _)) hsd hln)
    have HT1 := Lib.hid hT
    have HB2 := Lib.hid hb2; have HB0 := Lib.hid hb0; have HKT := Lib.hid hKT; have HB := Lib.hid hB
    have plt := hT.lt
    have FIN : ∀ w3, TabS.TMx w3 (W.heap.size + 1) (putL TabS.ltI ys x z) → (W'.drewN 1).grownBy w3 (some (W.heap.size + 1)) → KeepsFrom W1.heap.size W' w3 ∧ MI W W1 (.func (.func F) #[] lbt) (putL TabS.ltI ys x z) w3 := fun w3 hT3 hg3 => by
      have hgW : W'.grownBy w3 (some (W.heap.size + 1)) := ⟨hg3.os, hg3.tape, hg3.output, hg3.size, hg3.block⟩
      have hs3 := hB.size
      obtain ⟨q3, T3, hP3, _⟩ := hT
      exact ⟨KeepsFrom.of_grownBy hgW (fun j e => by cases e; omega), hT3, hb2.kept hgW (by simp), hb0.kept hgW (by simp), hKT.trans (KT.grownP hgW hP3 (by decide)), hB.grown hgW (by omega) (fun r e => by cases e; omega)⟩
    clear hst hx hln hT hb2 hb0 hKT hB hs hsO hM0 hys hsd hz hF
    gi_wp2_with fail
    refine wpIn_region_any (by kernel_rfl) (wpAnyIn_inRound (F := Fence.wide) l rfl (by kernel_rfl) ?_)
    change wpAnyIn _ _ _ _ _ _ _ _ _ (World.drew _)
    refine wpAnyIn_take (i := 1) (v := ?_) rfl rfl (by kernel_rfl) (by kernel_rfl) (by kernel_rfl) (fun _ _ _ h => h) ⟨Or.inl ⟨by rfl, ?_⟩, fun _ => rfl⟩ ?_
    rotate_left
    · (intro w; go_simp) <;> with_reducible rfl
    try go_simp
    refine wpAnyIn_take (i := 3) (v := ?_) rfl rfl (by kernel_rfl) (by kernel_rfl) (by kernel_rfl) (fun _ _ _ h => h) ⟨Or.inl ⟨by rfl, ?_⟩, fun _ => rfl⟩ ?_
    rotate_left
    · (intro w; go_simp) <;> with_reducible rfl
    try go_simp
    refine wpAnyIn_take (i := 4) (v := ?_) rfl rfl (by kernel_rfl) (by kernel_rfl) (by kernel_rfl) (fun _ _ _ h => h) ⟨Or.inl ⟨by rfl, ?_⟩, fun _ => rfl⟩ ?_
    rotate_left
    · (intro w; go_simp) <;> with_reducible rfl
    try go_simp
    refine wpAnyIn_ready (rs := [0, 2]) (by kernel_rfl) (by simp) (AllReadyIn.cons rfl (fun K hK => ?_) (AllReadyIn.cons rfl (fun K hK => ?_) AllReadyIn.nil))
    all_goals (go_simp; refine hK _ _ ?_; clear hK K; try go_simp)
    ·
      refine wpAnyIn_ready (rs := [2]) (by kernel_rfl) (by simp) (AllReadyIn.cons rfl (fun K hK => ?_) AllReadyIn.nil)
      go_simp
      refine hK _ _ ?_
      clear hK K
      try go_simp
      refine wpAnyIn_ready (rs := [5]) (by kernel_rfl) (by simp) (AllReadyIn.cons rfl (fun K hK => ?_) AllReadyIn.nil)
      go_simp
      gi_wp2_with fail
      refine ⟨trivial, ?_⟩
      refine (callsIn_wide.2 (HT.out 1)).mono ?_
      rintro e w3 ⟨rfl, rfl⟩
      refine hK _ _ ?_
      clear hK K
      try go_simp
      refine wpAnyIn_ready (rs := [6]) (by kernel_rfl) (by simp) (AllReadyIn.cons rfl (fun K hK => ?_) AllReadyIn.nil)
      go_simp
      gi_wp2_with fail
      refine ⟨trivial, ?_⟩
      refine (callsIn_wide.2 (HP.out 1)).mono ?_
      rintro e w3 ⟨rfl, hT3, hg3⟩
      refine hK _ _ ?_
      clear hK K
      refine wpAnyIn_done (by kernel_rfl) ?_ _
      gi_wp2_with fail
      exact FIN w3 hT3 hg3
    · refine wpAnyIn_ready (rs := [0, 5]) (by kernel_rfl) (by simp) (AllReadyIn.cons rfl (fun K hK => ?_) (AllReadyIn.cons rfl (fun K hK => ?_) AllReadyIn.nil))
      · go_simp
        refine hK _ _ ?_
        clear hK K
        try go_simp
        refine wpAnyIn_ready (rs := [5]) (by kernel_rfl) (by simp) (AllReadyIn.cons rfl (fun K hK => ?_) AllReadyIn.nil)
        go_simp
        gi_wp2_with fail
        refine ⟨trivial, ?_⟩
        refine (callsIn_wide.2 (HT.out 1)).mono ?_
        rintro e w3 ⟨rfl, rfl⟩
        refine hK _ _ ?_
        clear hK K
        try go_simp
        refine wpAnyIn_ready (rs := [6]) (by kernel_rfl) (by simp) (AllReadyIn.cons rfl (fun K hK => ?_) AllReadyIn.nil)
        go_simp
        gi_wp2_with fail
        refine ⟨trivial, ?_⟩
        refine (callsIn_wide.2 (HP.out 1)).mono ?_
        rintro e w3 ⟨rfl, hT3, hg3⟩
        refine hK _ _ ?_
        clear hK K
        refine wpAnyIn_done (by kernel_rfl) ?_ _
        gi_wp2_with fail
        exact FIN w3 hT3 hg3
      · go_simp
        gi_wp2_with fail
        refine ⟨trivial, ?_⟩
        refine (callsIn_wide.2 (HT.out 1)).mono ?_
        rintro e w3 ⟨rfl, rfl⟩
        refine hK _ _ ?_
        clear hK K
        try go_simp
        refine wpAnyIn_ready (rs := [0]) (by kernel_rfl) (by simp) (AllReadyIn.cons rfl (fun K hK => ?_) AllReadyIn.nil)
        go_simp
        refine hK _ _ ?_
        clear hK K
        try go_simp
        refine wpAnyIn_ready (rs := [6]) (by kernel_rfl) (by simp) (AllReadyIn.cons rfl (fun K hK => ?_) AllReadyIn.nil)
        go_simp
        gi_wp2_with fail
        refine ⟨trivial, ?_⟩
        refine (callsIn_wide.2 (HP.out 1)).mono ?_
        rintro e w3 ⟨rfl, hT3, hg3⟩
        refine hK _ _ ?_
        clear hK K
        refine wpAnyIn_done (by kernel_rfl) ?_ _
        gi_wp2_with fail
        exact FIN w3 hT3 hg3
  case done =>
    rintro D W' hD ⟨hT, hb2, hb0, hKT, hB⟩ hK
    have c2 := hb2.cell (i := 0) rfl
    rw [List.take_length] at hT
    go_wp2
    refine ⟨by simp, .inl ⟨_, _, rfl, run_takeDeferred hK, ?_⟩⟩
    exact ⟨_, results_tmp rfl _ _ _, rfl, (own_tmJ _ _).putObj (s := ()) _ hT hK rfl, hB.trans (belowK_b (w := W1) (by omega) W' D _ _ hD hK rfl rfl)⟩
  case stop =>
    rintro D c W' hD h hK
    exact h.elim

end Go.Proofs.Ytgoomogpcfpekaa.TabMapS
