/- ledger, the statements' own: list. -/
import Derived.Test.YtmdacfgofilbdaaLed4
import Derived.Test.YtmdacfgofilbdaaLcd7
import Derived.Test.YtmdacfgofilbdaaLed4
import Derived.Test.YtmdacfgofilbdaaPLedgerPlaysx3
import Derived.Test.YtmdacfgofilbdaaCodP
set_option linter.unusedSimpArgs false
set_option linter.unusedVariables false
namespace Go.Proofs.Ytmdacfgofilbdaa.Led
open Go.RowKit Go.Shelf Go.Proofs.Ytmdacfgofilbdaa.TabL Go.Proofs.YtmdacfgofilbdaaW.PrintWords Go.Proofs.Ytmdacfgofilbdaa.PHoldPlays
open Go.Proofs.Ytmdacfgofilbdaa.TabB (ltI lin getV TMg ek ev Gives2 all_gives yieldAny)
attribute [local go_sem] Oper.semAt_some

abbrev tOne : TypeId := 115
theorem infoOne : (Try.prog.info? 115).map (fun i => (i.zero, i.size, i.bytes)) = some (some (.agg #[.int .i64 0, .int .i64 0]), 2, 16) := by kernel_rfl
def OutL (W : World) (base Bo : Nat) (xs : Bs) : Prop := ∃ v, Boxed W Bo 62 v ∧ W.ownsRow base 115 2 v xs.length (cellsOf cP2 xs)
theorem OutL.ownF (base Bo : Nat) (xs : Bs) : Own (fun (_ : Unit) W => OutL W base Bo xs) := fun s A B row hs hg hr => by
  obtain ⟨v, hb, ho⟩ := hs
  refine ⟨v, boxed_own Bo _ (fun _ : Unit => v) () A B row hb hg hr, ho.kept hg ?_⟩
  cases hv : v.ownBlock with
  | none => exact .inl rfl
  | some k =>
    refine .inr (fun e => ?_)
    obtain ⟨_, cs, fr, hc⟩ := own_typ ho k hv
    obtain ⟨o, ho', hcc⟩ := hr k (by rw [← e])
    rw [hc] at ho'
    cases ho'
    simp [Obj.isCells] at hcc
def PIL (w0 : World) (Bo : Nat) (xs : Bs) (W : World) : Prop := OutL W w0.heap.size Bo xs ∧ Below w0.heap.size w0 W
theorem PIL.ownF (w0 : World) (Bo : Nat) (xs : Bs) {b : Nat} (hb : w0.heap.size ≤ b) : OwnFrom b (fun (_ : Unit) W => PIL w0 Bo xs W) :=
  OwnFrom.and (Own.from (OutL.ownF _ _ _) _) (ownFrom_below (Nat.le_refl _) hb)
set_option maxRecDepth 100000 in
set_option maxHeartbeats 4000000 in
theorem jlist_any (W : World) (p : Nat) (xs : Bs) {tt : TypeId} (h : TMg tt W p xs) (hz : xs.length < 1099511627776) :
    Calls Try.prog 34 #[.pointer (some ⟨p, 0, none⟩)] W fun e w' => ∃ v, e = .returned v ∧ w'.ownsRow W.heap.size tOne 2 v xs.length (cellsOf cP2 xs) ∧ Below W.heap.size W w' := by
  obtain ⟨q, T0, hbp, hT, hx⟩ := id h
  obtain ⟨i0, hi0, hiz0, hiz1, hiz2⟩ := info_parts infoOne
  refine (callsIn_wide (n := 4)).1 ?_
  refine callsIn_of_wp_marks Try.func34 rfl trivial ?_ rfl
  refine wpIn_wide.2 ?_
  simp only [Try.ntmps34, List.size_toArray, List.length_cons, List.length_nil, Nat.reduceAdd, Nat.reduceSub, Array.replicate_succ, Array.replicate_zero, List.push_toArray, List.append_toArray, List.nil_append, List.cons_append]
  go_wp2_with fail
  have by0 := (World.ownsRow_lit (base := W.heap.size) (e := tOne) (size := 2) W #[] 0 (Nat.le_refl _) (by decide) rfl).alloc (.cells #[.slice (some ⟨W.heap.size, 0, none⟩) 0 0] 62)
  have bo := Boxed.new (W.alloc (.cells #[] tOne)) 62 (.slice (some ⟨W.heap.size, 0, none⟩) 0 0)
  have hal1 : Below W.heap.size W ((W.alloc (.cells #[] tOne)).alloc (.cells #[.slice (some ⟨W.heap.size, 0, none⟩) 0 0] 62)) := ((Below.refl _ W).alloc (Nat.le_refl _) _).alloc (by simp) _
  rw [World.size_alloc] at bo
  obtain ⟨w1, hw1⟩ : ∃ w1, (W.alloc (.cells #[] tOne)).alloc (.cells #[.slice (some ⟨W.heap.size, 0, none⟩) 0 0] 62) = w1 := ⟨_, rfl⟩
  have hz1 : w1.heap.size = W.heap.size + 2 := by rw [← hw1]; simp
  rw [hw1] at hal1 bo by0 ⊢
  clear hw1
  refine (lall_any w1 p).mono ?_; rintro e w2 ⟨rfl, hw2⟩
  have hal2 : Below w1.heap.size w1 w2 := by rw [hw2]; exact (Below.refl _ w1).alloc (Nat.le_refl _) _
  have bB : Blk w2 w1.heap.size 129 [.pointer (some ⟨p, 0, none⟩)] := by rw [hw2]; exact Blk.new w1 _ _
  have hz2 : w2.heap.size = W.heap.size + 3 := by rw [hw2, World.size_alloc, hz1]
  have hPI0 : PIL W (W.heap.size + 1) (xs.take 0) w2 := by rw [hw2]; exact ⟨⟨_, bo.alloc _, by0.alloc _⟩, hal1.alloc hal1.size _⟩
  have hB2 := hal1.trans (hal2.mono hal1.size)
  have hG := all_gives W w1.heap.size p q T0 hT
  rw [hx] at hG
  have cB := bB.cell (i := 0) rfl
  have cp : w2.cell? ⟨p, 0, none⟩ = some (.pointer q) := (hbp.belowS hB2).cell (i := 0) rfl
  obtain ⟨g, hg⟩ : ∃ g, w1.heap.size = g := ⟨_, rfl⟩
  rw [hg] at hG cB hz1 ⊢
  subst hz1
  clear hw2 hal1 bo by0 hal2 bB hg h hbp hT hx
  go_wp2_with fail
  have hsO : ∀ xs, OwnFrom w2.heap.size (fun (_ : Unit) W' => PIL W (W.heap.size + 1) xs W') := fun xs => PIL.ownF W _ xs (by omega)
  refine wpIn_wide.1 (range_gen (F := Fence.wide) (n := 4) rfl (by omega) (gf := 102) (lb := #[.pointer (some ⟨W.heap.size + 2, 0, none⟩)]) rfl trivial hG.1 (encs := fun k : Nat => #[ek (xs.getD k d0).1, ev (xs.getD k d0).2]) (fun _ => rfl)
    (fun W' => (W'.cell? ⟨W.heap.size + 2, 0, none⟩ = some (.pointer (some ⟨p, 0, none⟩)) ∧ W'.cell? ⟨p, 0, none⟩ = some (.pointer q)) ∧ PIL W (W.heap.size + 1) (xs.take 0) W')
    (fun k W' => k < xs.length ∧ PIL W (W.heap.size + 1) (xs.take k) W')
    (fun k W' => PIL W (W.heap.size + 1) (xs.take (k + 1)) W')
    (fun c W' => False)
    (fun W' => PIL W (W.heap.size + 1) (xs.take xs.length) W')
    (fun k a' W' => a' = { tmps := #[.pointer (some ⟨p, 0, none⟩), undef, .slice none 0 0, .pointer (some ⟨W.heap.size + 1, 0, none⟩), ek (xs.getD k d0).1, ev (xs.getD k d0).2, .slice (some ⟨W.heap.size, 0, none⟩) 0 0, .pointer (some ⟨p, 0, none⟩), .func (.func 102) #[] #[.pointer (some ⟨W.heap.size + 2, 0, none⟩)], ek (xs.getD k d0).1, ev (xs.getD k d0).2, undef, undef, undef, undef, undef, undef, undef], defers := [] } ∧ k < xs.length ∧ PIL W (W.heap.size + 1) (xs.take k) W')
    (OwnFrom.and (OwnFrom.and (cell_own _ _) (cell_own _ _)) (hsO _))
    (fun k => hsO _)
    (fun c _ _ _ _ hs _ _ => hs)
    (hsO _)
    (fun k a' => OwnFrom.and (fun _ _ _ _ hs _ _ => hs) (OwnFrom.and (fun _ _ _ _ hs _ _ => hs) (hsO _)))
    ⟨⟨cB, cp⟩, hPI0⟩
    (hG.2 3 (fun k W' => PIL W (W.heap.size + 1) (xs.take k) W') (fun k W' h => KT.below h.2)
      (fun k W' j h => hsO _ () W' _ none h ⟨rfl, rfl, rfl, Nat.le_refl _, fun _ _ _ => rfl⟩ (fun r e => by cases e)))
    ?assign ?body ?done ?stop)
  case assign =>
    rintro l k W' K ⟨hk, hP⟩ hK
    obtain ⟨⟨x, y⟩, hx⟩ : ∃ x, xs.getD k d0 = x := ⟨_, rfl⟩
    rw [hx] at hK ⊢
    unfold ek ev at hK ⊢
    gi_wp2
    exact hK _ _ (KeepsFrom.refl _ _) ⟨rfl, hk, hP⟩
  case body =>
    rintro l k a' W' hl' hr ⟨rfl, hk, ⟨v, hv, hrow⟩, hB⟩
    have htk : xs.take (k + 1) = xs.take k ++ [xs.getD k d0] := by rw [List.take_succ_eq_append_getElem hk]; simp [List.getD, hk]
    obtain ⟨⟨x, y⟩, hx⟩ : ∃ x, xs.getD k d0 = x := ⟨_, rfl⟩
    rw [hx] at htk ⊢
    have hlk : (xs.take k).length = k := by rw [List.length_take]; omega
    rw [hlk] at hrow
    have HTK := Lib.hid htk; have HLK := Lib.hid hlk; have HKZ := Lib.hid hk
    clear htk hx hlk hsO
    have hc := hv.cell
    have hz1 := hB.size
    unfold ek ev
    gi_wp2_with (gi_at_builtin; refine wpListIn_append_own _ rfl _ _ 62 rfl W.heap.size 115 i0 _ 2 16 Try.underlying62 hi0 hiz0 hiz1 hiz2 rfl (by decide) _ k _ rfl (hrow.alloc _) ⟨W'.heap.size, 0, none⟩ 1 1 [.int .i64 x, .int .i64 y] rfl rfl (news_blk (Blk.new W' [.int .i64 x, .int .i64 y] 115)) (by simp [Value.oneCell']) (by unfold maxLen; omega) (by omega) (by simp; omega) ?_; intro v' w3 hown' hgrow _; obtain ⟨g', cap', rfl⟩ := ownsRow_succ hown'; obtain ⟨hv1, hv2, hr2, hk2, hb2⟩ := hv.appended (by decide) hrow hB.size (by omega) hown' hgrow; have hc1 := hv1.cell; have hf1 := hv1.frozen; have hc2 := hv2.cell)
    refine ⟨hk2.from _, ⟨⟨_, hv2, ?_⟩, hB.trans hb2⟩⟩
    rw [HTK.out, List.length_append, HLK.out, cellsOf_append, cellsOf_one]
    exact hr2
  case done =>
    rintro D W' hD ⟨⟨v, hv, hrow⟩, hB⟩ hK
    have hc := hv.cell
    rw [List.take_length] at hrow
    go_wp2
    refine ⟨by simp, .inl ⟨_, _, rfl, run_takeDeferred hK, ?_⟩⟩
    exact ⟨_, results_tmp rfl _ _ _, v, rfl, ownsRow_putObj hrow _ hK rfl, hB.trans (belowK_b (w := w2) (by omega) W' D _ _ hD hK rfl rfl)⟩
  case stop =>
    rintro D c W' hD hF hK
    exact hF.elim

end Go.Proofs.Ytmdacfgofilbdaa.Led

/- ledger: Write. -/
set_option linter.unusedSimpArgs false
set_option linter.unusedVariables false
namespace Go.Proofs.Ytmdacfgofilbdaa.Led
open Go.RowKit Go.Shelf Go.Proofs.Ytmdacfgofilbdaa.TabL Go.Proofs.YtmdacfgofilbdaaW.PrintWords Go.Proofs.Ytmdacfgofilbdaa.PHoldPlays Go.Proofs.Ytmdacfgofilbdaa.CodL
open Go.Proofs.Ytmdacfgofilbdaa.Cod (OM IM wrB goodB evB putB takeP takeB1 put_any out_done all_any)
open Go.Proofs.Ytmdacfgofilbdaa.TabB (ltI lin getV TMg ek ev Gives2 all_gives yieldAny)
attribute [local go_sem] Oper.semAt_some

/-- a ledger as bytes -/
def wrL (xs : Bs) : List Int := uv xs.length ++ xs.flatMap wrB
set_option maxRecDepth 100000 in
set_option maxHeartbeats 4000000 in
theorem lwrite_any (W : World) (p : Nat) (xs : Bs) {tt : TypeId} (h : TMg tt W p xs) (hg : ∀ q ∈ xs, goodB q) (hl : xs.length ≤ 1000000) :
    Calls Try.prog 40 #[.pointer (some ⟨p, 0, none⟩)] W fun e w' => ∃ A c, e = .returned (.slice A (wrL xs).length c) ∧ w'.ownsRow W.heap.size 5 1 (.slice A (wrL xs).length c) (wrL xs).length (nums .u8 (wrL xs)) ∧ Below W.heap.size W w' := by
  obtain ⟨q, T0, h1, h2, rfl⟩ := h
  have hB0 : Below W.heap.size W (W.alloc (.cells #[.slice none 0 0] 119)) := (Below.refl _ W).alloc (Nat.le_refl _) _
  have hM0 : OM (W.alloc (.cells #[.slice none 0 0] 119)) W.heap.size W.heap.size (.slice none 0 0) [] := ⟨Nat.le_refl _, Blk.new W _ _, World.ownsRow_nil _ _ _ _⟩
  have HB0 := Lib.hid hB0; have HM0 := Lib.hid hM0; have HG := Lib.hid hg; have H1 := Lib.hid h1; have H2 := Lib.hid h2
  have hfl := Cod.flat_len (wr := wrB) (m := 20) T0.toL (fun z hz => Cod.wrB_len (hg z hz))
  have hul := uv_len10 (n := T0.toL.length) (by omega)
  have hwl : (wrL T0.toL).length ≤ 1099511627776 := by unfold wrL; rw [List.length_append]; omega
  obtain ⟨xs, hxs⟩ : ∃ xs, T0.toL = xs := ⟨_, rfl⟩
  have HX := Lib.hid hxs
  rw [hxs] at hwl HG hl ⊢
  clear hB0 hM0 hg h1 h2 hfl hul hxs
  go_enter Try.func40, Try.ntmps40
  go_wp2_with fail
  obtain ⟨w0, hw0⟩ : ∃ w0, W.alloc (.cells #[.slice none 0 0] 119) = w0 := ⟨_, rfl⟩
  rw [hw0] at HB0 HM0 ⊢
  clear hw0
  refine (llist_any w0 p).mono ?_; rintro e w1 ⟨rfl, hw1⟩
  have hal : Below w0.heap.size w0 w1 := by rw [hw1]; exact (Below.refl _ w0).alloc (Nat.le_refl _) _
  have hb : Blk w1 w0.heap.size 44 [.pointer (some ⟨p, 0, none⟩)] := by rw [hw1]; exact Blk.new w0 _ _
  have hB1 := HB0.out.trans (hal.mono HB0.out.size)
  have hM1 := OM.below HM0.out hal
  have hgv := list_gives W w0.heap.size p q T0 H2.out
  rw [HX.out] at hgv
  have HP := Lib.hid (put_any w1 W.heap.size W.heap.size (.slice none 0 0) [] 71 #[] putB _ _ xs _ _ hgv
    (fun W' hB => ⟨(hb.belowS hB).cell (i := 0) rfl, (H1.out.belowS (hB1.trans (hB.mono hB1.size))).cell (i := 0) rfl⟩) (fun W' hB => KT.below (hB1.trans (hB.mono hB1.size))) HG.out (by omega) (by simp) hM1)
  have HB1 := Lib.hid hB1; have HM1 := Lib.hid hM1
  clear hal hb hB1 hM1 hgv hw1
  go_wp2_with fail
  refine HP.out.mono ?_; rintro e w2 ⟨rfl, v2, hM2, hF2⟩
  rw [List.nil_append] at hM2
  have HD := Lib.hid (out_done w2 W.heap.size W.heap.size v2 (wrL xs) hwl hM2)
  have HB2 := Lib.hid (HB1.out.trans (OM.belowB HM1.out hF2))
  clear hM2 hF2 HP
  go_wp2_with fail
  refine HD.out.mono ?_; rintro e w3 ⟨A, c, rfl, hR, hb3⟩
  have HR := Lib.hid (And.intro (own_weaken hR HB2.out.size) (HB2.out.trans (hb3.mono HB2.out.size)))
  clear hR hb3 HD
  go_wp2_with fail
  go_ret
  exact ⟨A, c, rfl, HR.out.1, HR.out.2⟩

end Go.Proofs.Ytmdacfgofilbdaa.Led

/- ledger: Read. -/
set_option linter.unusedSimpArgs false
set_option linter.unusedVariables false
namespace Go.Proofs.Ytmdacfgofilbdaa.Led
open Go.RowKit Go.Shelf Go.Proofs.Ytmdacfgofilbdaa.TabL Go.Proofs.YtmdacfgofilbdaaW.PrintWords Go.Proofs.Ytmdacfgofilbdaa.PHoldPlays Go.Proofs.Ytmdacfgofilbdaa.CodL
open Go.Proofs.Ytmdacfgofilbdaa.Cod (OM IM wrB goodB evB putB takeP takeB1 put_any out_done all_any)
open Go.Proofs.Ytmdacfgofilbdaa.TabB (ltI lin getV TMg)
attribute [local go_sem] Oper.semAt_some

theorem takeL_len {α : Type} (one : St → St × α) : ∀ (n : Nat) (s : St) (out : List α), (takeL one n s out).2.length ≤ out.length + n
  | 0, s, out => by rw [takeL]; simp
  | n + 1, s, out => by
    rw [takeL]
    split
    · have := takeL_len one n (one s).1 (out ++ [(one s).2])
      rw [List.length_append, List.length_singleton] at this
      omega
    · simp
theorem allN_len {α : Type} (one : St → St × α) (bs : List Int) (most : Int) : (allN one bs most).1.length ≤ (max most 0).toNat := by
  have h : (takeN one (bs, 0) most).2.length ≤ (max most 0).toNat := by
    unfold takeN
    dsimp only
    split
    · split
      · simp
      · have := takeL_len one (takeU (bs, 0)).2 (takeU (bs, 0)).1 []
        split
        · simp only [List.length_nil] at this; omega
        · simp
    · simp
  unfold allN
  dsimp only
  split
  · split
    · simp
    · exact h
  · simp
def bndA (a n : Int) : Bool := decide (n ≤ 70368744177664) && (decide (0 ≤ n) || (decide (a = 0) && decide (-70368744177664 ≤ n)))
def lastK (zs : Bs) (k : Nat) : Int := if k = 0 then -1 else (zs.getD (k - 1) d0).1
def okAt (zs : Bs) (k : Nat) : Bool := decide (lastK zs k < (zs.getD k d0).1) && rightA (zs.getD k d0).1 && decide ((zs.getD k d0).2 ≠ 0) && bndA (zs.getD k d0).1 (zs.getD k d0).2
def okR (zs : Bs) : Bool := (List.range zs.length).all (okAt zs)
/-- the error's number of balances that were read with one -/
def rdE (zs : Bs) (e : Int) : Int := if e ≠ 0 then e else if okR zs = true then (if sumL zs = 0 then 0 else 20) else 20
theorem okR_no {zs : Bs} {k : Nat} (hk : k < zs.length) (h : okAt zs k = false) : okR zs = false := List.all_eq_false.2 ⟨k, List.mem_range.2 hk, by rw [h]; decide⟩
theorem okR_yes {zs : Bs} (h : ∀ k, k < zs.length → okAt zs k = true) : okR zs = true := List.all_eq_true.2 (fun k hk => h k (List.mem_range.1 hk))
theorem putL_end {l : Bs} {k n : Int} (h : ∀ q ∈ l, q.1 < k) : putL ltI l k n = l ++ [(k, n)] := by
  induction l with
  | nil => rfl
  | cons p r ih =>
    have h1 := h p (List.mem_cons_self ..)
    unfold putL
    rw [if_neg (by simp [ltI]; omega), if_pos (by simpa [ltI] using h1), ih (fun q hq => h q (List.mem_cons_of_mem _ hq))]
    rfl
theorem setL_end {l : Bs} {k n : Int} (hn : n ≠ 0) (h : ∀ q ∈ l, q.1 < k) : setL l k n = l ++ [(k, n)] := by unfold setL; rw [if_neg hn, putL_end h]
theorem take_keys {zs : Bs} {k : Nat} (h : ∀ j, j < k → okAt zs j = true) (hk : k ≤ zs.length) : (∀ q ∈ zs.take k, q.1 ≤ lastK zs k) ∧ Sd ltI (zs.take k) ∧ InB (zs.take k) := by
  induction k with
  | zero => exact ⟨by simp, by rw [List.take_zero]; exact List.Pairwise.nil, by intro q hq; simp at hq⟩
  | succ k ih =>
    obtain ⟨i1, i2, i3⟩ := ih (fun j hj => h j (by omega)) (by omega)
    have hok := h k (by omega)
    unfold okAt at hok
    simp only [Bool.and_eq_true, decide_eq_true_eq] at hok
    obtain ⟨⟨⟨o1, o2⟩, o3⟩, o4⟩ := hok
    have e : zs.take (k + 1) = zs.take k ++ [zs.getD k d0] := by rw [List.take_succ_eq_append_getElem (by omega)]; simp [List.getD, (show k < zs.length by omega)]
    have el : lastK zs (k + 1) = (zs.getD k d0).1 := by unfold lastK; rw [if_neg (by omega)]; rfl
    rw [e, el]
    refine ⟨fun q hq => ?_, ?_, fun q hq => ?_⟩
    · rcases List.mem_append.1 hq with hq | hq
      · have := i1 q hq; omega
      · rw [List.mem_singleton.1 hq]; exact Int.le_refl _
    · refine List.pairwise_append.2 ⟨i2, List.pairwise_singleton _ _, fun a ha b hb => ?_⟩
      rw [List.mem_singleton.1 hb]
      have := i1 a ha
      simp only [ltI, decide_eq_true_eq]
      omega
    · rcases List.mem_append.1 hq with hq | hq
      · exact i3 q hq
      · rw [List.mem_singleton.1 hq]
        unfold bndA at o4
        simp only [Bool.and_eq_true, Bool.or_eq_true, decide_eq_true_eq] at o4
        omega
theorem take_step {zs : Bs} {k : Nat} (h : ∀ j, j < k → okAt zs j = true) (hk : k < zs.length) (ho : okAt zs k = true) : setL (zs.take k) (zs.getD k d0).1 (zs.getD k d0).2 = zs.take (k + 1) := by
  obtain ⟨i1, _, _⟩ := take_keys h (by omega)
  unfold okAt at ho
  simp only [Bool.and_eq_true, decide_eq_true_eq] at ho
  obtain ⟨⟨⟨o1, _⟩, o3⟩, _⟩ := ho
  rw [setL_end o3 (fun q hq => by have := i1 q hq; omega), List.take_succ_eq_append_getElem hk]
  show zs.take k ++ [zs.getD k d0] = _
  simp [List.getD, hk]

end Go.Proofs.Ytmdacfgofilbdaa.Led

/- ledger: Read. -/
set_option linter.unusedSimpArgs false
set_option linter.unusedVariables false
namespace Go.Proofs.Ytmdacfgofilbdaa.Led
open Go.RowKit Go.Shelf Go.Proofs.Ytmdacfgofilbdaa.TabL Go.Proofs.YtmdacfgofilbdaaW.PrintWords Go.Proofs.Ytmdacfgofilbdaa.PHoldPlays Go.Proofs.Ytmdacfgofilbdaa.CodL
open Go.Proofs.Ytmdacfgofilbdaa.Cod (OM IM wrB goodB evB putB takeP takeB1 put_any out_done all_any)
open Go.Proofs.Ytmdacfgofilbdaa.TabB (ltI lin getV TMg)
attribute [local go_sem] Oper.semAt_some

theorem takeL_all {α : Type} {P : α → Prop} {one : St → St × α} (hP : ∀ s, P (one s).2) : ∀ (n : Nat) (s : St) (out : List α), (∀ q ∈ out, P q) → ∀ q ∈ (takeL one n s out).2, P q
  | 0, s, out, h => by rw [takeL]; exact h
  | n + 1, s, out, h => by
    rw [takeL]
    split
    · refine takeL_all hP n _ _ (fun q hq => ?_)
      rcases List.mem_append.1 hq with hq | hq
      · exact h q hq
      · rw [List.mem_singleton.1 hq]; exact hP s
    · simp
theorem allN_all {α : Type} {P : α → Prop} {one : St → St × α} (hP : ∀ s, P (one s).2) (bs : List Int) (most : Int) : ∀ q ∈ (allN one bs most).1, P q := by
  have h : ∀ q ∈ (takeN one (bs, 0) most).2, P q := by
    unfold takeN
    dsimp only
    split
    · split
      · simp
      · have := takeL_all hP (takeU (bs, 0)).2 (takeU (bs, 0)).1 [] (by simp)
        split
        · exact this
        · simp
    · simp
  unfold allN
  dsimp only
  split
  · split
    · simp
    · exact h
  · simp
theorem bounded_any (W : World) (a n : Int) : Calls Try.prog 80 #[.int .i64 a, .int .i64 n] W fun e w' => e = .returned (.bool (bndA a n)) ∧ Below W.heap.size W w' := by
  refine (PLedgerPlays.ledger_bounded.calls a n (bndA a n) W ?_).mono fun _ _ ⟨x, y⟩ => ⟨x, y.below⟩
  unfold PLedgerPlays.ledger_bounded.f bndA
  by_cases h : n ≤ 70368744177664
  · rw [if_pos h, decide_eq_true h, Bool.true_and]
    by_cases h2 : n ≥ 0
    · rw [if_pos h2, decide_eq_true (show 0 ≤ n from h2), Bool.true_or]
    · rw [if_neg h2, decide_eq_false (show ¬ 0 ≤ n from h2), Bool.false_or]
      by_cases h3 : a = 0
      · rw [if_pos h3, decide_eq_true h3, Bool.true_and]
      · rw [if_neg h3, decide_eq_false h3, Bool.false_and]
  · rw [if_neg h, decide_eq_false h, Bool.false_and]
/-- what stands while Read goes on -/
def RI (n0 n1 p : Nat) (W w1 : World) (xs : Bs) (wr : World) : Prop := TMg tL wr p xs ∧ Below n1 w1 wr ∧ Below n0 W wr
set_option maxRecDepth 100000 in
set_option maxHeartbeats 8000000 in
theorem lread_any (W : World) (bs : List Int) (A : Option Addr) (c : Nat) (hx : (Kd.int .u8).C W A bs.length bs) (hA0 : A = none → c = 0) (hb : ∀ x ∈ bs, 0 ≤ x ∧ x < 256) (hl : bs.length ≤ 1099511627776) :
    Calls Try.prog 46 #[.slice A bs.length c] W fun e w' => ∃ q, e = .returned (.tuple #[.pointer q, .int .i64 (rdE (allN takeP bs 2002).1 (allN takeP bs 2002).2)]) ∧ (rdE (allN takeP bs 2002).1 (allN takeP bs 2002).2 = 0 → ∃ p, q = some ⟨p, 0, none⟩ ∧ W.heap.size ≤ p ∧ TMg tL w' p (allN takeP bs 2002).1) ∧ Below W.heap.size W w' := by
  have HA := Lib.hid (all_any W bs A c hx hA0 hb hl takeP _ #[] takeB1 2002 (by decide))
  have hln := allN_len takeP bs 2002
  have hac := allN_all (P := fun q => 0 ≤ q.1 ∧ q.1 ≤ 2002) (one := takeP) (fun s => by unfold takeP; dsimp only; omega) bs 2002
  obtain ⟨zs, er, hZ⟩ : ∃ zs er, allN takeP bs 2002 = (zs, er) := ⟨_, _, rfl⟩
  rw [hZ] at HA hln hac ⊢
  dsimp only at HA hln hac ⊢
  obtain ⟨r, hr⟩ : ∃ r, rdE zs er = r := ⟨_, rfl⟩
  rw [hr]
  have HRE := Lib.hid hr
  have hlz : zs.length ≤ 2002 := by have e : (max (2002 : Int) 0).toNat = 2002 := by decide
                                    rw [e] at hln; exact hln
  clear hZ hr hln hx hA0 hb hl
  go_enter Try.func46, Try.ntmps46
  go_wp2_with fail
  refine HA.out.mono ?_; rintro e w1 ⟨v, rfl, hO, hB1⟩
  obtain ⟨va, vc, rfl⟩ := own_slice hO
  have HR := Lib.hid (Rd.of_own cP2_length d0 hO); have HB1 := Lib.hid hB1
  clear hO hB1 HA
  by_cases he : er = 0
  · subst he
    go_wp2_with fail
    have hal : Below w1.heap.size w1 (w1.alloc (.cells #[.pointer none] 30)) := (Below.refl _ w1).alloc (Nat.le_refl _) _
    have hT0 : TMg tL (w1.alloc (.cells #[.pointer none] 30)) w1.heap.size [] := ⟨none, .leaf, Blk.new w1 [.pointer none] _, rfl, rfl⟩
    have H0 := Lib.hid (show RI W.heap.size w1.heap.size w1.heap.size W w1 [] _ from ⟨hT0, hal, HB1.out.trans (hal.mono HB1.out.size)⟩)
    clear hal hT0
    go_loopw [7, 22] (fun la i wr => ∃ k : Nat, la = .int .i64 (lastK zs k) ∧ i = .int .i64 (k : Int) ∧ k ≤ zs.length ∧ (∀ j, j < k → okAt zs j = true) ∧ RI W.heap.size w1.heap.size w1.heap.size W w1 (zs.take k) wr)
      (fun _ i _ => zs.length - (match i with | .int _ n => n.toNat | _ => 0))
    case atStart => exact ⟨0, rfl, rfl, Nat.zero_le _, fun j hj => by omega, H0.out⟩
    case round =>
      clear H0
      obtain ⟨k, rfl, rfl, hk, hz, hT, hB, hBW⟩ := hrel
      by_cases hlt : k < zs.length
      · obtain ⟨⟨x, y⟩, hget⟩ : ∃ o, zs[k]? = some o := ⟨_, List.getElem?_eq_getElem hlt⟩
        obtain ⟨b, off, c1, e1, hlb, q0, q1⟩ := rd_pair (HR.out.below hB) hget
        obtain ⟨rfl, rfl⟩ : va = some ⟨b, off, none⟩ ∧ vc = c1 := by injection e1 with e1 e2 e3; exact ⟨e1, e3⟩
        have hgd : zs.getD k d0 = (x, y) := by simp [List.getD, hget]
        have hxr := hac _ (List.mem_of_getElem? hget)
        dsimp only at hxr
        obtain ⟨hx0, hx1⟩ := hxr
        obtain ⟨la, hla⟩ : ∃ la, lastK zs k = la := ⟨_, rfl⟩
        have hok : okAt zs k = (decide (la < x) && rightA x && decide (y ≠ 0) && bndA x y) := by unfold okAt; rw [hgd, hla]
        have hal : Below wr.heap.size wr (wr.alloc (.cells #[.int .i64 x, .int .i64 y] 105)) := (Below.refl _ wr).alloc (Nat.le_refl _) _
        have hTa := hT.below hal
        have hBa := hB.trans (hal.mono hB.size)
        have hBWa := hBW.trans (hal.mono hBW.size)
        simp only at q0 q1
        have HNO := Lib.hid (fun (hf : okAt zs k = false) (w' : World) (hbw : Below W.heap.size W w') => (show ∃ q, Ending.returned (.tuple #[.pointer none, .int .i64 20]) = Ending.returned (.tuple #[.pointer q, .int .i64 r]) ∧ (r = 0 → ∃ p, q = some ⟨p, 0, none⟩ ∧ W.heap.size ≤ p ∧ TMg tL w' p zs) ∧ Below W.heap.size W w' from by
          have e : r = 20 := by rw [← HRE.out]; unfold rdE; rw [if_neg (by simp), if_neg (by rw [okR_no hlt hf]; decide)]
          exact ⟨none, by rw [e], fun h => by omega, hbw⟩))
        have HSET := Lib.hid (fun w (h : TMg tL w w1.heap.size (zs.take k)) (ho : okAt zs k = true) => by
          have h2 := set_any w w1.heap.size (zs.take k) x y (tt := tL) (by decide) h (take_keys hz (by omega)).2.1 (by rw [List.length_take]; omega)
          have h3 := take_step hz hlt ho
          rw [hgd] at h3
          dsimp only at h3
          rw [h3] at h2
          exact h2)
        have HTA := Lib.hid hTa; have HBA := Lib.hid hBa; have HBWA := Lib.hid hBWa; have HZ := Lib.hid hz; have HOK := Lib.hid hok; have HLA := Lib.hid hla; have HGD := Lib.hid hgd
        have HQ := Lib.hid (And.intro q0 q1)
        rw [hla]
        clear hTa hBa hBWa hz hok hT hB hBW hal e1 hget hla hgd
        by_cases h1 : x ≤ la
        · go_wp2_with fail
          go_ret2
          exact HNO.out (by rw [HOK.out, decide_eq_false (by omega)]; rfl) _ HBWA.out
        · go_wp2_with fail
          refine (right_any _ x ⟨by omega, by omega⟩).mono ?_; rintro e w3 ⟨rfl, hb3⟩
          have HT3 := Lib.hid (HTA.out.below hb3); have HB3 := Lib.hid (HBA.out.trans (hb3.mono HBA.out.size)); have HBW3 := Lib.hid (HBWA.out.trans (hb3.mono HBWA.out.size))
          have HX3 := Lib.hid ((Blk.new wr [.int .i64 x, .int .i64 y] 105).belowS hb3)
          clear hb3 HTA HBA HBWA
          obtain ⟨rb, hrb⟩ : ∃ rb, rightA x = rb := ⟨_, rfl⟩
          rw [hrb]
          rw [hrb] at HOK
          clear hrb
          have d0 := HX3.out.cell (i := 0) rfl
          have d1 := HX3.out.cell (i := 1) rfl
          cases rb with
          | false =>
            go_wp2_with fail
            go_ret2
            exact HNO.out (by rw [HOK.out, Bool.and_false]; rfl) _ HBW3.out
          | true =>
            by_cases hy : y = 0
            · have hyb : (y == 0) = true := by simp [hy]
              go_wp2_with fail
              go_ret2
              exact HNO.out (by rw [HOK.out, hy]; simp) _ HBW3.out
            · have hyb : (y == 0) = false := by simp [hy]
              have HY := Lib.hid hy
              clear hy
              go_wp2_with fail
              refine (bounded_any _ x y).mono ?_; rintro e w4 ⟨rfl, hb4⟩
              have HT4 := Lib.hid (HT3.out.below hb4); have HB4 := Lib.hid (HB3.out.trans (hb4.mono HB3.out.size)); have HBW4 := Lib.hid (HBW3.out.trans (hb4.mono HBW3.out.size))
              have HX4 := Lib.hid (HX3.out.belowS hb4)
              clear hb4 HT3 HB3 HBW3 d0 d1
              obtain ⟨nb, hnb⟩ : ∃ nb, bndA x y = nb := ⟨_, rfl⟩
              rw [hnb]
              rw [hnb] at HOK
              clear hnb
              have d0 := HX4.out.cell (i := 0) rfl
              have d1 := HX4.out.cell (i := 1) rfl
              cases nb with
              | false =>
                go_wp2_with fail
                go_ret2
                exact HNO.out (by rw [HOK.out, Bool.and_false]) _ HBW4.out
              | true =>
                have hk1 : okAt zs k = true := by rw [HOK.out, decide_eq_true (by omega : la < x), decide_eq_true HY.out]; rfl
                have HS := Lib.hid (HSET.out w4 HT4.out hk1)
                have HK1 := Lib.hid hk1
                clear hk1 HSET
                go_wp2_with fail
                refine HS.out.mono ?_; rintro e w5 ⟨rfl, hT5, hg5⟩
                have HF := Lib.hid (show RI W.heap.size w1.heap.size w1.heap.size W w1 (zs.take (k + 1)) w5 from ⟨hT5, HB4.out.grown hg5 HB4.out.size (fun r e => by cases e; omega), HBW4.out.grown hg5 HBW4.out.size (fun r e => by cases e; exact HB1.out.size)⟩)
                clear hT5 hg5
                go_wp2_with fail
                go_roundw
                case rel => exact ⟨k + 1, by unfold lastK; rw [if_neg (by omega)]; show _ = Value.int .i64 (zs.getD k Led.d0).1; rw [HGD.out], by congr 1, by omega, fun j hj => by
                  by_cases hjk : j = k
                  · subst hjk; exact HK1.out
                  · exact HZ.out j (by omega), HF.out⟩
                case measure => simp; omega
      · obtain rfl : k = zs.length := by omega
        rw [List.take_length] at hT
        have hib : InB zs := by have := (take_keys hz (Nat.le_refl _)).2.2; rw [List.take_length] at this; exact this
        have hoky := okR_yes hz
        have HT := Lib.hid hT; have HBW := Lib.hid hBW
        have HS := Lib.hid (total_any wr w1.heap.size zs hT hib (by omega))
        have HOY := Lib.hid hoky
        obtain ⟨sm, hsm⟩ : ∃ sm, sumL zs = sm := ⟨_, rfl⟩
        have HSM := Lib.hid hsm
        rw [hsm] at HS
        clear hT hBW hz hsm hib hoky hB
        go_wp2_with fail
        refine HS.out.mono ?_; rintro e w3 ⟨rfl, hb3⟩
        have HT3 := Lib.hid (HT.out.below hb3); have HBW3 := Lib.hid (HBW.out.trans (hb3.mono HBW.out.size))
        clear hb3
        by_cases h0 : sm = 0
        · subst h0
          have e : r = 0 := by rw [← HRE.out]; unfold rdE; rw [if_neg (by simp), if_pos HOY.out, if_pos HSM.out]
          go_wp2_with fail
          go_ret2
          exact ⟨_, by rw [e]; rfl, fun _ => ⟨_, rfl, HB1.out.size, HT3.out⟩, HBW3.out⟩
        · have e : r = 20 := by rw [← HRE.out]; unfold rdE; rw [if_neg (by simp), if_pos HOY.out, if_neg (by rw [HSM.out]; exact h0)]
          have h0b : (sm == 0) = false := by simp [h0]
          go_wp2_with fail
          go_ret2
          exact ⟨none, by rw [e]; rfl, fun h => by omega, HBW3.out⟩
  · have hxb : (er == 0) = false := by simp [he]
    go_wp2_with fail
    go_ret2
    have e : r = er := by rw [← HRE.out]; unfold rdE; rw [if_pos he]
    exact ⟨none, by rw [e]; rfl, fun h => absurd (e.symm.trans h) he, HB1.out⟩

end Go.Proofs.Ytmdacfgofilbdaa.Led

/- ledger, plain: what is written is read as it. -/
set_option linter.unusedSimpArgs false
set_option linter.unusedVariables false
namespace Go.Proofs.Ytmdacfgofilbdaa.Led
open Go.RowKit Go.Proofs.Ytmdacfgofilbdaa.TabL Go.Proofs.Ytmdacfgofilbdaa.CodL
open Go.Proofs.Ytmdacfgofilbdaa.Cod (wrB goodB evB takeP)
open Go.Proofs.Ytmdacfgofilbdaa.TabB (ltI lin getV)

/-- all that holds of a ledger that moves have made -/
structure Fine (xs : Bs) : Prop where
  cl : Clean xs
  bnd : Bnd xs
  key : ∀ q ∈ xs, rightA q.1 = true
  pos : ∀ a, a ≠ 0 → 0 ≤ getV xs a
theorem Fine.nil : Fine [] := ⟨Clean.nil, fun a => by unfold getV getL; simp, fun q hq => by simp at hq, fun a _ => by unfold getV getL; simp⟩
theorem setL_key {xs : Bs} {P : Int → Prop} (h : ∀ q ∈ xs, P q.1) {k n : Int} (hk : P k) : ∀ q ∈ setL xs k n, P q.1 := fun q hq => by
  unfold setL at hq
  split at hq
  · exact h q (List.mem_filter.1 hq).1
  · rcases putL_mem hq with rfl | hq
    · exact hk
    · exact h q hq
theorem Fine.move {xs : Bs} (h : Fine xs) (m : Mv) : Fine (moveL xs m) := by
  refine ⟨h.cl.move m, h.bnd.move m, ?_, ?_⟩
  · unfold moveL
    split
    · rename_i h0
      obtain ⟨h1, h2, _⟩ := moveE_zero h0
      exact setL_key (P := fun a => rightA a = true) (setL_key (P := fun a => rightA a = true) h.key h1) h2
    · exact h.key
  · intro a ha
    have hp := h.pos a ha
    unfold moveL
    split
    · rename_i h0
      obtain ⟨_, _, hne, hr, h1, _⟩ := moveE_zero h0
      unfold rightM at hr
      simp only [Bool.and_eq_true, decide_eq_true_eq] at hr
      rw [getV_setL, getV_setL]
      by_cases e1 : a = m.2.1
      · rw [if_pos e1]; subst e1; omega
      · rw [if_neg e1]
        by_cases e2 : a = m.1
        · rw [if_pos e2]; subst e2; have := h1 ha; omega
        · rw [if_neg e2]; exact hp
    · exact hp
theorem Fine.steps {xs : Bs} (h : Fine xs) (ms : List Mv) : Fine (ms.foldl moveL xs) := by
  induction ms generalizing xs with
  | nil => exact h
  | cons m r ih => rw [List.foldl_cons]; exact ih (h.move m)
theorem rightA_rng {a : Int} (h : rightA a = true) : 0 ≤ a ∧ a < 2002 := by
  unfold rightA at h
  simp only [Bool.or_eq_true, Bool.and_eq_true, decide_eq_true_eq] at h
  omega
theorem sd_len : ∀ {xs : Bs} {lo hi : Int}, Sd ltI xs → (∀ q ∈ xs, lo ≤ q.1 ∧ q.1 < hi) → (xs.length : Int) ≤ max (hi - lo) 0
  | [], lo, hi, _, _ => by simp; omega
  | p :: r, lo, hi, h, hb => by
    have h1 := hb p (List.mem_cons_self ..)
    have h2 := sd_len (lo := p.1 + 1) (hi := hi) (Sd.tail h) (fun q hq => ⟨by have := Sd.head h q hq; omega, (hb q (List.mem_cons_of_mem _ hq)).2⟩)
    rw [List.length_cons]
    omega
theorem Fine.len {xs : Bs} (h : Fine xs) : xs.length ≤ 2002 := by
  have := sd_len h.cl.sd (fun q hq => rightA_rng (h.key q hq))
  omega
theorem Fine.good {xs : Bs} (h : Fine xs) : ∀ q ∈ xs, goodB q := fun q hq => by
  have h1 := rightA_rng (h.key q hq)
  have h2 := inB_of h.cl.sd h.bnd q hq
  unfold goodB
  refine ⟨⟨h1.1, by omega⟩, ?_⟩
  have := h2
  first | exact ⟨by omega, by omega⟩ | (unfold Cod.goodN; omega)
theorem Fine.ok {xs : Bs} (h : Fine xs) : okR xs = true := okR_yes (fun k hk => by
  have hm : xs.getD k d0 ∈ xs := by simp [List.getD, hk]
  have e : xs.getD k d0 = xs[k] := by simp [List.getD, hk]
  have h1 := h.key _ hm
  have h2 := rightA_rng h1
  have h3 := h.cl.nz _ hm
  have h4 := getV_mem h.cl.sd _ hm
  have h5 := h.bnd (xs.getD k d0).1
  have h6 := h.pos (xs.getD k d0).1
  rw [h4] at h5 h6
  have hl : lastK xs k < (xs.getD k d0).1 := by
    unfold lastK
    split
    · omega
    · have hp := List.pairwise_iff_getElem.1 h.cl.sd (k - 1) k (by omega) hk (by omega)
      have e2 : xs.getD (k - 1) d0 = xs[k - 1] := by simp [List.getD, (show k - 1 < xs.length by omega)]
      rw [e, e2]
      simpa [ltI] using hp
  unfold okAt bndA
  rw [h1, decide_eq_true hl, decide_eq_true h3, decide_eq_true h5.2]
  by_cases h0 : 0 ≤ (xs.getD k d0).2
  · rw [decide_eq_true h0]; rfl
  · have : (xs.getD k d0).1 = 0 := by by_cases hh : (xs.getD k d0).1 = 0; exact hh; exact absurd (h6 hh) h0
    rw [decide_eq_true this, decide_eq_true h5.1]
    simp)
theorem takeP_wr {q : Int × Int} (h : goodB q) (hk : q.1 ≤ 2002) (rest : List Int) : takeP (wrB q ++ rest, 0) = ((rest, 0), q) := by
  obtain ⟨⟨h1, h2⟩, h3⟩ := h
  unfold takeP wrB
  rw [List.append_assoc, takeU_uv (by omega)]
  dsimp only
  rw [takeI_uv h3]
  dsimp only
  rw [show min ((q.1.toNat : Nat) : Int) 2002 = q.1 by omega]
theorem takeL_wr (xs : Bs) (hg : ∀ q ∈ xs, goodB q) (hk : ∀ q ∈ xs, q.1 ≤ 2002) (rest : List Int) : ∀ out : Bs, takeL takeP xs.length (xs.flatMap wrB ++ rest, 0) out = ((rest, 0), out ++ xs) := by
  induction xs with
  | nil => intro out; simp [takeL]
  | cons n ns ih =>
    intro out
    rw [List.length_cons, takeL, List.flatMap_cons, List.append_assoc]
    rw [takeP_wr (hg n List.mem_cons_self) (hk n List.mem_cons_self)]
    dsimp only
    rw [if_pos rfl, ih (fun x hx => hg x (List.mem_cons_of_mem _ hx)) (fun x hx => hk x (List.mem_cons_of_mem _ hx))]
    simp
theorem allN_wr {xs : Bs} (hg : ∀ q ∈ xs, goodB q) (hk : ∀ q ∈ xs, q.1 ≤ 2002) (hl : xs.length ≤ 2002) : allN takeP (uv xs.length ++ xs.flatMap wrB) 2002 = (xs, 0) := by
  have h : takeN takeP (uv xs.length ++ xs.flatMap wrB, 0) 2002 = (([], 0), xs) := by
    unfold takeN
    rw [takeU_uv (by omega)]
    dsimp only
    have := takeL_wr xs hg hk [] []
    rw [List.append_nil] at this
    rw [if_pos rfl, if_neg (by omega), this]
    dsimp only
    rw [if_pos rfl]
    rfl
  unfold allN
  rw [h]
  rfl
theorem Fine.read {xs : Bs} (h : Fine xs) : allN takeP (wrL xs) 2002 = (xs, 0) := allN_wr h.good (fun q hq => by have := rightA_rng (h.key q hq); omega) h.len
theorem Fine.rd {xs : Bs} (h : Fine xs) : rdE xs 0 = 0 := by unfold rdE; rw [if_neg (by simp), if_pos h.ok, if_pos h.cl.sum]
theorem wrL_byte (xs : Bs) : ∀ x ∈ wrL xs, 0 ≤ x ∧ x < 256 := fun x hx => by
  unfold wrL at hx
  rcases List.mem_append.1 hx with hx | hx
  · exact uv_byte _ x hx
  · obtain ⟨q, _, hx⟩ := List.mem_flatMap.1 hx
    unfold wrB at hx
    rcases List.mem_append.1 hx with hx | hx
    · exact uv_byte _ x hx
    · exact uv_byte _ x hx
theorem wrL_len {xs : Bs} (hg : ∀ q ∈ xs, goodB q) (hl : xs.length ≤ 1000000) : (wrL xs).length ≤ 1099511627776 := by
  have hfl := Cod.flat_len (wr := wrB) (m := 20) xs (fun z hz => Cod.wrB_len (hg z hz))
  have hul := uv_len10 (n := xs.length) (by omega)
  unfold wrL
  rw [List.length_append]
  omega

end Go.Proofs.Ytmdacfgofilbdaa.Led

/- ledger, the statements' own: alive. -/
set_option linter.unusedSimpArgs false
set_option linter.unusedVariables false
namespace Go.Proofs.Ytmdacfgofilbdaa.Led
open Go.RowKit Go.Shelf Go.Proofs.Ytmdacfgofilbdaa.TabL Go.Proofs.YtmdacfgofilbdaaW.PrintWords Go.Proofs.Ytmdacfgofilbdaa.PHoldPlays Go.Proofs.Ytmdacfgofilbdaa.CodL
open Go.Proofs.Ytmdacfgofilbdaa.Cod (wrB goodB takeP)
open Go.Proofs.Ytmdacfgofilbdaa.TabB (ltI lin getV TMg)
attribute [local go_sem] Oper.semAt_some

theorem C_cap {w : World} {base n c : Nat} {e : TypeId} {A : Option Addr} {xs : List Value} (h : w.ownsRow base e 1 (.slice A n c) n xs) : A = none → c = 0 := fun e => by
  subst e
  rcases h.2 with ⟨h, _⟩ | ⟨g, cap, cur, h, _⟩
  · injection h
  · cases h
theorem TMg.gr {W W' : World} {p q : Nat} {xs : Bs} {tt : TypeId} (h : TMg tt W p xs) (hg : Below W.heap.size W W') : TMg tt W' p xs := h.below hg
/-- a move, told by what it comes to -/
theorem move_c (W : World) (p : Nat) (xs ys : Bs) (f t n r : Int) {tt : TypeId} (htt : tt ≠ tN) (h : TMg tt W p xs) (hF : Fine xs) (hf : w64 f) (ht : w64 t) (hr : moveE (getV xs) (f, t, n) = r) (hy : moveL xs (f, t, n) = ys) :
    Calls Try.prog 44 #[.pointer (some ⟨p, 0, none⟩), .int .i64 f, .int .i64 t, .int .i64 n] W fun e w' => e = .returned (.int .i64 r) ∧ TMg tt w' p ys ∧ W.grownBy w' (some p) := by
  have := move_any W p xs f t n htt h hF.cl.sd (by have := hF.len; omega) hF.bnd hf ht
  rw [hr, hy] at this
  exact this
theorem balance_c (W : World) (p : Nat) (xs : Bs) (a r : Int) {tt : TypeId} (htt : tt ≠ tN) (h : TMg tt W p xs) (hF : Fine xs) (hr : getV xs a = r) :
    Calls Try.prog 37 #[.pointer (some ⟨p, 0, none⟩), .int .i64 a] W fun e w' => e = .returned (.int .i64 r) ∧ W = w' := by
  have := balance_any W p xs a htt h hF.cl.sd
  rw [hr] at this
  exact this
theorem total_c (W : World) (p : Nat) (xs : Bs) {tt : TypeId} (h : TMg tt W p xs) (hF : Fine xs) :
    Calls Try.prog 28 #[.pointer (some ⟨p, 0, none⟩)] W fun e w' => e = .returned (.int .i64 0) ∧ Below W.heap.size W w' := by
  have := total_any W p xs h (inB_of hF.cl.sd hF.bnd) (by have := hF.len; omega)
  rw [hF.cl.sum] at this
  exact this
/-- what is written is read as it -/
theorem reread_any (W : World) (base : Nat) (xs : Bs) (A : Option Addr) (c : Nat) (hF : Fine xs) (ho : W.ownsRow base 5 1 (.slice A (wrL xs).length c) (wrL xs).length (nums .u8 (wrL xs))) :
    Calls Try.prog 46 #[.slice A (wrL xs).length c] W fun e w' => ∃ p, e = .returned (.tuple #[.pointer (some ⟨p, 0, none⟩), .int .i64 0]) ∧ W.heap.size ≤ p ∧ TMg tL w' p xs ∧ Below W.heap.size W w' := by
  have h := lread_any W (wrL xs) A c (C_own ho).2.2 (C_cap ho) (wrL_byte xs) (wrL_len hF.good (by have := hF.len; omega))
  rw [hF.read] at h
  dsimp only at h
  rw [hF.rd] at h
  refine h.mono ?_
  rintro e w' ⟨q, rfl, h1, h2⟩
  obtain ⟨p, rfl, h3, h4⟩ := h1 rfl
  exact ⟨p, rfl, h3, h4, h2⟩
def y1 : Bs := [(0, -5), (4, 5)]
def y2 : Bs := [(0, -5), (4, 4), (5, 1)]
theorem y1_e : moveL [] (0, 4, 5) = y1 := by decide +kernel
theorem y2_e : moveL y1 (4, 5, 1) = y2 := by decide +kernel
theorem y1_f : Fine y1 := y1_e ▸ Fine.nil.move _
theorem rd_two (W : World) (a b c d e f : Int) : Rd cM 3 (W.alloc (.cells #[.int .i64 a, .int .i64 b, .int .i64 c, .int .i64 d, .int .i64 e, .int .i64 f] 78)).heap.size (W.alloc (.cells #[.int .i64 a, .int .i64 b, .int .i64 c, .int .i64 d, .int .i64 e, .int .i64 f] 78)) (.slice (some ⟨W.heap.size, 0, none⟩) 2 2) [(a, b, c), (d, e, f)] := by
  have h := Blk.new W [.int .i64 a, .int .i64 b, .int .i64 c, .int .i64 d, .int .i64 e, .int .i64 f] 78
  refine .inr ⟨W.heap.size, 0, 2, rfl, by simp, fun j x hx i v hv => ?_⟩
  have hj : j < 2 := (List.getElem?_eq_some_iff.1 hx).1
  have hi : i < 3 := (List.getElem?_eq_some_iff.1 hv).1
  rcases (show j = 0 ∨ j = 1 by omega) with rfl | rfl <;> rcases (show i = 0 ∨ i = 1 ∨ i = 2 by omega) with rfl | rfl | rfl <;> (cases hx; cases hv; exact h.cell rfl)
theorem read_bad (W : World) : Calls Try.prog 46 #[.slice (some ⟨W.heap.size, 0, none⟩) 3 3] (W.alloc (.cells #[.int .u8 1, .int .u8 4, .int .u8 2] 5)) fun e w' => ∃ q, e = .returned (.tuple #[.pointer q, .int .i64 20]) ∧ Below W.heap.size W w' := by
  have ho := World.ownsRow_lit (base := W.heap.size) (e := 5) (size := 1) W #[.int .u8 1, .int .u8 4, .int .u8 2] 3 (Nat.le_refl _) (by decide) rfl
  have hal : Below W.heap.size W (W.alloc (.cells #[.int .u8 1, .int .u8 4, .int .u8 2] 5)) := (Below.refl _ W).alloc (Nat.le_refl _) _
  have h := lread_any _ [1, 4, 2] (some ⟨W.heap.size, 0, none⟩) 3 (C_own (xs := [1, 4, 2]) (q := .u8) ho).2.2 (C_cap ho) (by decide) (by decide)
  have e : rdE (allN takeP [1, 4, 2] 2002).1 (allN takeP [1, 4, 2] 2002).2 = 20 := by decide +kernel
  rw [e] at h
  refine h.mono ?_
  rintro e w' ⟨q, rfl, _, h2⟩
  exact ⟨q, rfl, hal.trans (h2.mono hal.size)⟩

set_option maxHeartbeats 8000000 in
set_option maxRecDepth 100000 in
theorem lalive_any (W : World) : Calls Try.prog 29 #[] W fun e w' => e = .returned (.bool true) ∧ Below W.heap.size W w' := by
  have hT0 : TMg tL (W.alloc (.cells #[.pointer none] 30)) W.heap.size [] := ⟨none, .leaf, Blk.new W [.pointer none] _, rfl, rfl⟩
  have hB0 : Below W.heap.size W (W.alloc (.cells #[.pointer none] 30)) := (Below.refl _ W).alloc (Nat.le_refl _) _
  have C1 := Lib.hid (move_c _ _ [] y1 0 4 5 0 (tt := tL) (by decide) hT0 Fine.nil ⟨by decide, by decide⟩ ⟨by decide, by decide⟩ (by decide +kernel) y1_e)
  obtain ⟨p, hp⟩ : ∃ p, W.heap.size = p := ⟨_, rfl⟩
  have HP := Lib.hid hp
  have HB0 := Lib.hid hB0
  clear hT0 hp hB0
  go_enter Try.func29, Try.ntmps29
  go_wp2_with fail
  refine C1.out.mono ?_; rintro e w1 ⟨rfl, hT1, hg1⟩
  have hB1 := HB0.out.grown hg1 HB0.out.size (fun r e => by cases e; exact Nat.le_refl _)
  rw [HP.out] at hT1 ⊢
  have C2 := Lib.hid (move_c _ _ y1 y1 4 1 6 40 (tt := tL) (by decide) hT1 y1_f ⟨by decide, by decide⟩ ⟨by decide, by decide⟩ (by decide +kernel) (by decide +kernel)); have HB1 := Lib.hid hB1
  clear hT1 hg1 hB1 C1 HB0
  go_wp2_with fail
  refine C2.out.mono ?_; rintro e w2 ⟨rfl, hT2, hg2⟩
  have HB2 := Lib.hid (HB1.out.grown hg2 HB1.out.size (fun r e => by cases e; exact Nat.le_of_eq HP.out))
  have C3 := Lib.hid (move_c _ _ y1 y1 3 4 1 1 (tt := tL) (by decide) hT2 y1_f ⟨by decide, by decide⟩ ⟨by decide, by decide⟩ (by decide +kernel) (by decide +kernel))
  clear hT2 hg2 C2 HB1
  go_wp2_with fail
  refine C3.out.mono ?_; rintro e w3 ⟨rfl, hT3, hg3⟩
  have HB3 := Lib.hid (HB2.out.grown hg3 HB2.out.size (fun r e => by cases e; exact Nat.le_of_eq HP.out))
  have hal : Below w3.heap.size w3 (w3.alloc (.cells #[.int .i64 4, .int .i64 5, .int .i64 2, .int .i64 4, .int .i64 1, .int .i64 9] 78)) := (Below.refl _ w3).alloc (Nat.le_refl _) _
  have hT4 := hT3.below hal
  have HB4 := Lib.hid (HB3.out.trans (hal.mono HB3.out.size))
  have hm := moves_any _ p y1 _ 2 [(4, 5, 2), (4, 1, 9)] (tt := tL) (by decide) hT4 y1_f.cl.sd (by decide) (by decide) y1_f.bnd (rd_two w3 4 5 2 4 1 9) (by intro m hm; simp at hm; rcases hm with rfl | rfl <;> exact ⟨⟨by decide, by decide⟩, ⟨by decide, by decide⟩⟩)
  rw [show (movesL y1 [(4, 5, 2), (4, 1, 9)]).1 = 40 from by decide +kernel, show allL y1 [(4, 5, 2), (4, 1, 9)] = y1 from by decide +kernel] at hm
  have C4 := Lib.hid hm
  clear hT3 hg3 C3 HB2 hm hal hT4 HB3
  go_wp2_with fail
  refine C4.out.mono ?_; rintro e w5 ⟨rfl, hT5, hg5⟩
  have HB5 := Lib.hid (HB4.out.grown hg5 HB4.out.size (fun r e => by cases e; exact Nat.le_of_eq HP.out))
  have C5 := Lib.hid (lwrite_any w5 p y1 hT5 y1_f.good (by decide))
  have HT5 := Lib.hid hT5
  clear hT5 hg5 C4 HB4
  go_wp2_with fail
  refine C5.out.mono ?_; rintro e w6 ⟨Aw, cw, rfl, hO6, hb6⟩
  have HT6 := Lib.hid (HT5.out.below hb6)
  have HB6 := Lib.hid (HB5.out.trans (hb6.mono HB5.out.size))
  have C6 := Lib.hid (reread_any w6 _ y1 Aw cw y1_f hO6)
  clear hO6 hb6 C5 HT5 HB5
  go_wp2_with fail
  refine C6.out.mono ?_; rintro e w7 ⟨pm, rfl, hpm, hM7, hb7⟩
  have HT7 := Lib.hid (HT6.out.below hb7); have HM7 := Lib.hid hM7
  have HB7 := Lib.hid (HB6.out.trans (hb7.mono HB6.out.size))
  have C7 := Lib.hid (read_bad w7)
  clear hM7 hb7 C6 HT6 HB6 hpm
  go_wp2_with fail
  refine C7.out.mono ?_; rintro e w8 ⟨qb, rfl, hb8⟩
  have HT8 := Lib.hid (HT7.out.below hb8); have HM8 := Lib.hid (HM7.out.below hb8)
  have HB8 := Lib.hid (HB7.out.trans (hb8.mono HB7.out.size))
  have C8 := Lib.hid (clone_any w8 p y1 HT8.out)
  clear hb8 C7 HT7 HM7 HB7
  go_wp2_with fail
  refine C8.out.mono ?_; rintro e w9 ⟨pc, rfl, hpc, hC9, hb9⟩
  have HT9 := Lib.hid (HT8.out.below hb9); have HM9 := Lib.hid (HM8.out.below hb9)
  have hne1 : p ≠ pc := by have := HT8.out.lt; omega
  have hne2 : pm ≠ pc := by have := HM8.out.lt; omega
  have HB9 := Lib.hid (HB8.out.trans (hb9.mono HB8.out.size))
  have hWpc : W.heap.size ≤ pc := Nat.le_trans HB8.out.size hpc
  have C9 := Lib.hid (move_c _ _ y1 y2 4 5 1 0 (tt := tL) (by decide) hC9 y1_f ⟨by decide, by decide⟩ ⟨by decide, by decide⟩ (by decide +kernel) y2_e)
  have HC9 := Lib.hid hC9
  clear hb9 C8 HT8 HM8 HB8 hC9 hpc
  go_wp2_with fail
  refine C9.out.mono ?_; rintro e w10 ⟨rfl, hC10, hg10⟩
  have HT10 := Lib.hid (tm_other (by decide) HT9.out HC9.out hg10 hne1); have HM10 := Lib.hid (tm_other (by decide) HM9.out HC9.out hg10 hne2); have HC10 := Lib.hid hC10
  have HB10 := Lib.hid (HB9.out.grown hg10 HB9.out.size (fun r e => by cases e; exact hWpc))
  clear hC10 hg10 C9 HT9 HM9 HB9 HC9 hWpc
  go_wp2_with fail
  refine (balance_c w10 p y1 0 (-5) (by decide) HT10.out y1_f (by decide +kernel)).mono ?_; rintro e wx ⟨rfl, rfl⟩
  go_wp2_with fail
  refine (balance_c w10 p y1 4 5 (by decide) HT10.out y1_f (by decide +kernel)).mono ?_; rintro e wx ⟨rfl, rfl⟩
  go_wp2_with fail
  refine (balance_c w10 p y1 5 0 (by decide) HT10.out y1_f (by decide +kernel)).mono ?_; rintro e wx ⟨rfl, rfl⟩
  go_wp2_with fail
  refine (lsame_refl w10 pm p y1 HM10.out HT10.out (by decide)).mono ?_; rintro e w11 ⟨rfl, hb11⟩
  have HT11 := Lib.hid (HT10.out.below hb11); have HC11 := Lib.hid (HC10.out.below hb11)
  have HB11 := Lib.hid (HB10.out.trans (hb11.mono HB10.out.size))
  clear hb11 HT10 HM10 HC10 HB10
  go_wp2_with fail
  refine (lsame_any w11 pc p y2 y1 HC11.out HT11.out (by decide) (by decide)).mono ?_; rintro e w12 ⟨rfl, hb12⟩
  have HT12 := Lib.hid (HT11.out.below hb12)
  have HB12 := Lib.hid (HB11.out.trans (hb12.mono HB11.out.size))
  rw [show decide (y2 = y1) = false from by decide +kernel]
  clear hb12 HT11 HC11 HB11
  go_wp2_with fail
  refine (total_c w12 p y1 HT12.out y1_f).mono ?_; rintro e w13 ⟨rfl, hb13⟩
  have HT13 := Lib.hid (HT12.out.below hb13)
  have HB13 := Lib.hid (HB12.out.trans (hb13.mono HB12.out.size))
  clear hb13 HT12 HB12
  go_wp2_with fail
  refine (jlist_any w13 p y1 HT13.out (by decide)).mono ?_; rintro e w14 ⟨v, rfl, hO14, hb14⟩
  obtain ⟨va, vc, rfl⟩ := own_slice hO14
  have HB14 := Lib.hid (HB13.out.trans (hb14.mono HB13.out.size))
  clear hb14 HT13 HB13 hO14
  rw [show y1.length = 2 from rfl]
  go_wp2_with fail
  refine (free_any w14 2).mono ?_; rintro e w15 ⟨rfl, hb15⟩
  have HB15 := Lib.hid (HB14.out.trans (hb15.mono HB14.out.size))
  rw [show freeA 2 = 4 from by decide]
  clear hb15 HB14
  go_wp2_with fail
  refine (hold_any w15 2).mono ?_; rintro e w16 ⟨rfl, hb16⟩
  have HB16 := Lib.hid (HB15.out.trans (hb16.mono HB15.out.size))
  rw [show holdA 2 = 5 from by decide]
  clear hb16 HB15
  go_wp2_with fail
  refine (free_any w16 1).mono ?_; rintro e w17 ⟨rfl, hb17⟩
  have HB17 := Lib.hid (HB16.out.trans (hb17.mono HB16.out.size))
  rw [show freeA 1 = -1 from by decide]
  clear hb17 HB16
  go_wp2_with fail
  refine (right_any w17 1 ⟨by decide, by decide⟩).mono ?_; rintro e w18 ⟨rfl, hb18⟩
  have HB18 := Lib.hid (HB17.out.trans (hb18.mono HB17.out.size))
  rw [show rightA 1 = true from by decide]
  clear hb18 HB17
  go_wp2_with fail
  refine (right_any w18 2 ⟨by decide, by decide⟩).mono ?_; rintro e w19 ⟨rfl, hb19⟩
  have HB19 := Lib.hid (HB18.out.trans (hb19.mono HB18.out.size))
  rw [show rightA 2 = false from by decide]
  clear hb19 HB18
  go_wp2_with fail
  go_ret
  exact ⟨rfl, HB19.out⟩

end Go.Proofs.Ytmdacfgofilbdaa.Led
