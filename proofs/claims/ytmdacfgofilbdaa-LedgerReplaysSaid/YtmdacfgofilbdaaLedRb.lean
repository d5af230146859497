/- ledger: Back. -/
import Derived.Test.YtmdacfgofilbdaaLedRp
set_option linter.unusedSimpArgs false
set_option linter.unusedVariables false
namespace Go.Proofs.Ytmdacfgofilbdaa.Led
open Go.RowKit Go.Shelf Go.Proofs.Ytmdacfgofilbdaa.TabL Go.Proofs.YtmdacfgofilbdaaW.PrintWords
open Go.Proofs.Ytmdacfgofilbdaa.TabB (ltI lin getV TMg)
attribute [local go_sem] Oper.semAt_some

def swM (m : Mv) : Mv := (m.2.1, m.1, m.2.2)
theorem back_moves {ms : List Mv} : ∀ {k : Nat}, Acc ms k → k ≤ ms.length → movesL (stepN [] ms k) ((ms.take k).reverse.map swM) = (0, [])
  | 0, _, _ => rfl
  | k + 1, ha, hk => by
    have hlt : k < ms.length := by omega
    obtain ⟨⟨f, t, n⟩, hm⟩ : ∃ m, ms[k]? = some m := ⟨_, List.getElem?_eq_getElem hlt⟩
    have hmk : ms[k] = (f, t, n) := by rw [List.getElem?_eq_getElem hlt] at hm; exact Option.some.inj hm
    have h0 := ha k _ (Nat.lt_succ_self k) hm
    have hF : Fine (stepN [] ms k) := Fine.nil.stepN ms k
    have ih := back_moves (k := k) (fun j m hj => ha j m (by omega)) (by omega)
    rw [List.take_succ_eq_append_getElem hlt, List.reverse_append, List.map_append, hmk, stepN_succ [] ms hm]
    show movesL _ (swM (f, t, n) :: _) = _
    unfold movesL
    show (if moveE (getV (moveL (stepN [] ms k) (f, t, n))) (t, f, n) = 0 then movesL (moveL (moveL (stepN [] ms k) (f, t, n)) (t, f, n)) _ else _) = _
    rw [if_pos (back_e hF h0), back_l hF h0]
    exact ih
/-- the j-th of l, told from its end -/
def revI (l : List Mv) (k : Nat) : Nat := l.length - 1 - k
set_option maxHeartbeats 400000 in
theorem backward_any (W : World) (a : Option Addr) (len cap : Nat) :
    Calls Try.prog 82 #[.slice a len cap] W fun e w' => e = .returned (.func (.func 101) #[] #[.pointer (some ⟨W.heap.size, 0, none⟩)]) ∧ w' = W.alloc (.cells #[.slice a len cap] 73) := by
  go_enter Try.func82, Try.ntmps82
  go_wp2_with fail
  go_ret
  exact ⟨rfl, rfl⟩
set_option maxRecDepth 100000 in
set_option maxHeartbeats 4000000 in
theorem back_iter (n : Nat) (B1 : Nat) (A : Option Addr) (c : Nat) (l : List Mv) (hsm : l.length < 1000000) (Cons : Nat → World → Prop)
    (hI : ∀ k W, Cons k W → W.cell? ⟨B1, 0, none⟩ = some (.slice A l.length c) ∧ Rd cM 3 W.heap.size W (.slice A l.length c) l) :
    IterOk Fence.wide n Try.prog 101 #[.pointer (some ⟨B1, 0, none⟩)] (fun k : Nat => #[.int .i64 (revI l k : Int), evM (l.getD (revI l k) dM)])
      (Cons 0) (fun k W => k < l.length ∧ Cons k W) (fun k W => Cons (k + 1) W) (Cons l.length) := by
  intro lp Rc JX W1 hRc hJX hR0 hS0 hY
  refine callsIn_of_wp Try.func101 rfl trivial ?_ rfl
  simp only [Try.ntmps101, List.size_toArray, List.length_cons, List.length_nil, Nat.reduceAdd, Nat.reduceSub, Array.replicate_succ, Array.replicate_zero, List.push_toArray, List.append_toArray, List.nil_append, List.cons_append]
  have cb := (hI _ _ hS0).1
  have g1 : -9223372036854775808 ≤ (l.length : Int) - 1 := by omega
  have g2 : (l.length : Int) - 1 ≤ 9223372036854775807 := by omega
  gi_wp2_with fail
  clear g1 g2
  gi_loopw [3] (fun i wr => ∃ (k : Nat) (z : Int), k ≤ l.length ∧ i = .int .i64 z ∧ z = (l.length : Int) - 1 - (k : Int) ∧ Rc wr ∧ Cons k wr) (fun i _ => ((intOf i) + 1).toNat)
  case atStart => exact ⟨0, _, Nat.zero_le _, rfl, by simp, hR0, hS0⟩
  case round =>
    obtain ⟨k, z, hk, rfl, hz, hr, hi⟩ := hrel
    by_cases hlt2 : k < l.length
    · have hz0 : 0 ≤ z := by omega
      obtain ⟨j, hj⟩ : ∃ j : Nat, j = revI l k := ⟨_, rfl⟩
      have hjz : z = (j : Int) := by unfold revI at hj; omega
      have hjl : j < l.length := by unfold revI at hj; omega
      subst hjz
      obtain ⟨⟨f, t, a⟩, hx⟩ : ∃ x, l[j] = x := ⟨_, rfl⟩
      have hx2 : l[j]? = some (f, t, a) := by rw [List.getElem?_eq_getElem hjl, hx]
      have hgd : l.getD j dM = (f, t, a) := by rw [List.getD_eq_getElem?_getD, hx2]; rfl
      obtain ⟨b3, off3, c4, e1, hlb, r0, r1, r2⟩ := rd_at (hI _ _ hi).2 hx2
      obtain ⟨rfl, rfl⟩ : A = some ⟨b3, off3, none⟩ ∧ c = c4 := by injection e1 with e1 e2 e3; exact ⟨e1, e3⟩
      simp only at r0 r1 r2
      have cb := (hI _ _ hi).1
      have kl : (j : Int) < (l.length : Int) := by omega
      have k0 : (0 : Int) ≤ (j : Int) := Int.natCast_nonneg _
      obtain ⟨fn, tmps, assign, body, hy, hRn⟩ := hY k _ ⟨hlt2, hi⟩ hr
      rw [← hj, hgd] at hy
      dsimp only [evM] at hy
      have HJ := Lib.hid hj; have HZ := Lib.hid hz
      clear hx hx2 hgd e1 hj hz
      gi_wp2_with fail
      refine ⟨fun h => (by cases h), ?_⟩
      refine hRn.mono ?_
      rintro e W3 (⟨rfl, hi3, hr3⟩ | ⟨rfl, hJ⟩)
      · have g1 : -9223372036854775808 ≤ (j : Int) - 1 := by omega
        have g2 : (j : Int) - 1 ≤ 9223372036854775807 := by omega
        clear k0 kl
        gi_wp2_with fail
        go_roundw
        case rel => exact ⟨k + 1, _, by omega, rfl, by have := HZ.out; omega, hr3, hi3⟩
        case measure => simp [intOf]
      · gi_wp2_with fail
        refine bodyPost_ret (results_none rfl _ _ _) rfl ?_
        exact ⟨⟨_, rfl⟩, .inr hJ⟩
    · obtain rfl : k = l.length := by omega
      obtain rfl : z = -1 := by omega
      gi_wp2_with fail
      go_end0
      exact ⟨⟨_, rfl⟩, .inl ⟨hi, hr⟩⟩

def OutM (W : World) (base Bo : Nat) (zs : List Mv) : Prop := ∃ v, Boxed W Bo 73 v ∧ W.ownsRow base 78 3 v zs.length (cellsOf cM zs)
theorem OutM.ownF (base Bo : Nat) (zs : List Mv) : Own (fun (_ : Unit) W => OutM W base Bo zs) := fun s A B row hs hg hr => by
  obtain ⟨v, hb, ho⟩ := hs
  refine ⟨v, boxed_own Bo _ (fun _ : Unit => v) () A B row hb hg hr, ho.kept hg ?_⟩
  cases hv : v.ownBlock with
  | none => exact .inl rfl
  | some k =>
    refine .inr (fun e => ?_)
    obtain ⟨_, cs, fr, hc⟩ := own_typ ho k hv
    obtain ⟨o, ho', hcc⟩ := hr k (by rw [← e])
    rw [hc] at ho'
    cases ho'
    simp [Obj.isCells] at hcc
def PIK (w0 : World) (Bo : Nat) (zs : List Mv) (W : World) : Prop := OutM W w0.heap.size Bo zs ∧ Below w0.heap.size w0 W
theorem PIK.ownF (w0 : World) (Bo : Nat) (zs : List Mv) {b : Nat} (hb : w0.heap.size ≤ b) : OwnFrom b (fun (_ : Unit) W => PIK w0 Bo zs W) :=
  OwnFrom.and (Own.from (OutM.ownF _ _ _) _) (ownFrom_below (Nat.le_refl _) hb)
theorem PIK.alloc {w0 W : World} {Bo : Nat} {zs : List Mv} (h : PIK w0 Bo zs W) (o : Obj) : PIK w0 Bo zs (W.alloc o) := by
  obtain ⟨⟨v, h1, h2⟩, h3⟩ := h
  exact ⟨⟨v, h1.alloc o, h2.alloc o⟩, h3.alloc h3.size o⟩
def revL (l : List Mv) : List Mv := l.reverse.map swM
theorem revL_len (l : List Mv) : (revL l).length = l.length := by unfold revL; simp
theorem revL_at {l : List Mv} {k : Nat} (hk : k < l.length) : (revL l).take (k + 1) = (revL l).take k ++ [swM (l.getD (revI l k) dM)] := by
  have hk' : k < (revL l).length := by rw [revL_len]; exact hk
  have hj : l.length - 1 - k < l.length := by omega
  have e : (revL l)[k]? = some (swM (l.getD (revI l k) dM)) := by
    unfold revL revI
    rw [List.getElem?_map, List.getElem?_reverse hk, List.getD_eq_getElem?_getD, List.getElem?_eq_getElem hj]
    rfl
  rw [List.getElem?_eq_getElem hk'] at e
  rw [List.take_succ_eq_append_getElem hk', Option.some.inj e]
set_option maxRecDepth 100000 in
set_option maxHeartbeats 8000000 in
theorem back_any (W : World) (p : Nat) (xs : Bs) (A : Option Addr) (c : Nat) (l : List Mv) (hl : l.length ≤ 60) (h : TMg tL W p xs) (hF : Fine xs) (hR : Rd cM 3 W.heap.size W (.slice A l.length c) l) (hw : ∀ m ∈ l, w64 m.1 ∧ w64 m.2.1) (ys : Bs) (hm : movesL xs (revL l) = (0, ys)) :
    Calls Try.prog 53 #[.pointer (some ⟨p, 0, none⟩), .slice A l.length c] W fun e w' => e = .returned (.bool true) ∧ TMg tL w' p ys ∧ W.grownBy w' (some p) := by
  obtain ⟨i0, hi0, hiz0, hiz1, hiz2⟩ := info_parts infoM
  refine (callsIn_wide (n := 4)).1 ?_
  refine callsIn_of_wp_marks Try.func53 rfl trivial ?_ rfl
  refine wpIn_wide.2 ?_
  simp only [Try.ntmps53, List.size_toArray, List.length_cons, List.length_nil, Nat.reduceAdd, Nat.reduceSub, Array.replicate_succ, Array.replicate_zero, List.push_toArray, List.append_toArray, List.nil_append, List.cons_append]
  go_wp2_with fail
  obtain ⟨w1, hw1⟩ : ∃ w1, W.alloc (.cells #[.slice none 0 0] 73) = w1 := ⟨_, rfl⟩
  have hz1 : w1.heap.size = W.heap.size + 1 := by rw [← hw1]; simp
  have hP1 : PIK W W.heap.size [] w1 := by
    rw [← hw1]
    exact ⟨⟨.slice none 0 0, Boxed.new W _ _, World.ownsRow_nil _ _ _ _⟩, (Below.refl _ W).alloc (Nat.le_refl _) _⟩
  rw [hw1]
  clear hw1
  refine (backward_any w1 A l.length c).mono ?_; rintro e w2 ⟨rfl, hw2⟩
  have hal2 : Below w1.heap.size w1 w2 := by rw [hw2]; exact (Below.refl _ w1).alloc (Nat.le_refl _) _
  have bB : Boxed w2 w1.heap.size 73 (.slice A l.length c) := by rw [hw2]; exact Boxed.new w1 _ _
  have hz2 : w2.heap.size = W.heap.size + 2 := by rw [hw2, World.size_alloc, hz1]
  have hP2 : PIK W W.heap.size ((revL l).take 0) w2 := by rw [hw2]; exact hP1.alloc _
  obtain ⟨g, hg⟩ : ∃ g, w1.heap.size = g := ⟨_, rfl⟩
  rw [hg] at bB hz1 ⊢
  subst hz1
  have hB2 := hP2.2
  have IT := back_iter 3 (W.heap.size + 1) A c l (by omega) (fun k W' => PIK W W.heap.size ((revL l).take k) W' ∧ Boxed W' (W.heap.size + 1) 73 (.slice A l.length c)) (fun k W' h => ⟨h.2.cell, (hR.below h.1.2).mono h.1.2.size⟩)
  have HTM := Lib.hid h; have HF := Lib.hid hF; have HWV := Lib.hid hw; have HM := Lib.hid hm
  clear hw2 hal2 hB2 h hF hw hm hP1 hR
  go_wp2_with fail
  have hsO : ∀ zs, OwnFrom w2.heap.size (fun (_ : Unit) W' => PIK W W.heap.size zs W' ∧ Boxed W' (W.heap.size + 1) 73 (.slice A l.length c)) := fun zs => OwnFrom.and (PIK.ownF W _ zs (by omega)) (Own.from (boxed_own _ _ (fun _ : Unit => _)) _)
  refine wpIn_wide.1 (range_gen (F := Fence.wide) (n := 4) rfl (by omega) (gf := 101) (lb := #[.pointer (some ⟨W.heap.size + 1, 0, none⟩)]) rfl trivial (enters_of Try.func101 (by kernel_rfl) rfl) (encs := fun k : Nat => #[.int .i64 (revI l k : Int), evM (l.getD (revI l k) dM)]) (fun _ => rfl)
    (fun W' => PIK W W.heap.size ((revL l).take 0) W' ∧ Boxed W' (W.heap.size + 1) 73 (.slice A l.length c))
    (fun k W' => k < l.length ∧ PIK W W.heap.size ((revL l).take k) W' ∧ Boxed W' (W.heap.size + 1) 73 (.slice A l.length c))
    (fun k W' => PIK W W.heap.size ((revL l).take (k + 1)) W' ∧ Boxed W' (W.heap.size + 1) 73 (.slice A l.length c))
    (fun c W' => False)
    (fun W' => PIK W W.heap.size ((revL l).take l.length) W' ∧ Boxed W' (W.heap.size + 1) 73 (.slice A l.length c))
    (fun k a' W' => ∃ q : Nat, a' = { tmps := #[.pointer (some ⟨p, 0, none⟩), .slice A l.length c, undef, undef, .bool false, .pointer (some ⟨W.heap.size, 0, none⟩), undef, .pointer (some ⟨q, 0, none⟩), .slice A l.length c, .func (.func 101) #[] #[.pointer (some ⟨W.heap.size + 1, 0, none⟩)], .int .i64 (revI l k : Int), evM (l.getD (revI l k) dM), undef, undef, undef, undef, undef, undef, undef, undef, undef, undef, undef, undef, undef, undef], defers := [] } ∧ k < l.length ∧ (PIK W W.heap.size ((revL l).take k) W' ∧ Boxed W' (W.heap.size + 1) 73 (.slice A l.length c)) ∧ Blk W' q 78 (cM (l.getD (revI l k) dM)) ∧ W.heap.size + 2 ≤ q)
    (hsO _)
    (fun k => hsO _)
    (fun c _ _ _ _ hs _ _ => hs)
    (hsO _)
    (fun k a' s A B row hs hg hr => by obtain ⟨q, h1, h2, h3, h4, h5⟩ := hs; exact ⟨q, h1, h2, hsO _ () A B row h3 hg hr, blk_row1 h4 hg (fun r e => (hr r e).2), h5⟩)
    ⟨hP2, bB⟩ IT ?assign ?body ?done ?stop)
  case assign =>
    clear IT hsO
    rintro l2 k W' K ⟨hk, hP, hp⟩ hK
    obtain ⟨⟨f, t, n⟩, hx⟩ : ∃ x, l.getD (revI l k) dM = x := ⟨_, rfl⟩
    have hz := hp.lt
    have HK := Lib.hid (fun a' ha' => hK a' (W'.alloc (.cells #[.int .i64 f, .int .i64 t, .int .i64 n] 78)) (KeepsFrom.of_grownBy (World.grownBy_alloc W' _ none) (fun j e => by cases e)) ⟨W'.heap.size, ha', hk, ⟨hP.alloc _, hp.alloc _⟩, by rw [hx]; exact Blk.new W' _ _, by omega⟩)
    rw [hx] at HK ⊢
    unfold evM at HK ⊢
    clear hK hP hp hx
    gi_wp2_with fail
    exact HK.out _ rfl
  case body =>
    clear IT
    rintro l2 k a' W' hl' hr ⟨q, rfl, hk, ⟨⟨⟨v, hv, hrow⟩, hB⟩, hbx⟩, hb, hq⟩
    have htk := revL_at hk
    obtain ⟨⟨f, t, n⟩, hx⟩ : ∃ x, l.getD (revI l k) dM = x := ⟨_, rfl⟩
    rw [hx] at htk hb ⊢
    have hlk : ((revL l).take k).length = k := by rw [List.length_take, revL_len]; omega
    rw [hlk] at hrow
    have m0 := hb.cell (i := 0) rfl
    have m1 := hb.cell (i := 1) rfl
    have m2 := hb.cell (i := 2) rfl
    have HTK := Lib.hid htk; have HLK := Lib.hid hlk; have HBX := Lib.hid hbx; have hbl := hbx.lt
    have hc := hv.cell
    have hz1 := hB.size
    clear htk hx hlk hsO hb hbx
    unfold evM
    gi_wp2_with (gi_at_builtin; refine wpListIn_append_own _ rfl _ _ 73 rfl W.heap.size 78 i0 _ 3 24 Try.underlying73 hi0 hiz0 hiz1 hiz2 rfl (by decide) _ k _ rfl (hrow.alloc _) ⟨W'.heap.size, 0, none⟩ 1 1 [.int .i64 t, .int .i64 f, .int .i64 n] rfl rfl (news_blk (Blk.new W' [.int .i64 t, .int .i64 f, .int .i64 n] 78)) (by simp [Value.oneCell']) (by unfold maxLen; omega) (by omega) (by simp; omega) ?_; intro v' w3 hown' hgrow _; obtain ⟨g', cap', rfl⟩ := ownsRow_succ hown'; obtain ⟨hv1, hv2, hr2, hk2, hb2⟩ := hv.appended (by decide) hrow hB.size (by omega) hown' hgrow; have hc1 := hv1.cell; have hf1 := hv1.frozen; have hc2 := hv2.cell)
    have hb1 : some (W.heap.size + 1) ≠ v.ownBlock := fun e => by
      obtain ⟨_, cs, fr, hcc⟩ := own_typ hrow _ e.symm
      have hbb : W'.heap[W.heap.size + 1]? = _ := HBX.out
      rw [hbb] at hcc
      injection hcc with hcc
      injection hcc with _ h2 _
      exact absurd h2 (by decide)
    refine ⟨hk2.from _, ⟨⟨_, hv2, ?_⟩, hB.trans hb2⟩, (Below.heap_setCell w3 _ _ (W.heap.size + 1) (by simp)).trans ((HBX.out.alloc _).kept hgrow hb1)⟩
    rw [HTK.out, List.length_append, HLK.out, cellsOf_append]
    exact hr2
  case done =>
    clear IT hsO
    rintro D W' hD ⟨⟨⟨v, hv, hrow⟩, hB⟩, hbx⟩ hK
    have hc := hv.cell
    rw [show (revL l).take l.length = revL l from List.take_of_length_le (by rw [revL_len]; exact Nat.le_refl _)] at hrow
    obtain ⟨A', c', rfl⟩ := own_slice hrow
    have hRd := Rd.of_own cM_length dM hrow
    have hwr : ∀ m ∈ revL l, w64 m.1 ∧ w64 m.2.1 := fun m hm => by
      unfold revL at hm
      obtain ⟨x, hx, rfl⟩ := List.mem_map.1 hm
      have := HWV.out x (List.mem_reverse.1 hx)
      exact ⟨this.2, this.1⟩
    have hxl := HF.out.len
    have MV := moves_any W' p xs A' c' (revL l) (tt := tL) (by decide) (HTM.out.below hB) HF.out.cl.sd (by omega) (by rw [revL_len]; omega) HF.out.bnd hRd hwr
    rw [show allL xs (revL l) = ys from by unfold allL; rw [HM.out, if_pos rfl], HM.out] at MV
    have HMV := Lib.hid MV; have HB := Lib.hid hB
    have hpl := HTM.out.lt
    clear hrow hRd hwr MV hB hv hbx
    go_wp2_with fail
    refine HMV.out.mono ?_; rintro e w5 ⟨rfl, hT5, hg5⟩
    have hDl : D < W'.heap.size := (Array.getElem?_eq_some_iff.1 hK).1
    have hK5 := (hg5.block D hDl (by simp; omega)).trans hK
    have hG5 := gb_trans (below_gb (p := p) HB.out) hg5
    have HT5 := Lib.hid hT5; have HG5 := Lib.hid hG5; have HK5 := Lib.hid hK5
    clear hT5 hg5 hG5 hK5
    go_wp2_with fail
    refine ⟨by simp, .inl ⟨_, _, rfl, run_takeDeferred HK5.out, ?_⟩⟩
    exact ⟨_, results_tmp rfl _ _ _, rfl, tm_row HT5.out (grownBy_putObj' w5 D (.deferred none)) (fun r e => by cases e; exact ⟨_, HK5.out, rfl⟩), gb_row HG5.out (grownBy_putObj' w5 D (.deferred none)) (fun r e => by cases e; omega)⟩
  case stop =>
    rintro D c W' hD hF hK
    exact hF.elim

end Go.Proofs.Ytmdacfgofilbdaa.Led
