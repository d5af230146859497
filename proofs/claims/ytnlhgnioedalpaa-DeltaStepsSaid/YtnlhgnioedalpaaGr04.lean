/- PriA, PriD, PriB, laid together. -/
import Derived.Test.YtnlhgnioedalpaaGr03

/- price: what is asked. -/
set_option linter.unusedSimpArgs false
set_option linter.unusedVariables false
namespace Go.Proofs.Ytnlhgnioedalpaa.Pri
open Go.RowKit Go.Proofs.YtnlhgnioedalpaaW.PrintWords Go.Proofs.Ytnlhgnioedalpaa.PPricePlays
attribute [local go_sem] Oper.semAt_some

set_option maxHeartbeats 400000 in
theorem withinS_any (W : World) (p : Nat) (s : Int) :
    Calls Try.prog 62 #[.pointer (some ⟨p, 0, none⟩), .int .u64 s] W fun e w' => e = .returned (.func (.func 95) #[] #[.pointer (some ⟨W.heap.size, 0, none⟩), .pointer (some ⟨W.heap.size + 1, 0, none⟩)]) ∧ w' = (W.alloc (.cells #[.pointer (some ⟨p, 0, none⟩)] 25)).alloc (.cells #[.int .u64 s] 32) := by
  go_enter Try.func62, Try.ntmps62
  go_wp2_with fail
  go_ret
  exact ⟨rfl, rfl⟩
def evE (e : En) : Value := .agg #[.int .u64 e.1, .int .i64 e.2]
def UE (es : List En) : Prop := ∀ e ∈ es, U e.1
set_option maxRecDepth 100000 in
set_option maxHeartbeats 4000000 in
theorem within_iter (n : Nat) (B1 B2 p : Nat) (v : Value) (s : Int) (hs : U s) (es : List En) (hU : UE es) (hsm : es.length < 9223372036854775807) (Inv : Nat → World → Prop)
    (hI : ∀ k W, Inv k W → W.cell? ⟨B1, 0, none⟩ = some (.pointer (some ⟨p, 0, none⟩)) ∧ W.cell? ⟨B2, 0, none⟩ = some (.int .u64 s) ∧ W.cell? ⟨p, 0, none⟩ = some v ∧ PE W v es)
    (hal : ∀ k W o, Inv k W → Inv k (W.alloc o)) (hskip : ∀ k W, k < es.length → wi (es.getD k dE).1 s = false → Inv k W → Inv (k + 1) W) :
    IterOk Fence.wide n Try.prog 95 #[.pointer (some ⟨B1, 0, none⟩), .pointer (some ⟨B2, 0, none⟩)] (fun k : Nat => #[evE (es.getD k dE)])
      (Inv 0) (fun k W => k < es.length ∧ wi (es.getD k dE).1 s = true ∧ Inv k W) (fun k W => Inv (k + 1) W) (Inv es.length) := by
  intro l Rc JX W1 hRc hJX hR0 hS0 hY
  refine callsIn_of_wp Try.func95 rfl trivial ?_ rfl
  simp only [Try.ntmps95, List.size_toArray, List.length_cons, List.length_nil, Nat.reduceAdd, Nat.reduceSub, Array.replicate_succ, Array.replicate_zero, List.push_toArray, List.append_toArray, List.nil_append, List.cons_append]
  obtain ⟨cb1, cb2, cp, hPE⟩ := hI _ _ hS0
  obtain ⟨A, c, rfl, -⟩ := hPE
  gi_wp2_with fail
  gi_loopw [11] (fun i wr => ∃ k : Nat, k ≤ es.length ∧ i = .int .i64 k ∧ Rc wr ∧ Inv k wr) (fun i _ => es.length - (intOf i).toNat)
  case atStart => exact ⟨0, Nat.zero_le _, rfl, hR0, hS0⟩
  case round =>
    obtain ⟨k, hk, rfl, hr, hi⟩ := hrel
    obtain ⟨db1, db2, dp, hPE⟩ := hI _ _ hi
    have k0 : (0 : Int) ≤ (k : Int) := Int.natCast_nonneg _
    have k9 : (k : Int) ≤ 9223372036854775807 := by omega
    by_cases hlt2 : k < es.length
    · have kl : (k : Int) < (es.length : Int) := by omega
      obtain ⟨⟨x, y⟩, hx⟩ : ∃ x, es[k] = x := ⟨_, rfl⟩
      have hx2 : es[k]? = some (x, y) := by rw [List.getElem?_eq_getElem hlt2, hx]
      have hgd : es.getD k dE = (x, y) := by rw [List.getD_eq_getElem?_getD, hx2]; rfl
      have hux : U x := hU _ (List.mem_of_getElem? hx2)
      obtain ⟨b3, off3, c4, e1, hlb, r0, r1⟩ := hPE.at hx2
      obtain ⟨rfl, rfl⟩ : A = some ⟨b3, off3, none⟩ ∧ c = c4 := by injection e1 with e1 e2 e3; exact ⟨e1, e3⟩
      simp only at r0 r1
      have hia := hal _ _ (.cells #[.int .u64 x, .int .i64 y] tE) hi
      have hra := hRc _ _ hr (belowOthers ((Below.refl wr.heap.size wr).alloc (Nat.le_refl _) (.cells #[.int .u64 x, .int .i64 y] tE)))
      obtain ⟨db1', db2', dp', _⟩ := hI _ _ hia
      have hbl := Blk.new wr [.int .u64 x, .int .i64 y] tE
      rw [show (List.toArray [Value.int .u64 x, .int .i64 y]) = #[.int .u64 x, .int .i64 y] from rfl] at hbl
      obtain ⟨ws, hws⟩ : ∃ ws, wr.alloc (.cells #[.int .u64 x, .int .i64 y] tE) = ws := ⟨_, rfl⟩
      rw [hws] at hia hra db1' db2' dp' hbl
      have c0 := hbl.cell (i := 0) rfl
      have c1 := hbl.cell (i := 1) rfl
      have HWS := Lib.hid hws
      have WI := within_any ws x s hux hs
      have hB2 := (cell_spot db2).2
      cases hwi : wi x s with
      | false =>
        rw [hwi] at WI
        have HWI := Lib.hid WI
        have HN := Lib.hid (hskip k ws hlt2 (by rw [hgd]; exact hwi) hia)
        have HRA := Lib.hid hra
        clear hx hx2 hgd hws hia hra hbl e1 WI hwi db1 dp hPE db1' dp'
        gi_wp2_with fail
        rw [HWS.out]
        refine ⟨trivial, (fun h => (by cases h)), ?_⟩
        refine CallsIn.mono (callsIn_wide.2 HWI.out) ?_; rintro e w2 ⟨rfl, rfl⟩
        gi_wp2_with fail
        refine ⟨fun f h => (by cases h), ?_⟩
        gi_wp2_with fail
        go_roundw
        case rel => exact ⟨k + 1, by omega, by simp, HRA.out, HN.out⟩
        case measure => simp [intOf]; omega
      | true =>
        rw [hwi] at WI
        have HWI := Lib.hid WI
        obtain ⟨fn, tmps, assign, body, hy, hRn⟩ := hY k ws ⟨hlt2, by rw [hgd]; exact hwi, hia⟩ hra
        rw [hgd] at hy
        dsimp only [evE] at hy
        clear hx hx2 hgd hws hia hra hbl e1 WI hwi db1 dp hPE db1' dp'
        gi_wp2_with fail
        rw [HWS.out]
        refine ⟨trivial, (fun h => (by cases h)), ?_⟩
        refine CallsIn.mono (callsIn_wide.2 HWI.out) ?_; rintro e w2 ⟨rfl, rfl⟩
        gi_wp2_with fail
        refine ⟨fun h => (by cases h), ?_⟩
        refine hRn.mono ?_
        rintro e W3 (⟨rfl, hi3, hr3⟩ | ⟨rfl, hJ⟩)
        · gi_wp2_with fail
          go_roundw
          case rel => exact ⟨k + 1, by omega, by simp, hr3, hi3⟩
          case measure => simp [intOf]; omega
        · gi_wp2_with fail
          refine bodyPost_ret (results_none rfl _ _ _) rfl ?_
          exact ⟨⟨_, rfl⟩, .inr hJ⟩
    · obtain rfl : k = es.length := by omega
      gi_wp2_with fail
      go_end0
      exact ⟨⟨_, rfl⟩, .inl ⟨hi, hr⟩⟩

/-- what Ask holds while it goes on: the sum's cell, the boxes, the store -/
def AI (W : World) (p : Nat) (s a : Int) (W' : World) : Prop := Blk W' W.heap.size 2 [.int .i64 a] ∧ Blk W' (W.heap.size + 1) 25 [.pointer (some ⟨p, 0, none⟩)] ∧ Blk W' (W.heap.size + 2) 32 [.int .u64 s] ∧ Below W.heap.size W W'
theorem AI.ownF (W : World) (p : Nat) (s a : Int) {b : Nat} (hb : W.heap.size ≤ b) : OwnFrom b (fun (_ : Unit) W' => AI W p s a W') :=
  OwnFrom.and (Own.from (blk_own _ _ (fun _ => _)) _) (OwnFrom.and (Own.from (blk_own _ _ (fun _ => _)) _) (OwnFrom.and (Own.from (blk_own _ _ (fun _ => _)) _) (ownFrom_below (Nat.le_refl _) hb)))
theorem AI.alloc {W W' : World} {p : Nat} {s a : Int} (h : AI W p s a W') (o : Obj) : AI W p s a (W'.alloc o) := ⟨h.1.alloc o, h.2.1.alloc o, h.2.2.1.alloc o, h.2.2.2.alloc h.2.2.2.size o⟩
theorem ask_take {es : List En} {s : Int} {k : Nat} (hk : k < es.length) : askL (es.take (k + 1)) s = if wi (es.getD k dE).1 s = true then max (askL (es.take k) s) (es.getD k dE).2 else askL (es.take k) s := by
  rw [List.take_succ_eq_append_getElem hk, show es.getD k dE = es[k] from by simp [List.getD, hk]]
  unfold askL
  rw [List.foldl_append]
  rfl
set_option maxRecDepth 100000 in
set_option maxHeartbeats 4000000 in
theorem ask_any (W : World) (p : Nat) (es : List En) (s : Int) (h : PR W p es) (hU : UE es) (hs : U s) (hl : es.length ≤ 1099511627776) :
    Calls Try.prog 21 #[.pointer (some ⟨p, 0, none⟩), .int .u64 s] W fun e w' => e = .returned (.int .i64 (askL es s)) ∧ Below W.heap.size W w' := by
  obtain ⟨v, hb, hPE⟩ := h
  have HB0 := Lib.hid hb; have HPE := Lib.hid hPE
  refine (callsIn_wide (n := 4)).1 ?_
  refine callsIn_of_wp_marks Try.func21 rfl trivial ?_ rfl
  refine wpIn_wide.2 ?_
  simp only [Try.ntmps21, List.size_toArray, List.length_cons, List.length_nil, Nat.reduceAdd, Nat.reduceSub, Array.replicate_succ, Array.replicate_zero, List.push_toArray, List.append_toArray, List.nil_append, List.cons_append]
  go_wp2_with fail
  have bz := Blk.new W [.int .i64 0] 2
  have hal1 : Below W.heap.size W (W.alloc (.cells #[.int .i64 0] 2)) := (Below.refl _ W).alloc (Nat.le_refl _) _
  obtain ⟨w1, hw1⟩ : ∃ w1, W.alloc (.cells #[.int .i64 0] 2) = w1 := ⟨_, rfl⟩
  have hz1 : w1.heap.size = W.heap.size + 1 := by rw [← hw1]; simp
  rw [show (List.toArray [Value.int .i64 0]) = #[.int .i64 0] from rfl, hw1] at bz
  rw [hw1] at hal1 ⊢
  clear hw1
  refine (withinS_any w1 p s).mono ?_; rintro e w2 ⟨rfl, hw2⟩
  have b1 := (Blk.new w1 [.pointer (some ⟨p, 0, none⟩)] 25).alloc (.cells #[.int .u64 s] 32)
  have b2 := Blk.new2 w1 (.cells #[.pointer (some ⟨p, 0, none⟩)] 25) [.int .u64 s] 32
  have hS2 : AI W p s (askL (es.take 0) s) w2 := by
    rw [hw2]
    rw [hz1] at b1 b2
    exact ⟨(bz.alloc _).alloc _, b1, b2, (hal1.alloc hal1.size _).alloc (by simp; omega) _⟩
  have hz2 : w2.heap.size = W.heap.size + 3 := by rw [hw2]; simp [hz1]
  obtain ⟨g, hg⟩ : ∃ g, w1.heap.size = g := ⟨_, rfl⟩
  rw [hg] at hz1 ⊢
  subst hz1
  clear hw2 hal1 bz b1 b2 hg hb hPE
  have IT := within_iter 3 (W.heap.size + 1) (W.heap.size + 2) p v s hs es hU (by omega) (fun k W' => AI W p s (askL (es.take k) s) W')
    (fun k W' h => ⟨h.2.1.cell rfl, h.2.2.1.cell rfl, (HB0.out.belowS h.2.2.2).cell rfl, HPE.out.below h.2.2.2⟩) (fun k W' o h => h.alloc o)
    (fun k W' hk hw h => by rw [ask_take hk, hw]; exact h)
  go_wp2_with fail
  have hsO : ∀ a, OwnFrom w2.heap.size (fun (_ : Unit) W' => AI W p s a W') := fun a => AI.ownF W p s a (by omega)
  refine wpIn_wide.1 (range_gen (F := Fence.wide) (n := 4) rfl (by omega) (gf := 95) (lb := #[.pointer (some ⟨W.heap.size + 1, 0, none⟩), .pointer (some ⟨W.heap.size + 2, 0, none⟩)]) rfl trivial (enters_of Try.func95 (by kernel_rfl) rfl) (encs := fun k : Nat => #[evE (es.getD k dE)]) (fun _ => rfl)
    (fun W' => AI W p s (askL (es.take 0) s) W')
    (fun k W' => k < es.length ∧ wi (es.getD k dE).1 s = true ∧ AI W p s (askL (es.take k) s) W')
    (fun k W' => AI W p s (askL (es.take (k + 1)) s) W')
    (fun c W' => False)
    (fun W' => AI W p s (askL (es.take es.length) s) W')
    (fun k a' W' => ∃ q : Nat, a' = { tmps := #[.pointer (some ⟨p, 0, none⟩), .int .u64 s, undef, undef, .int .i64 0, .pointer (some ⟨W.heap.size, 0, none⟩), .pointer (some ⟨q, 0, none⟩), .pointer (some ⟨p, 0, none⟩), .int .u64 s, .func (.func 95) #[] #[.pointer (some ⟨W.heap.size + 1, 0, none⟩), .pointer (some ⟨W.heap.size + 2, 0, none⟩)], evE (es.getD k dE), undef, undef, undef, undef, undef], defers := [] } ∧ k < es.length ∧ wi (es.getD k dE).1 s = true ∧ AI W p s (askL (es.take k) s) W' ∧ Blk W' q tE (cE (es.getD k dE)) ∧ W.heap.size + 3 ≤ q)
    (hsO _)
    (fun k => hsO _)
    (fun c _ _ _ _ hs _ _ => hs)
    (hsO _)
    (fun k a' s A B row hs hg hr => by
      obtain ⟨q, h1, h2, h3, h4, h5, h6⟩ := hs
      exact ⟨q, h1, h2, h3, hsO _ () A B row h4 hg hr, Own.from (blk_own _ _ (fun _ : Unit => _)) _ () A B row h5 hg hr, h6⟩)
    hS2 IT ?assign ?body ?done ?stop)
  case assign =>
    clear IT hsO
    rintro l2 k W' K ⟨hk, hw, hP⟩ hK
    obtain ⟨⟨x, y⟩, hx⟩ : ∃ x, es.getD k dE = x := ⟨_, rfl⟩
    have hz := hP.2.2.1.lt
    have HK := Lib.hid (fun a' ha' => hK a' (W'.alloc (.cells #[.int .u64 x, .int .i64 y] tE)) (KeepsFrom.of_grownBy (World.grownBy_alloc W' _ none) (fun j e => by cases e)) ⟨W'.heap.size, ha', hk, hw, hP.alloc _, by rw [hx]; exact Blk.new W' _ _, by omega⟩)
    rw [hx] at HK ⊢
    unfold evE at HK ⊢
    clear hK hP hx hw
    gi_wp2_with fail
    exact HK.out _ rfl
  case body =>
    clear IT
    rintro l2 k a' W' hl' hr ⟨q, rfl, hk, hw, hP, hb, hq⟩
    have hak := ask_take (s := s) hk
    rw [hw, if_pos rfl] at hak
    obtain ⟨⟨x, y⟩, hx⟩ : ∃ x, es.getD k dE = x := ⟨_, rfl⟩
    rw [hx] at hb hak ⊢
    obtain ⟨a, ha⟩ : ∃ a, askL (es.take k) s = a := ⟨_, rfl⟩
    rw [ha] at hP hak
    dsimp only at hak
    have c0 := hP.1.cell (i := 0) rfl
    have f0 := hP.1.frozen 0
    have m1 := hb.cell (i := 1) rfl
    have hbs := hP.2.2.2.size
    have HP := Lib.hid (show KeepsFrom w2.heap.size W' (W'.setCell ⟨W.heap.size, 0, none⟩ (.int .i64 (max a y))) ∧ AI W p s (askL (es.take (k + 1)) s) (W'.setCell ⟨W.heap.size, 0, none⟩ (.int .i64 (max a y))) from
      ⟨KeepsFrom.of_grownBy (grownBy_setAt W' _ 0 _) (fun j e => by cases e; omega), by rw [hak]; exact hP.1.set 0 _, hP.2.1.other (p := ⟨W.heap.size, 0, none⟩) (by simp) _, hP.2.2.1.other (p := ⟨W.heap.size, 0, none⟩) (by simp) _, hP.2.2.2.setCell (p := ⟨W.heap.size, 0, none⟩) (Nat.le_refl _) _⟩)
    clear hx hb hP hsO hak ha hw
    unfold evE
    rcases Int.lt_or_le a y with hm | hm
    · rw [Int.max_eq_right (Int.le_of_lt hm)] at HP
      gi_wp2_with fail
      exact hz2 ▸ HP.out
    · rw [Int.max_eq_left hm] at HP
      gi_wp2_with fail
      exact hz2 ▸ HP.out
  case done =>
    clear IT hsO
    rintro D W' hD ⟨hz, h1, h2, hB⟩ hK
    have cz := hz.cell (i := 0) rfl
    rw [List.take_length] at cz
    go_wp2
    refine ⟨by simp, .inl ⟨_, _, rfl, run_takeDeferred hK, ?_⟩⟩
    exact ⟨_, results_tmp rfl _ _ _, rfl, hB.trans (belowK_b (w := w2) (by omega) W' D _ _ hD hK rfl rfl)⟩
  case stop =>
    rintro D c W' hD hF hK
    exact hF.elim

end Go.Proofs.Ytnlhgnioedalpaa.Pri

/- price: what a put takes out (slices.DeleteFunc). -/
set_option linter.unusedSimpArgs false
set_option linter.unusedVariables false
namespace Go.Proofs.Ytnlhgnioedalpaa.Pri
open Go.RowKit Go.Proofs.YtnlhgnioedalpaaW.PrintWords Go.Proofs.Ytnlhgnioedalpaa.PPricePlays
attribute [local go_sem] Oper.semAt_some

/-- goes an entry out, where a is put for s? -/
def outP (s a : Int) (e : En) : Bool := wi s e.1 && decide (e.2 ≤ a)
theorem delL_eq (es : List En) (s a : Int) : delL es s a = es.filter (fun e => !(outP s a e)) := rfl
theorem put1_any (W : World) (B1 B2 : Nat) (s a x y : Int) (hs : U s) (hx : U x) (h1 : Blk W B1 32 [.int .u64 s]) (h2 : Blk W B2 2 [.int .i64 a]) :
    Calls Try.prog 64 #[.agg #[.int .u64 x, .int .i64 y], .pointer (some ⟨B1, 0, none⟩), .pointer (some ⟨B2, 0, none⟩)] W fun e w' => e = .returned (.bool (outP s a (x, y))) ∧ Below W.heap.size W w' := by
  have hal : Below W.heap.size W (W.alloc (.cells #[.int .u64 x, .int .i64 y] tE)) := (Below.refl _ W).alloc (Nat.le_refl _) _
  have c1 := h1.cell (i := 0) rfl
  have c2 := h2.cell (i := 0) rfl
  have l1 := h1.lt
  have l2 := h2.lt
  unfold outP
  dsimp only
  have HAL := Lib.hid hal
  clear hal h1 h2
  have WI := within_any (W.alloc (.cells #[.int .u64 x, .int .i64 y] tE)) s x hs hx
  cases hwi : wi s x with
  | false =>
    rw [hwi] at WI
    have HWI := Lib.hid WI
    clear WI hwi
    go_enter Try.func64, Try.ntmps64
    go_wp2_with fail
    refine HWI.out.mono ?_; rintro e w1 ⟨rfl, rfl⟩
    go_wp2_with fail
    go_ret
    exact ⟨rfl, HAL.out⟩
  | true =>
    rw [hwi] at WI
    have HWI := Lib.hid WI
    clear WI hwi
    go_enter Try.func64, Try.ntmps64
    go_wp2_with fail
    refine HWI.out.mono ?_; rintro e w1 ⟨rfl, rfl⟩
    go_wp2_with fail
    go_ret
    exact ⟨by simp, HAL.out⟩
/-- where the first one goes out -/
structure Idx (es : List En) (s a r : Int) : Prop where
  ends : (r = -1 ∧ ∀ e ∈ es, outP s a e = false) ∨ ∃ i : Nat, r = (i : Int) ∧ i < es.length ∧ outP s a (es.getD i dE) = true ∧ ∀ j, j < i → outP s a (es.getD j dE) = false
set_option maxRecDepth 100000 in
set_option maxHeartbeats 4000000 in
theorem idx_any (W : World) (v : Value) (es : List En) (h : PE W v es) (hU : UE es) (hl : es.length ≤ 1099511627776) (B1 B2 : Nat) (s a : Int) (hs : U s) (h1 : Blk W B1 32 [.int .u64 s]) (h2 : Blk W B2 2 [.int .i64 a]) :
    Calls Try.prog 96 #[v, .func (.func 64) #[] #[.pointer (some ⟨B1, 0, none⟩), .pointer (some ⟨B2, 0, none⟩)]] W fun e w' => ∃ r, e = .returned (.int .i64 r) ∧ Idx es s a r ∧ Below W.heap.size W w' := by
  have H := Lib.hid h; have H1 := Lib.hid h1; have H2 := Lib.hid h2
  obtain ⟨A, c, rfl, -⟩ := h
  clear h1 h2
  go_enter Try.func96, Try.ntmps96
  go_wp2_with fail
  go_loopw [8] (fun i wr => ∃ k : Nat, k ≤ es.length ∧ i = .int .i64 (k : Int) ∧ Below W.heap.size W wr ∧ ∀ j, j < k → outP s a (es.getD j dE) = false) (fun i _ => es.length - (intOf i).toNat)
  case atStart => exact ⟨0, Nat.zero_le _, rfl, Below.refl _ W, fun j hj => by omega⟩
  case round =>
    obtain ⟨k, hk, rfl, hB, hno⟩ := hrel
    by_cases hlt : k < es.length
    · obtain ⟨⟨x, y⟩, hx⟩ : ∃ x, es[k] = x := ⟨_, rfl⟩
      have hx2 : es[k]? = some (x, y) := by rw [List.getElem?_eq_getElem hlt, hx]
      have hgd : es.getD k dE = (x, y) := by rw [List.getD_eq_getElem?_getD, hx2]; rfl
      have hux : U x := hU _ (List.mem_of_getElem? hx2)
      obtain ⟨b3, off3, c4, e1, hlb, r0, r1⟩ := (H.out.below hB).at hx2
      obtain ⟨rfl, rfl⟩ : A = some ⟨b3, off3, none⟩ ∧ c = c4 := by injection e1 with e1 e2 e3; exact ⟨e1, e3⟩
      simp only at r0 r1
      have P1 := put1_any wr B1 B2 s a x y hs hux (H1.out.belowS hB) (H2.out.belowS hB)
      have HB := Lib.hid hB; have HNO := Lib.hid hno
      obtain ⟨o, ho⟩ : ∃ o, outP s a (x, y) = o := ⟨_, rfl⟩
      rw [ho] at P1
      have HP1 := Lib.hid P1
      have HO := Lib.hid (show outP s a (es.getD k dE) = o by rw [hgd]; exact ho)
      clear hx hx2 hgd e1 P1 hB hno ho
      go_wp2_with fail
      refine HP1.out.mono ?_; rintro e w1 ⟨rfl, hb1⟩
      have HB1 := Lib.hid (HB.out.trans (hb1.mono HB.out.size))
      clear hb1
      cases o with
      | true =>
        go_wp2_with fail
        exact bodyPost_ret (v := .int .i64 (k : Int)) (by simp [results, Try.f96, go_sem]) rfl ⟨_, rfl, ⟨.inr ⟨k, rfl, hlt, HO.out, HNO.out⟩⟩, HB1.out⟩
      | false =>
        go_wp2_with fail
        go_roundw
        case rel => exact ⟨k + 1, by omega, by simp, HB1.out, fun j hj => by rcases Nat.lt_succ_iff_lt_or_eq.1 hj with h | rfl; exact HNO.out j h; exact HO.out⟩
        case measure => simp [intOf]; omega
    · obtain rfl : k = es.length := by omega
      go_wp2_with fail
      exact bodyPost_ret (v := .int .i64 (-1)) (by simp [results, Try.f96, go_sem]) rfl ⟨_, rfl, ⟨.inl ⟨rfl, fun e he => by
        obtain ⟨j, hj, rfl⟩ := List.getElem_of_mem he
        have := hno j hj
        rw [show es.getD j dE = es[j] from by simp [List.getD, hj]] at this
        exact this⟩⟩, hB⟩

theorem own_cut {w : World} {base size g n cap k : Nat} {e : TypeId} {xs : List Value} (h : w.ownsRow base e size (.slice (some ⟨g, 0, none⟩) n cap) n xs) (hk : k ≤ n) : w.ownsRow base e size (.slice (some ⟨g, 0, none⟩) k cap) k (xs.take (k * size)) := by
  have hm : k * size ≤ n * size := Nat.mul_le_mul_right _ hk
  refine ⟨by rw [List.length_take, h.1]; omega, .inr ?_⟩
  rcases h.2 with ⟨h1, _⟩ | ⟨g', cap', cur, h1, h2, h3, h4, h5, h6, h7⟩
  · cases h1
  · injection h1 with e1 e2 e3
    injection e1 with e1
    injection e1 with e1
    subst e1; subst e3
    exact ⟨g, cap, cur, rfl, h2, h3, by omega, h5, h6, by rw [← h7, List.take_take, Nat.min_eq_left hm]⟩
theorem gb_none {W W' : World} (hb : Below W.heap.size W W') : W.grownBy W' none := ⟨hb.os, hb.tape, hb.output, hb.size, fun k hk _ => hb.block k hk⟩
theorem own_below {w w' : World} {base n size : Nat} {e : TypeId} {v : Value} {xs : List Value} (h : w.ownsRow base e size v n xs) (hb : Below w.heap.size w w') : w'.ownsRow base e size v n xs :=
  h.kept (gb_none hb) (by cases v.ownBlock with | none => exact .inl rfl | some k => exact .inr (by simp))
/-- 'clear(s)' on a slice: its cells hold the zero value's, as many as there are. -/
theorem run_clear_any {P : Program} (w : World) (t e ty : TypeId) (z : Value) (m : Nat) (hm : 0 < m) (zs : List Value) (ht : P.underlying t = some (.slice e)) (hv : ∀ w, (zeroValue e).run P w = .ok z w) (hz : (Builtin.zeroCells z.cells m).toList = zs) (h1 : ∀ v ∈ zs, v.oneCell' = true) (b o c : Nat)
    (hc : ∀ j, j < zs.length → (w.cell? ⟨b, o + j, none⟩).isSome = true) (hf : ∀ j, j < zs.length → w.frozen? ⟨b, o + j, none⟩ = false) :
    (Builtin.clear_ #[t] ty #[.slice (some ⟨b, o, none⟩) m c]).run P w = .ok (.tuple #[]) (w.setCells b o zs) := by
  have hst := run_storeCells_cells (P := P) b o zs 0 w (by simpa using hc) (by simpa using hf) h1
  simp only [Nat.add_zero] at hst
  cases m with
  | zero => omega
  | succ m => simp [Builtin.clear_, run_underlying ht, hv, hz, hst]
theorem filter_take_succ {es : List En} {q : En → Bool} {j : Nat} (hj : j < es.length) : (es.take (j + 1)).filter q = (es.take j).filter q ++ (if q (es.getD j dE) = true then [es.getD j dE] else []) := by
  rw [List.take_succ_eq_append_getElem hj, List.filter_append, show es.getD j dE = es[j] from by simp [List.getD, hj]]
  congr 1
  by_cases h : q es[j] = true
  · rw [if_pos h, List.filter_cons_of_pos h, List.filter_nil]
  · rw [if_neg h, List.filter_cons_of_neg h, List.filter_nil]
theorem filter_take_first {es : List En} {s a : Int} {i : Nat} (hi : i < es.length) (hp : outP s a (es.getD i dE) = true) (hno : ∀ j, j < i → outP s a (es.getD j dE) = false) : (es.take (i + 1)).filter (fun e => !(outP s a e)) = es.take i := by
  rw [filter_take_succ hi, if_neg (by rw [hp]; decide), List.append_nil]
  refine List.filter_eq_self.2 (fun e he => ?_)
  obtain ⟨j, hj, rfl⟩ := List.getElem_of_mem he
  have hji : j < i := by rw [List.length_take] at hj; omega
  have := hno j hji
  rw [show es.getD j dE = es[j]'(by omega) from by simp [List.getD, (show j < es.length by omega)]] at this
  rw [List.getElem_take, this]
  rfl
/-- the row while it is gone over: what stays, what is left over, what is to come -/
structure DelI (W : World) (base g cap : Nat) (es : List En) (s a : Int) (i j : Nat) (w : World) : Prop where
  ij : i < j
  jn : j ≤ es.length
  b : Below base W w
  row : ∃ G : List En, ((es.take j).filter (fun e => !(outP s a e))).length = i ∧ i + G.length = j ∧ w.ownsRow base tE 2 (.slice (some ⟨g, 0, none⟩) es.length cap) es.length (cellsOf cE ((es.take j).filter (fun e => !(outP s a e)) ++ G ++ es.drop j))
theorem set_mid {F G D : List En} {x : En} (hG : 0 < G.length) : (F ++ G ++ D).set F.length x = F ++ [x] ++ G.tail ++ D := by
  cases G with
  | nil => simp at hG
  | cons y G => rw [List.append_assoc, List.set_append_right _ _ (Nat.le_refl _), Nat.sub_self]; simp
theorem own_frozen {w : World} {base size g n cap : Nat} {e : TypeId} {xs : List Value} (h : w.ownsRow base e size (.slice (some ⟨g, 0, none⟩) n cap) n xs) (k : Nat) : w.frozen? ⟨g, k, none⟩ = false := by
  rcases h.2 with ⟨h1, _⟩ | ⟨g', cap', cur, h1, h2, h3, _⟩
  · cases h1
  · injection h1 with e1 e2 e3
    injection e1 with e1
    injection e1 with e1
    subst e1
    exact frozen_of_row w g k cur e h3
theorem own_some {w : World} {base g n cap : Nat} {e : TypeId} {size : Nat} {xs : List Value} (h : w.ownsRow base e size (.slice (some ⟨g, 0, none⟩) n cap) n xs) {k : Nat} (hk : k < xs.length) : ∃ v, w.cell? ⟨g, k, none⟩ = some v := by
  have := h.cellAt k (by rw [← h.1]; exact hk)
  rw [List.getElem?_eq_getElem hk] at this
  exact ⟨_, this⟩
def zeroE : Value := .agg #[.int .u64 0, .int .i64 0]
theorem zeroE_cells : zeroE.cells = #[.int .u64 0, .int .i64 0] := rfl
theorem zerosE (n : Nat) : (Builtin.zeroCells zeroE.cells n).toList.length = n * 2 ∧ ∀ v ∈ (Builtin.zeroCells zeroE.cells n).toList, v.oneCell' = true := by
  rw [zeroE_cells]
  refine ⟨by simp [Builtin.zeroCells], fun v hv => ?_⟩
  simp [Builtin.zeroCells] at hv
  obtain ⟨k, _, rfl⟩ := hv
  rcases (show k % 2 = 0 ∨ k % 2 = 1 by omega) with h | h <;> (simp [h]; rfl)
theorem setL_take {zs : List Value} {l : List Value} {o : Nat} (h : o + zs.length ≤ l.length) : (setL l o zs).take o = l.take o := by
  rw [setL_eq zs l o h, List.take_append_of_le_length (by rw [List.length_take]; omega), List.take_take, Nat.min_self]
theorem below_cells {B g : Nat} {w0 : World} (hg : B ≤ g) : ∀ (vs : List Value) {w : World} (o : Nat), Below B w0 w → Below B w0 (w.setCells g o vs)
  | [], _, _, h => h
  | v :: vs, w, o, h => below_cells hg vs (o + 1) (h.setCell (p := ⟨g, o, none⟩) hg v)
set_option maxRecDepth 100000 in
set_option maxHeartbeats 8000000 in
theorem del_any (W : World) (base : Nat) (v : Value) (es : List En) (h : W.ownsRow base tE 2 v es.length (cellsOf cE es)) (hbs : base ≤ W.heap.size) (hU : UE es) (hl : es.length ≤ 1099511627776) (B1 B2 : Nat) (s a : Int) (hs : U s) (h1 : Blk W B1 32 [.int .u64 s]) (h2 : Blk W B2 2 [.int .i64 a]) (hb1 : B1 < base) (hb2 : B2 < base) :
    Calls Try.prog 63 #[v, .func (.func 64) #[] #[.pointer (some ⟨B1, 0, none⟩), .pointer (some ⟨B2, 0, none⟩)]] W fun e w' => ∃ v', e = .returned v' ∧ w'.ownsRow base tE 2 v' (delL es s a).length (cellsOf cE (delL es s a)) ∧ Below base W w' := by
  have HO := Lib.hid h
  have hPE := pe_own hl h
  have ID := Lib.hid (idx_any W v es hPE hU hl B1 B2 s a hs h1 h2)
  have H1 := Lib.hid h1; have H2 := Lib.hid h2
  clear h1 h2 hPE
  go_enter Try.func63, Try.ntmps63
  go_wp2_with fail
  refine ID.out.mono ?_; rintro e w1 ⟨r, rfl, hid, hbw⟩
  have HB1 := Lib.hid (hbw.mono hbs)
  have HO1 := Lib.hid (own_below HO.out hbw)
  clear hbw
  rcases hid.ends with ⟨rfl, hno⟩ | ⟨i, rfl, hil, hpi, hno⟩
  · have hde : delL es s a = es := by
      rw [delL_eq]
      exact List.filter_eq_self.2 (fun e he => by rw [hno e he]; rfl)
    go_wp2_with fail
    exact bodyPost_ret (v := v) (by simp [results, Try.f63, go_sem]) rfl ⟨v, rfl, by rw [hde]; exact HO1.out, HB1.out⟩
  · rcases h.2 with ⟨rfl, hz⟩ | ⟨g, cap, cur, rfl, hg, -, -, -, -, -⟩
    · omega
    · have hI0 : DelI W base g cap es s a i (i + 1) w1 := ⟨by omega, by omega, HB1.out, [es.getD i dE], by
        rw [filter_take_first hil hpi hno, List.length_take]; omega, rfl, by
        rw [filter_take_first hil hpi hno]
        have e : es.take i ++ [es.getD i dE] ++ es.drop (i + 1) = es := by
          rw [show es.getD i dE = es[i] from by simp [List.getD, hil], ← List.take_succ_eq_append_getElem hil, List.take_append_drop]
        rw [e]
        exact HO1.out⟩
      have HI0 := Lib.hid hI0
      obtain ⟨ii, hii⟩ : ∃ ii : Int, (i : Int) = ii := ⟨_, rfl⟩
      have hb9 : ii + 1 ≤ 9223372036854775807 := by omega
      have hb8 : -9223372036854775808 ≤ ii + 1 := by omega
      have hb7 : (ii == -1) = false := by rw [beq_eq_false_iff_ne]; omega
      have HII := Lib.hid hii
      rw [hii]
      clear hI0 hid hpi hno hii h
      go_wp2_with fail
      go_loopw [5, 6] (fun x y wr => ∃ i j : Nat, x = .int .i64 (i : Int) ∧ y = .int .i64 (j : Int) ∧ DelI W base g cap es s a i j wr) (fun _ y _ => es.length - (intOf y).toNat)
      case atStart => exact ⟨i, i + 1, by rw [HII.out], by rw [← HII.out]; simp, HI0.out⟩
      case round =>
        clear HI0 HII hb7 hb8 hb9
        obtain ⟨i, j, rfl, rfl, hD⟩ := hrel
        obtain ⟨hij, hjn, hB, G, hF, hG, hrow⟩ := hD
        have hLl : ((es.take j).filter (fun e => !(outP s a e)) ++ G ++ es.drop j).length = es.length := by rw [List.length_append, List.length_append, List.length_drop]; omega
        have hsz := hB.size
        by_cases hlt : j < es.length
        · obtain ⟨⟨x, y⟩, hx⟩ : ∃ x, es[j] = x := ⟨_, rfl⟩
          have hgd : es.getD j dE = (x, y) := by simp [List.getD, hlt, hx]
          have hux : U x := hU (x, y) (by rw [← hx]; exact List.getElem_mem hlt)
          have hrow' : wr.ownsRow base tE 2 (.slice (some ⟨g, 0, none⟩) ((es.take j).filter (fun e => !(outP s a e)) ++ G ++ es.drop j).length cap) ((es.take j).filter (fun e => !(outP s a e)) ++ G ++ es.drop j).length (cellsOf cE ((es.take j).filter (fun e => !(outP s a e)) ++ G ++ es.drop j)) := by rw [hLl]; exact hrow
          have hat : ((es.take j).filter (fun e => !(outP s a e)) ++ G ++ es.drop j)[j]? = some (x, y) := by
            rw [List.getElem?_append_right (by rw [List.length_append]; omega), List.length_append, hF, hG, Nat.sub_self, List.getElem?_drop, Nat.add_zero, List.getElem?_eq_getElem hlt, hx]
          obtain ⟨b3, off3, c4, e1, hlb, r0, r1⟩ := (pe_own (by omega) hrow').at hat
          injection e1 with e1 e2 e3
          injection e1 with e1
          injection e1 with e1 e4
          subst e1; subst e4; subst e3
          simp only [Nat.zero_add] at r0 r1
          have kl : (j : Int) < (es.length : Int) := by omega
          have k0 : (0 : Int) ≤ (j : Int) := Int.natCast_nonneg _
          have hal : Below wr.heap.size wr (wr.alloc (.cells #[.int .u64 x, .int .i64 y] tE)) := (Below.refl _ wr).alloc (Nat.le_refl _) _
          have hbl := Blk.new wr [.int .u64 x, .int .i64 y] tE
          have P1 := put1_any _ B1 B2 s a x y hs hux (((H1.out.below hB (by omega))).belowS hal) ((H2.out.below hB (by omega)).belowS hal)
          obtain ⟨o, ho⟩ : ∃ o, outP s a (x, y) = o := ⟨_, rfl⟩
          rw [ho] at P1
          have HP1 := Lib.hid P1
          have hft := filter_take_succ (q := fun e => !(outP s a e)) hlt
          rw [hgd, ho] at hft
          have HFT := Lib.hid hft
          have HROW := Lib.hid (own_below hrow hal); have HB := Lib.hid (hB.trans (hal.mono (by omega))); have HBL := Lib.hid hbl
          have HX := Lib.hid hx; have HLL := Lib.hid hLl; have HF := Lib.hid hF; have HG := Lib.hid hG
          have hgl : g < wr.heap.size := hlb
          clear hrow hrow' hat hB hal hbl P1 ho hft hx hgd hLl hF hG
          go_wp2_with fail
          refine HP1.out.mono ?_; rintro e w2 ⟨rfl, hb2⟩
          have HB2 := Lib.hid (HB.out.trans (hb2.mono (by simp; omega)))
          have hrow2 := own_below HROW.out hb2
          have hbl2 := HBL.out.belowS hb2
          cases o with
          | true =>
            have HR2 := Lib.hid hrow2
            clear hrow2 hbl2 hb2
            go_wp2_with fail
            go_roundw
            case rel => exact ⟨i, j + 1, rfl, by simp, by omega, by omega, HB2.out, G ++ [(x, y)], by
              rw [HFT.out]; simpa using HF.out, by have := HG.out; simp; omega, by
              rw [HFT.out]
              have e : (es.take j).filter (fun e => !(outP s a e)) ++ (if (!true) = true then [(x, y)] else []) ++ (G ++ [(x, y)]) ++ es.drop (j + 1) = (es.take j).filter (fun e => !(outP s a e)) ++ G ++ es.drop j := by
                rw [← List.getElem_cons_drop hlt, HX.out]; simp
              rw [e]
              exact HR2.out⟩
            case measure => simp [intOf]; omega
          | false =>
            have d0 := hbl2.cell (i := 0) rfl
            have d1 := hbl2.cell (i := 1) rfl
            have hcl : (cellsOf cE ((es.take j).filter (fun e => !(outP s a e)) ++ G ++ es.drop j)).length = es.length * 2 := by rw [cellsOf_length cE_length, HLL.out]
            obtain ⟨z0, hz0⟩ := own_some hrow2 (k := i * 2) (by omega)
            obtain ⟨z1, hz1⟩ := own_some hrow2 (k := i * 2 + 1) (by omega)
            have f0 := own_frozen hrow2 (i * 2)
            have f1 := own_frozen hrow2 (i * 2 + 1)
            have hst := ownsRow_storedL (cE (x, y)) (i * 2) hrow2
            rw [← cellsOf_setL cE_length _ i (x, y) (by rw [HLL.out]; omega)] at hst
            have hsm := set_mid (F := (es.take j).filter (fun e => !(outP s a e))) (G := G) (D := es.drop j) (x := (x, y)) (by have := HG.out; omega)
            rw [HF.out] at hsm
            rw [hsm] at hst
            have HST := Lib.hid hst
            have li : (i : Int) < (es.length : Int) := by omega
            have l0 : (0 : Int) ≤ (i : Int) := Int.natCast_nonneg _
            clear hrow2 hbl2 hb2 hst hsm hcl
            go_wp2_with fail
            go_roundw
            case rel => exact ⟨i + 1, j + 1, by simp, by simp, by omega, by omega, (HB2.out.setCell (p := ⟨g, i * 2, none⟩) hg _).setCell (p := ⟨g, i * 2 + 1, none⟩) hg _, G.tail ++ [(x, y)], by
              rw [HFT.out, List.length_append, HF.out]; rfl, by have := HG.out; simp; omega, by
              rw [HFT.out]
              have e : (es.take j).filter (fun e => !(outP s a e)) ++ (if (!false) = true then [(x, y)] else []) ++ (G.tail ++ [(x, y)]) ++ es.drop (j + 1) = (es.take j).filter (fun e => !(outP s a e)) ++ [(x, y)] ++ G.tail ++ es.drop j := by
                rw [← List.getElem_cons_drop hlt, HX.out]; simp
              rw [e]
              exact HST.out⟩
            case measure => simp [intOf]; omega
        · obtain rfl : j = es.length := by omega
          rw [List.take_length, List.drop_length, List.append_nil] at hrow
          rw [List.take_length] at hF
          rw [← delL_eq] at hrow hF
          have li : (i : Int) ≤ (es.length : Int) := by omega
          have l0 : (0 : Int) ≤ (i : Int) := Int.natCast_nonneg _
          have hcap := own_le hrow
          have hic : i < cap := by omega
          have hin : i < es.length := hij
          obtain ⟨hzl, hzo⟩ := zerosE (es.length - i)
          obtain ⟨zs, hzs⟩ : ∃ zs, (Builtin.zeroCells zeroE.cells (es.length - i)).toList = zs := ⟨_, rfl⟩
          rw [hzs] at hzl hzo
          have hxl : (cellsOf cE (delL es s a ++ G)).length = es.length * 2 := hrow.1
          have CL := fun ty => run_clear_any (P := Try.prog) wr tL tE ty zeroE (es.length - i) (by omega) zs Try.underlying22 Try.zeroValue41 hzs hzo g (i * 2) (cap - i) (fun j hj => by obtain ⟨z, hz⟩ := own_some hrow (k := i * 2 + j) (by omega); rw [hz]; rfl) (fun j hj => own_frozen hrow _)
          have hst := own_cut (ownsRow_storedL zs (i * 2) hrow) (k := i) (by omega)
          rw [setL_take (by omega), cellsOf_take cE_length, ← hF, List.take_append_of_le_length (Nat.le_refl _), List.take_length] at hst
          have hB5 := below_cells (g := g) hg zs (i * 2) hB
          have HST := Lib.hid hst; have HB5 := Lib.hid hB5; have HF := Lib.hid hF
          clear hrow hst hB5 hzs hzo hzl hB
          go_wp2_with fail
          exact bodyPost_ret (v := .slice (some ⟨g, 0, none⟩) i cap) (by simp [results, Try.f63, go_sem]) rfl ⟨_, rfl, by have h := HST.out; rw [HF.out] at h ⊢; exact h, HB5.out⟩

end Go.Proofs.Ytnlhgnioedalpaa.Pri

/- price: where a set stands (slices.BinarySearchFunc). -/
set_option linter.unusedSimpArgs false
set_option linter.unusedVariables false
namespace Go.Proofs.Ytnlhgnioedalpaa.Pri
open Go.RowKit Go.Proofs.YtnlhgnioedalpaaW.PrintWords Go.Proofs.Ytnlhgnioedalpaa.PPricePlays
attribute [local go_sem] Oper.semAt_some

theorem put2_any (W : World) (s x y : Int) (hs : U s) (hx : U x) :
    Calls Try.prog 67 #[.agg #[.int .u64 x, .int .i64 y], .int .u64 s] W fun e w' => e = .returned (.int .i64 (cmpS x s)) ∧ Below W.heap.size W w' := by
  have hal : Below W.heap.size W (W.alloc (.cells #[.int .u64 x, .int .i64 y] tE)) := (Below.refl _ W).alloc (Nat.le_refl _) _
  have C := Lib.hid (cmp_any (W.alloc (.cells #[.int .u64 x, .int .i64 y] tE)) x s hx hs)
  have HAL := Lib.hid hal
  clear hal
  obtain ⟨r, hr⟩ : ∃ r, cmpS x s = r := ⟨_, rfl⟩
  rw [hr] at C ⊢
  clear hr
  go_enter Try.func67, Try.ntmps67
  go_wp2_with fail
  refine C.out.mono ?_; rintro e w1 ⟨rfl, hb⟩
  go_wp2_with fail
  go_ret
  exact ⟨rfl, HAL.out.trans (hb.mono HAL.out.size)⟩
theorem cmpS_lt {a b : Int} : cmpS a b < 0 ↔ ltS a b = true := by
  unfold cmpS
  by_cases h : ltS a b = true
  · rw [if_pos h]; simp [h]
  · rw [if_neg h]
    split <;> simp [h]
/-- where s stands among sorted entries -/
structure Pos (es : List En) (s : Int) (k : Nat) : Prop where
  le : k ≤ es.length
  lo : ∀ m, m < k → ltS (es.getD m dE).1 s = true
  hi : ∀ m, k ≤ m → m < es.length → ltS (es.getD m dE).1 s = false
theorem sd_at {es : List En} (h : es.Pairwise (fun a b => ltS a.1 b.1 = true)) {i j : Nat} (hij : i < j) (hj : j < es.length) : ltS (es.getD i dE).1 (es.getD j dE).1 = true := by
  have := List.pairwise_iff_getElem.1 h i j (by omega) hj hij
  rw [show es.getD i dE = es[i]'(by omega) from by simp [List.getD, (show i < es.length by omega)], show es.getD j dE = es[j] from by simp [List.getD, hj]]
  exact this
set_option maxRecDepth 100000 in
set_option maxHeartbeats 8000000 in
theorem pos_any (W : World) (v : Value) (es : List En) (h : PE W v es) (hU : UE es) (hl : es.length ≤ 1099511627776) (hsd : es.Pairwise (fun a b => ltS a.1 b.1 = true)) (s : Int) (hs : U s) :
    Calls Try.prog 66 #[v, .int .u64 s, .func (.func 67) #[] #[]] W fun e w' => ∃ (k : Nat) (b : Bool), e = .returned (.tuple #[.int .i64 (k : Int), .bool b]) ∧ Pos es s k ∧ Below W.heap.size W w' := by
  have H := Lib.hid h
  obtain ⟨A, c, rfl, -⟩ := h
  go_enter Try.func66, Try.ntmps66
  go_wp2_with fail
  go_loopw [9, 10] (fun x y wr => ∃ i j : Nat, x = .int .i64 (i : Int) ∧ y = .int .i64 (j : Int) ∧ i ≤ j ∧ j ≤ es.length ∧ (∀ m, m < i → ltS (es.getD m dE).1 s = true) ∧ (∀ m, j ≤ m → m < es.length → ltS (es.getD m dE).1 s = false) ∧ Below W.heap.size W wr) (fun x y _ => (intOf y - intOf x).toNat)
  case atStart => exact ⟨0, es.length, rfl, rfl, Nat.zero_le _, Nat.le_refl _, fun m hm => by omega, fun m h1 h2 => by omega, Below.refl _ W⟩
  case round =>
    obtain ⟨i, j, rfl, rfl, hij, hj, hlo, hhi, hB⟩ := hrel
    by_cases hlt : i < j
    · obtain ⟨k, hk⟩ : ∃ k : Nat, (i + j) / 2 = k := ⟨_, rfl⟩
      have hki : i ≤ k := by omega
      have hkj : k < j := by omega
      have hkl : k < es.length := by omega
      obtain ⟨⟨x, y⟩, hx⟩ : ∃ x, es[k] = x := ⟨_, rfl⟩
      have hx2 : es[k]? = some (x, y) := by rw [List.getElem?_eq_getElem hkl, hx]
      have hgd : es.getD k dE = (x, y) := by rw [List.getD_eq_getElem?_getD, hx2]; rfl
      have hux : U x := hU _ (List.mem_of_getElem? hx2)
      obtain ⟨b3, off3, c4, e1, hlb, r0, r1⟩ := (H.out.below hB).at hx2
      obtain ⟨rfl, rfl⟩ : A = some ⟨b3, off3, none⟩ ∧ c = c4 := by injection e1 with e1 e2 e3; exact ⟨e1, e3⟩
      simp only at r0 r1
      have P2 := Lib.hid (put2_any wr s x y hs hux)
      have li : (i : Int) < (j : Int) := by omega
      have HB := Lib.hid hB
      have HLO := Lib.hid hlo; have HHI := Lib.hid hhi; have HGD := Lib.hid hgd
      clear hx hx2 hgd e1 hB hlo hhi
      subst hk
      go_wp2_with fail
      refine P2.out.mono ?_; rintro e w1 ⟨rfl, hb1⟩
      have HB1 := Lib.hid (HB.out.trans (hb1.mono HB.out.size))
      obtain ⟨r, hr⟩ : ∃ r, cmpS x s = r := ⟨_, rfl⟩
      have hiff : r < 0 ↔ ltS x s = true := by rw [← hr]; exact cmpS_lt
      rw [hr]
      clear hb1 P2 hr
      by_cases hc : ltS x s = true
      · have hr0 : r < 0 := hiff.2 hc
        have HC := Lib.hid hc
        have g1 : ((i : Int) + (j : Int)) / 2 + 1 ≤ 9223372036854775807 := by omega
        have g2 : -9223372036854775808 ≤ ((i : Int) + (j : Int)) / 2 + 1 := by omega
        clear hiff hc
        go_wp2_with fail
        go_roundw
        case rel => exact ⟨(i + j) / 2 + 1, j, by congr 1, rfl, by omega, hj, fun m hm => by
          rcases Nat.lt_succ_iff_lt_or_eq.1 hm with h | h
          · have h1 := sd_at hsd h hkl
            rw [HGD.out] at h1
            exact ltS_trans h1 HC.out
          · rw [h, HGD.out]; exact HC.out, HHI.out, HB1.out⟩
        case measure => simp [intOf]; omega
      · have hr0 : ¬ r < 0 := fun h => hc (hiff.1 h)
        have HC := Lib.hid (show ltS x s = false by simpa using hc)
        clear hiff hc
        go_wp2_with fail
        go_roundw
        case rel => exact ⟨i, (i + j) / 2, rfl, by congr 1, by omega, by omega, HLO.out, fun m h1 h2 => by
          rcases Nat.lt_or_eq_of_le h1 with h | h
          · cases hq : ltS (es.getD m dE).1 s with
            | false => rfl
            | true =>
              have h3 := sd_at hsd h h2
              rw [HGD.out] at h3
              have h4 := ltS_trans h3 hq
              rw [HC.out] at h4
              cases h4
          · rw [← h, HGD.out]; exact HC.out, HB1.out⟩
        case measure => simp [intOf]; omega
    · obtain rfl : i = j := by omega
      have HP := Lib.hid (show Pos es s i from ⟨hj, hlo, hhi⟩)
      have HB := Lib.hid hB
      clear hlo hhi hB
      by_cases hin : i < es.length
      · obtain ⟨⟨x, y⟩, hx⟩ : ∃ x, es[i] = x := ⟨_, rfl⟩
        have hx2 : es[i]? = some (x, y) := by rw [List.getElem?_eq_getElem hin, hx]
        have hux : U x := hU _ (List.mem_of_getElem? hx2)
        obtain ⟨b3, off3, c4, e1, hlb, r0, r1⟩ := (H.out.below HB.out).at hx2
        obtain ⟨rfl, rfl⟩ : A = some ⟨b3, off3, none⟩ ∧ c = c4 := by injection e1 with e1 e2 e3; exact ⟨e1, e3⟩
        simp only at r0 r1
        have P2 := Lib.hid (put2_any wr s x y hs hux)
        have kl : (i : Int) < (es.length : Int) := by omega
        have k0 : (0 : Int) ≤ (i : Int) := Int.natCast_nonneg _
        clear hx hx2 e1
        go_wp2_with fail
        refine P2.out.mono ?_; rintro e w1 ⟨rfl, hb1⟩
        have HB1 := Lib.hid (HB.out.trans (hb1.mono HB.out.size))
        obtain ⟨r, hr⟩ : ∃ r, cmpS x s = r := ⟨_, rfl⟩
        rw [hr]
        clear hb1 P2 hr
        go_wp2_with fail
        go_ret2
        exact ⟨i, _, rfl, HP.out, HB1.out⟩
      · have kl : ¬ (i : Int) < (es.length : Int) := by omega
        go_wp2_with fail
        go_ret2
        first | exact ⟨i, _, rfl, HP.out, HB.out⟩ | exact ⟨i, rfl, HP.out, HB.out⟩ | exact ⟨i, by simp, HP.out, HB.out⟩

end Go.Proofs.Ytnlhgnioedalpaa.Pri
