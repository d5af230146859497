/- price: what is asked. -/
import Derived.Test.YtnlhgnioedalpaaPriE
set_option linter.unusedSimpArgs false
set_option linter.unusedVariables false
namespace Go.Proofs.Ytnlhgnioedalpaa.Pri
open Go.RowKit Go.Proofs.YtnlhgnioedalpaaW.PrintWords Go.Proofs.Ytnlhgnioedalpaa.PPricePlays
attribute [local go_sem] Oper.semAt_some

set_option maxHeartbeats 400000 in
theorem withinS_any (W : World) (p : Nat) (s : Int) :
    Calls Try.prog 62 #[.pointer (some ⟨p, 0, none⟩), .int .u64 s] W fun e w' => e = .returned (.func (.func 95) #[] #[.pointer (some ⟨W.heap.size, 0, none⟩), .pointer (some ⟨W.heap.size + 1, 0, none⟩)]) ∧ w' = (W.alloc (.cells #[.pointer (some ⟨p, 0, none⟩)] 25)).alloc (.cells #[.int .u64 s] 32) := by
  go_enter Try.func62, Try.ntmps62
  go_wp2_with fail
  go_ret
  exact ⟨rfl, rfl⟩
def evE (e : En) : Value := .agg #[.int .u64 e.1, .int .i64 e.2]
def UE (es : List En) : Prop := ∀ e ∈ es, U e.1
set_option maxRecDepth 100000 in
set_option maxHeartbeats 4000000 in
theorem within_iter (n : Nat) (B1 B2 p : Nat) (v : Value) (s : Int) (hs : U s) (es : List En) (hU : UE es) (hsm : es.length < 9223372036854775807) (Inv : Nat → World → Prop)
    (hI : ∀ k W, Inv k W → W.cell? ⟨B1, 0, none⟩ = some (.pointer (some ⟨p, 0, none⟩)) ∧ W.cell? ⟨B2, 0, none⟩ = some (.int .u64 s) ∧ W.cell? ⟨p, 0, none⟩ = some v ∧ PE W v es)
    (hal : ∀ k W o, Inv k W → Inv k (W.alloc o)) (hskip : ∀ k W, k < es.length → wi (es.getD k dE).1 s = false → Inv k W → Inv (k + 1) W) :
    IterOk Fence.wide n Try.prog 95 #[.pointer (some ⟨B1, 0, none⟩), .pointer (some ⟨B2, 0, none⟩)] (fun k : Nat => #[evE (es.getD k dE)])
      (Inv 0) (fun k W => k < es.length ∧ wi (es.getD k dE).1 s = true ∧ Inv k W) (fun k W => Inv (k + 1) W) (Inv es.length) := by
  intro l Rc JX W1 hRc hJX hR0 hS0 hY
  refine callsIn_of_wp Try.func95 rfl trivial ?_ rfl
  simp only [Try.ntmps95, List.size_toArray, List.length_cons, List.length_nil, Nat.reduceAdd, Nat.reduceSub, Array.replicate_succ, Array.replicate_zero, List.push_toArray, List.append_toArray, List.nil_append, List.cons_append]
  obtain ⟨cb1, cb2, cp, hPE⟩ := hI _ _ hS0
  obtain ⟨A, c, rfl, -⟩ := hPE
  gi_wp2_with fail
  gi_loopw [11] (fun i wr => ∃ k : Nat, k ≤ es.length ∧ i = .int .i64 k ∧ Rc wr ∧ Inv k wr) (fun i _ => es.length - (intOf i).toNat)
  case atStart => exact ⟨0, Nat.zero_le _, rfl, hR0, hS0⟩
  case round =>
    obtain ⟨k, hk, rfl, hr, hi⟩ := hrel
    obtain ⟨db1, db2, dp, hPE⟩ := hI _ _ hi
    have k0 : (0 : Int) ≤ (k : Int) := Int.natCast_nonneg _
    have k9 : (k : Int) ≤ 9223372036854775807 := by omega
    by_cases hlt2 : k < es.length
    · have kl : (k : Int) < (es.length : Int) := by omega
      obtain ⟨⟨x, y⟩, hx⟩ : ∃ x, es[k] = x := ⟨_, rfl⟩
      have hx2 : es[k]? = some (x, y) := by rw [List.getElem?_eq_getElem hlt2, hx]
      have hgd : es.getD k dE = (x, y) := by rw [List.getD_eq_getElem?_getD, hx2]; rfl
      have hux : U x := hU _ (List.mem_of_getElem? hx2)
      obtain ⟨b3, off3, c4, e1, hlb, r0, r1⟩ := hPE.at hx2
      obtain ⟨rfl, rfl⟩ : A = some ⟨b3, off3, none⟩ ∧ c = c4 := by injection e1 with e1 e2 e3; exact ⟨e1, e3⟩
      simp only at r0 r1
      have hia := hal _ _ (.cells #[.int .u64 x, .int .i64 y] tE) hi
      have hra := hRc _ _ hr (belowOthers ((Below.refl wr.heap.size wr).alloc (Nat.le_refl _) (.cells #[.int .u64 x, .int .i64 y] tE)))
      obtain ⟨db1', db2', dp', _⟩ := hI _ _ hia
      have hbl := Blk.new wr [.int .u64 x, .int .i64 y] tE
      rw [show (List.toArray [Value.int .u64 x, .int .i64 y]) = #[.int .u64 x, .int .i64 y] from rfl] at hbl
      obtain ⟨ws, hws⟩ : ∃ ws, wr.alloc (.cells #[.int .u64 x, .int .i64 y] tE) = ws := ⟨_, rfl⟩
      rw [hws] at hia hra db1' db2' dp' hbl
      have c0 := hbl.cell (i := 0) rfl
      have c1 := hbl.cell (i := 1) rfl
      have HWS := Lib.hid hws
      have WI := within_any ws x s hux hs
      have hB2 := (cell_spot db2).2
      cases hwi : wi x s with
      | false =>
        rw [hwi] at WI
        have HWI := Lib.hid WI
        have HN := Lib.hid (hskip k ws hlt2 (by rw [hgd]; exact hwi) hia)
        have HRA := Lib.hid hra
        clear hx hx2 hgd hws hia hra hbl e1 WI hwi db1 dp hPE db1' dp'
        gi_wp2_with fail
        rw [HWS.out]
        refine ⟨trivial, (fun h => (by cases h)), ?_⟩
        refine CallsIn.mono (callsIn_wide.2 HWI.out) ?_; rintro e w2 ⟨rfl, rfl⟩
        gi_wp2_with fail
        refine ⟨fun f h => (by cases h), ?_⟩
        gi_wp2_with fail
        go_roundw
        case rel => exact ⟨k + 1, by omega, by simp, HRA.out, HN.out⟩
        case measure => simp [intOf]; omega
      | true =>
        rw [hwi] at WI
        have HWI := Lib.hid WI
        obtain ⟨fn, tmps, assign, body, hy, hRn⟩ := hY k ws ⟨hlt2, by rw [hgd]; exact hwi, hia⟩ hra
        rw [hgd] at hy
        dsimp only [evE] at hy
        clear hx hx2 hgd hws hia hra hbl e1 WI hwi db1 dp hPE db1' dp'
        gi_wp2_with fail
        rw [HWS.out]
        refine ⟨trivial, (fun h => (by cases h)), ?_⟩
        refine CallsIn.mono (callsIn_wide.2 HWI.out) ?_; rintro e w2 ⟨rfl, rfl⟩
        gi_wp2_with fail
        refine ⟨fun h => (by cases h), ?_⟩
        refine hRn.mono ?_
        rintro e W3 (⟨rfl, hi3, hr3⟩ | ⟨rfl, hJ⟩)
        · gi_wp2_with fail
          go_roundw
          case rel => exact ⟨k + 1, by omega, by simp, hr3, hi3⟩
          case measure => simp [intOf]; omega
        · gi_wp2_with fail
          refine bodyPost_ret (results_none rfl _ _ _) rfl ?_
          exact ⟨⟨_, rfl⟩, .inr hJ⟩
    · obtain rfl : k = es.length := by omega
      gi_wp2_with fail
      go_end0
      exact ⟨⟨_, rfl⟩, .inl ⟨hi, hr⟩⟩

/-- what Ask holds while it goes on: the sum's cell, the boxes, the store -/
def AI (W : World) (p : Nat) (s a : Int) (W' : World) : Prop := Blk W' W.heap.size 2 [.int .i64 a] ∧ Blk W' (W.heap.size + 1) 25 [.pointer (some ⟨p, 0, none⟩)] ∧ Blk W' (W.heap.size + 2) 32 [.int .u64 s] ∧ Below W.heap.size W W'
theorem AI.ownF (W : World) (p : Nat) (s a : Int) {b : Nat} (hb : W.heap.size ≤ b) : OwnFrom b (fun (_ : Unit) W' => AI W p s a W') :=
  OwnFrom.and (Own.from (blk_own _ _ (fun _ => _)) _) (OwnFrom.and (Own.from (blk_own _ _ (fun _ => _)) _) (OwnFrom.and (Own.from (blk_own _ _ (fun _ => _)) _) (ownFrom_below (Nat.le_refl _) hb)))
theorem AI.alloc {W W' : World} {p : Nat} {s a : Int} (h : AI W p s a W') (o : Obj) : AI W p s a (W'.alloc o) := ⟨h.1.alloc o, h.2.1.alloc o, h.2.2.1.alloc o, h.2.2.2.alloc h.2.2.2.size o⟩
theorem ask_take {es : List En} {s : Int} {k : Nat} (hk : k < es.length) : askL (es.take (k + 1)) s = if wi (es.getD k dE).1 s = true then max (askL (es.take k) s) (es.getD k dE).2 else askL (es.take k) s := by
  rw [List.take_succ_eq_append_getElem hk, show es.getD k dE = es[k] from by simp [List.getD, hk]]
  unfold askL
  rw [List.foldl_append]
  rfl
set_option maxRecDepth 100000 in
set_option maxHeartbeats 4000000 in
theorem ask_any (W : World) (p : Nat) (es : List En) (s : Int) (h : PR W p es) (hU : UE es) (hs : U s) (hl : es.length ≤ 1099511627776) :
    Calls Try.prog 21 #[.pointer (some ⟨p, 0, none⟩), .int .u64 s] W fun e w' => e = .returned (.int .i64 (askL es s)) ∧ Below W.heap.size W w' := by
  obtain ⟨v, hb, hPE⟩ := h
  have HB0 := Lib.hid hb; have HPE := Lib.hid hPE
  refine (callsIn_wide (n := 4)).1 ?_
  refine callsIn_of_wp_marks Try.func21 rfl trivial ?_ rfl
  refine wpIn_wide.2 ?_
  simp only [Try.ntmps21, List.size_toArray, List.length_cons, List.length_nil, Nat.reduceAdd, Nat.reduceSub, Array.replicate_succ, Array.replicate_zero, List.push_toArray, List.append_toArray, List.nil_append, List.cons_append]
  go_wp2_with fail
  have bz := Blk.new W [.int .i64 0] 2
  have hal1 : Below W.heap.size W (W.alloc (.cells #[.int .i64 0] 2)) := (Below.refl _ W).alloc (Nat.le_refl _) _
  obtain ⟨w1, hw1⟩ : ∃ w1, W.alloc (.cells #[.int .i64 0] 2) = w1 := ⟨_, rfl⟩
  have hz1 : w1.heap.size = W.heap.size + 1 := by rw [← hw1]; simp
  rw [show (List.toArray [Value.int .i64 0]) = #[.int .i64 0] from rfl, hw1] at bz
  rw [hw1] at hal1 ⊢
  clear hw1
  refine (withinS_any w1 p s).mono ?_; rintro e w2 ⟨rfl, hw2⟩
  have b1 := (Blk.new w1 [.pointer (some ⟨p, 0, none⟩)] 25).alloc (.cells #[.int .u64 s] 32)
  have b2 := Blk.new2 w1 (.cells #[.pointer (some ⟨p, 0, none⟩)] 25) [.int .u64 s] 32
  have hS2 : AI W p s (askL (es.take 0) s) w2 := by
    rw [hw2]
    rw [hz1] at b1 b2
    exact ⟨(bz.alloc _).alloc _, b1, b2, (hal1.alloc hal1.size _).alloc (by simp; omega) _⟩
  have hz2 : w2.heap.size = W.heap.size + 3 := by rw [hw2]; simp [hz1]
  obtain ⟨g, hg⟩ : ∃ g, w1.heap.size = g := ⟨_, rfl⟩
  rw [hg] at hz1 ⊢
  subst hz1
  clear hw2 hal1 bz b1 b2 hg hb hPE
  have IT := within_iter 3 (W.heap.size + 1) (W.heap.size + 2) p v s hs es hU (by omega) (fun k W' => AI W p s (askL (es.take k) s) W')
    (fun k W' h => ⟨h.2.1.cell rfl, h.2.2.1.cell rfl, (HB0.out.belowS h.2.2.2).cell rfl, HPE.out.below h.2.2.2⟩) (fun k W' o h => h.alloc o)
    (fun k W' hk hw h => by rw [ask_take hk, hw]; exact h)
  go_wp2_with fail
  have hsO : ∀ a, OwnFrom w2.heap.size (fun (_ : Unit) W' => AI W p s a W') := fun a => AI.ownF W p s a (by omega)
  refine wpIn_wide.1 (range_gen (F := Fence.wide) (n := 4) rfl (by omega) (gf := 95) (lb := #[.pointer (some ⟨W.heap.size + 1, 0, none⟩), .pointer (some ⟨W.heap.size + 2, 0, none⟩)]) rfl trivial (enters_of Try.func95 (by kernel_rfl) rfl) (encs := fun k : Nat => #[evE (es.getD k dE)]) (fun _ => rfl)
    (fun W' => AI W p s (askL (es.take 0) s) W')
    (fun k W' => k < es.length ∧ wi (es.getD k dE).1 s = true ∧ AI W p s (askL (es.take k) s) W')
    (fun k W' => AI W p s (askL (es.take (k + 1)) s) W')
    (fun c W' => False)
    (fun W' => AI W p s (askL (es.take es.length) s) W')
    (fun k a' W' => ∃ q : Nat, a' = { tmps := #[.pointer (some ⟨p, 0, none⟩), .int .u64 s, undef, undef, .int .i64 0, .pointer (some ⟨W.heap.size, 0, none⟩), .pointer (some ⟨q, 0, none⟩), .pointer (some ⟨p, 0, none⟩), .int .u64 s, .func (.func 95) #[] #[.pointer (some ⟨W.heap.size + 1, 0, none⟩), .pointer (some ⟨W.heap.size + 2, 0, none⟩)], evE (es.getD k dE), undef, undef, undef, undef, undef], defers := [] } ∧ k < es.length ∧ wi (es.getD k dE).1 s = true ∧ AI W p s (askL (es.take k) s) W' ∧ Blk W' q tE (cE (es.getD k dE)) ∧ W.heap.size + 3 ≤ q)
    (hsO _)
    (fun k => hsO _)
    (fun c _ _ _ _ hs _ _ => hs)
    (hsO _)
    (fun k a' s A B row hs hg hr => by
      obtain ⟨q, h1, h2, h3, h4, h5, h6⟩ := hs
      exact ⟨q, h1, h2, h3, hsO _ () A B row h4 hg hr, Own.from (blk_own _ _ (fun _ : Unit => _)) _ () A B row h5 hg hr, h6⟩)
    hS2 IT ?assign ?body ?done ?stop)
  case assign =>
    clear IT hsO
    rintro l2 k W' K ⟨hk, hw, hP⟩ hK
    obtain ⟨⟨x, y⟩, hx⟩ : ∃ x, es.getD k dE = x := ⟨_, rfl⟩
    have hz := hP.2.2.1.lt
    have HK := Lib.hid (fun a' ha' => hK a' (W'.alloc (.cells #[.int .u64 x, .int .i64 y] tE)) (KeepsFrom.of_grownBy (World.grownBy_alloc W' _ none) (fun j e => by cases e)) ⟨W'.heap.size, ha', hk, hw, hP.alloc _, by rw [hx]; exact Blk.new W' _ _, by omega⟩)
    rw [hx] at HK ⊢
    unfold evE at HK ⊢
    clear hK hP hx hw
    gi_wp2_with fail
    exact HK.out _ rfl
  case body =>
    clear IT
    rintro l2 k a' W' hl' hr ⟨q, rfl, hk, hw, hP, hb, hq⟩
    have hak := ask_take (s := s) hk
    rw [hw, if_pos rfl] at hak
    obtain ⟨⟨x, y⟩, hx⟩ : ∃ x, es.getD k dE = x := ⟨_, rfl⟩
    rw [hx] at hb hak ⊢
    obtain ⟨a, ha⟩ : ∃ a, askL (es.take k) s = a := ⟨_, rfl⟩
    rw [ha] at hP hak
    dsimp only at hak
    have c0 := hP.1.cell (i := 0) rfl
    have f0 := hP.1.frozen 0
    have m1 := hb.cell (i := 1) rfl
    have hbs := hP.2.2.2.size
    have HP := Lib.hid (show KeepsFrom w2.heap.size W' (W'.setCell ⟨W.heap.size, 0, none⟩ (.int .i64 (max a y))) ∧ AI W p s (askL (es.take (k + 1)) s) (W'.setCell ⟨W.heap.size, 0, none⟩ (.int .i64 (max a y))) from
      ⟨KeepsFrom.of_grownBy (grownBy_setAt W' _ 0 _) (fun j e => by cases e; omega), by rw [hak]; exact hP.1.set 0 _, hP.2.1.other (p := ⟨W.heap.size, 0, none⟩) (by simp) _, hP.2.2.1.other (p := ⟨W.heap.size, 0, none⟩) (by simp) _, hP.2.2.2.setCell (p := ⟨W.heap.size, 0, none⟩) (Nat.le_refl _) _⟩)
    clear hx hb hP hsO hak ha hw
    unfold evE
    rcases Int.lt_or_le a y with hm | hm
    · rw [Int.max_eq_right (Int.le_of_lt hm)] at HP
      gi_wp2_with fail
      exact hz2 ▸ HP.out
    · rw [Int.max_eq_left hm] at HP
      gi_wp2_with fail
      exact hz2 ▸ HP.out
  case done =>
    clear IT hsO
    rintro D W' hD ⟨hz, h1, h2, hB⟩ hK
    have cz := hz.cell (i := 0) rfl
    rw [List.take_length] at cz
    go_wp2
    refine ⟨by simp, .inl ⟨_, _, rfl, run_takeDeferred hK, ?_⟩⟩
    exact ⟨_, results_tmp rfl _ _ _, rfl, hB.trans (belowK_b (w := w2) (by omega) W' D _ _ hD hK rfl rfl)⟩
  case stop =>
    rintro D c W' hD hF hK
    exact hF.elim

end Go.Proofs.Ytnlhgnioedalpaa.Pri
