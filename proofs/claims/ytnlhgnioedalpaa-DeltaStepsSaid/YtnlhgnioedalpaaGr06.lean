/- PriS, PriV, PriceGrows, ChkA, ChkB, PriW, laid together. -/
import Derived.Test.YtnlhgnioedalpaaGr05
import Derived.BigQuiet
import Derived.Maps.OwnSet

/- price: the other methods of a store. -/
set_option linter.unusedSimpArgs false
set_option linter.unusedVariables false
namespace Go.Proofs.Ytnlhgnioedalpaa.Pri
open Go.RowKit Go.Proofs.YtnlhgnioedalpaaW.PrintWords Go.Proofs.Ytnlhgnioedalpaa.PPricePlays
attribute [local go_sem] Oper.semAt_some

theorem wrap_succ {i : Nat} (h : i < 9223372036854775807) : wrap64 ((i : Int) + 1) = ((i + 1 : Nat) : Int) := by unfold wrap64; omega
theorem rdE (l : List En) {i : Nat} (hi : i < l.length) : rd_T41 (l.map toE) (i : Int) = toE l[i] := by simp [rd_T41, hi]
theorem list_any (W : World) (p : Nat) (es : List En) (h : PR W p es) (hl : es.length ≤ 1099511627776) :
    Calls Try.prog 17 #[.pointer (some ⟨p, 0, none⟩)] W fun e w' => ∃ v', e = .returned v' ∧ w'.ownsRow W.heap.size tE 2 v' es.length (cellsOf cE es) ∧ Below W.heap.size W w' := by
  obtain ⟨v, hb, hpe⟩ := h
  have cp := hb.cell (i := 0) rfl
  have C := Lib.hid (clone_any W v es hpe hl)
  clear hb hpe
  go_enter Try.func17, Try.ntmps17
  go_wp2_with fail
  refine C.out.mono ?_; rintro e w1 ⟨v', rfl, ho, hb⟩
  have HO := Lib.hid ho; have HB := Lib.hid hb
  clear ho hb
  go_wp2_with fail
  exact bodyPost_ret (v := v') (by simp [results, Try.f17, go_sem]) rfl ⟨_, rfl, HO.out, HB.out⟩
theorem put_len (es : List En) (s a : Int) : (putP es s a).length ≤ es.length + 1 := by
  unfold putP
  split
  · have h1 : ∀ l : List En, (insL l s a).length = l.length + 1 := fun l => by
      induction l with
      | nil => rfl
      | cons e r ih => simp only [insL]; split <;> simp [ih]
    have h2 : (delL es s a).length ≤ es.length := List.length_filter_le ..
    rw [h1]; omega
  · omega
theorem UE.put {es : List En} (h : UE es) {s : Int} (hs : U s) (a : Int) : UE (putP es s a) := by
  unfold putP
  split
  · intro e he
    rcases ins_mem.1 he with rfl | he
    · exact hs
    · exact h.del s a e he
  · exact h
theorem ofL_take {es : List En} {k : Nat} (hk : k < es.length) : ofL (es.take (k + 1)) = putP (ofL (es.take k)) (es.getD k dE).1 (es.getD k dE).2 := by
  rw [List.take_succ_eq_append_getElem hk, show es.getD k dE = es[k] from by simp [List.getD, hk]]
  unfold ofL
  rw [List.foldl_append]
  rfl
theorem SR.put {W W' : World} {p : Nat} {es : List En} {s a : Int} (h : SR W p es) (hs : U s) (hp : PR W' p (putP es s a)) (hl : es.length < 100000000) : SR W' p (putP es s a) :=
  ⟨hp, h.ue.put hs a, h.ti.put hs a, by have := put_len es s a; omega⟩
theorem sput_anyF (W : World) (p : Nat) (es : List En) (s a : Int) (h : SR W p es) (hs : U s) :
    Calls Try.prog 25 #[.pointer (some ⟨p, 0, none⟩), .int .u64 s, .int .i64 a] W fun e w' => e = .returned (.bool (okP es s a)) ∧ PR w' p (putP es s a) ∧ W.grownBy w' (some p) ∧ NF W w' p := put_anyF W p es s a h.pr h.ue h.ti hs h.len
theorem sask_any (W : World) (p : Nat) (es : List En) (s : Int) (h : SR W p es) (hs : U s) :
    Calls Try.prog 21 #[.pointer (some ⟨p, 0, none⟩), .int .u64 s] W fun e w' => e = .returned (.int .i64 (askL es s)) ∧ Below W.heap.size W w' := ask_any W p es s h.pr h.ue hs (by have := h.len; omega)
set_option maxHeartbeats 400000 in
theorem entries_any (W : World) (p : Nat) :
    Calls Try.prog 28 #[.pointer (some ⟨p, 0, none⟩)] W fun e w' => e = .returned (.func (.func 70) #[] #[.pointer (some ⟨W.heap.size, 0, none⟩)]) ∧ w' = W.alloc (.cells #[.pointer (some ⟨p, 0, none⟩)] 25) := by
  go_enter Try.func28, Try.ntmps28
  go_wp2_with fail
  go_ret
  exact ⟨rfl, rfl⟩
set_option maxRecDepth 100000 in
set_option maxHeartbeats 4000000 in
theorem entries_iter (n : Nat) (B1 p : Nat) (v : Value) (es : List En) (hsm : es.length < 9223372036854775807) (Inv : Nat → World → Prop)
    (hI : ∀ k W, Inv k W → W.cell? ⟨B1, 0, none⟩ = some (.pointer (some ⟨p, 0, none⟩)) ∧ W.cell? ⟨p, 0, none⟩ = some v ∧ PE W v es)
    (hal : ∀ k W o, Inv k W → Inv k (W.alloc o)) :
    IterOk Fence.wide n Try.prog 70 #[.pointer (some ⟨B1, 0, none⟩)] (fun k : Nat => #[.int .u64 (es.getD k dE).1, .int .i64 (es.getD k dE).2])
      (Inv 0) (fun k W => k < es.length ∧ Inv k W) (fun k W => Inv (k + 1) W) (Inv es.length) := by
  intro l Rc JX W1 hRc hJX hR0 hS0 hY
  refine callsIn_of_wp Try.func70 rfl trivial ?_ rfl
  simp only [Try.ntmps70, List.size_toArray, List.length_cons, List.length_nil, Nat.reduceAdd, Nat.reduceSub, Array.replicate_succ, Array.replicate_zero, List.push_toArray, List.append_toArray, List.nil_append, List.cons_append]
  obtain ⟨cb1, cp, hPE⟩ := hI _ _ hS0
  obtain ⟨A, c, rfl, -⟩ := hPE
  gi_wp2_with fail
  gi_loopw [10] (fun i wr => ∃ k : Nat, k ≤ es.length ∧ i = .int .i64 k ∧ Rc wr ∧ Inv k wr) (fun i _ => es.length - (intOf i).toNat)
  case atStart => exact ⟨0, Nat.zero_le _, rfl, hR0, hS0⟩
  case round =>
    obtain ⟨k, hk, rfl, hr, hi⟩ := hrel
    obtain ⟨db1, dp, hPE⟩ := hI _ _ hi
    have k0 : (0 : Int) ≤ (k : Int) := Int.natCast_nonneg _
    have k9 : (k : Int) ≤ 9223372036854775807 := by omega
    by_cases hlt2 : k < es.length
    · have kl : (k : Int) < (es.length : Int) := by omega
      obtain ⟨⟨x, y⟩, hx⟩ : ∃ x, es[k] = x := ⟨_, rfl⟩
      have hx2 : es[k]? = some (x, y) := by rw [List.getElem?_eq_getElem hlt2, hx]
      have hgd : es.getD k dE = (x, y) := by rw [List.getD_eq_getElem?_getD, hx2]; rfl
      obtain ⟨b3, off3, c4, e1, hlb, r0, r1⟩ := hPE.at hx2
      obtain ⟨rfl, rfl⟩ : A = some ⟨b3, off3, none⟩ ∧ c = c4 := by injection e1 with e1 e2 e3; exact ⟨e1, e3⟩
      simp only at r0 r1
      have hia := hal _ _ (.cells #[.int .u64 x, .int .i64 y] tE) hi
      have hra := hRc _ _ hr (belowOthers ((Below.refl wr.heap.size wr).alloc (Nat.le_refl _) (.cells #[.int .u64 x, .int .i64 y] tE)))
      obtain ⟨fn, tmps, assign, body, hy, hRn⟩ := hY k _ ⟨hlt2, hia⟩ hra
      rw [hgd] at hy
      dsimp only at hy
      clear hx hx2 hgd hia hra e1 db1 dp hPE
      gi_wp2_with fail
      refine ⟨fun h => (by cases h), ?_⟩
      refine hRn.mono ?_
      rintro e W3 (⟨rfl, hi3, hr3⟩ | ⟨rfl, hJ⟩)
      · gi_wp2_with fail
        go_roundw
        case rel => exact ⟨k + 1, by omega, by simp, hr3, hi3⟩
        case measure => simp [intOf]; omega
      · gi_wp2_with fail
        refine bodyPost_ret (results_none rfl _ _ _) rfl ?_
        exact ⟨⟨_, rfl⟩, .inr hJ⟩
    · obtain rfl : k = es.length := by omega
      gi_wp2_with fail
      go_end0
      exact ⟨⟨_, rfl⟩, .inl ⟨hi, hr⟩⟩

end Go.Proofs.Ytnlhgnioedalpaa.Pri

/- price: the example alive. -/
set_option linter.unusedSimpArgs false
set_option linter.unusedVariables false
namespace Go.Proofs.Ytnlhgnioedalpaa.Pri
open Go.RowKit Go.Proofs.YtnlhgnioedalpaaW.PrintWords Go.Proofs.Ytnlhgnioedalpaa.PPricePlays
attribute [local go_sem] Oper.semAt_some

theorem ask_c (W : World) (p : Nat) (es : List En) (s m : Int) (h : SR W p es) (hs : U s) (hm : askL es s = m) :
    Calls Try.prog 21 #[.pointer (some ⟨p, 0, none⟩), .int .u64 s] W fun e w' => e = .returned (.int .i64 m) ∧ Below W.heap.size W w' := by
  have := sask_any W p es s h hs
  rw [hm] at this
  exact this
/-- entries stay where another store is written -/
theorem PE.turn {W W' : World} {v : Value} {l : List En} {p : Nat} {t : TypeId} {A2 : Option Addr} {n2 c2 : Nat} (h : PE W v l) (hb : Blk W p t [.slice A2 n2 c2]) (hg : W.grownBy W' (some p)) : PE W' v l := by
  obtain ⟨A, c, rfl, h1, h2, h3⟩ := h
  refine ⟨A, c, rfl, h1, h2, h3.1, h3.2.1, fun hpos => ?_⟩
  obtain ⟨a, rfl, hr⟩ := h3.2.2 hpos
  refine ⟨a, rfl, fun j x hx => ?_⟩
  obtain ⟨cs, hl, hk, hc⟩ := hr j x hx
  obtain rfl := k41_open hk
  refine ⟨_, hl, k41_mk W' x, fun i u hu => ?_⟩
  have hcu := hc i u hu
  have hsp := cell_spot hcu
  rw [hsp.1] at hcu ⊢
  by_cases hbp : (a.add (j * k41.sz + i)).block = p
  · exfalso
    rw [hbp] at hcu
    have := cell_of_row W p (a.add (j * k41.sz + i)).off [Value.slice A2 n2 c2].toArray t (0, 0) hb
    rw [this] at hcu
    obtain ⟨o, ho⟩ : ∃ o, (a.add (j * k41.sz + i)).off = o := ⟨_, rfl⟩
    rw [ho] at hcu
    have hint : ∃ q z, u = .int q z := by
      rcases (show i = 0 ∨ i = 1 by have := (List.getElem?_eq_some_iff.1 hu).1; simp at this; omega) with rfl | rfl
      · simp at hu; exact ⟨_, _, hu.symm⟩
      · simp at hu; exact ⟨_, _, hu.symm⟩
    obtain ⟨q, z, rfl⟩ := hint
    cases o with
    | zero => simp at hcu
    | succ o => simp at hcu
  · have e : W'.cell? ⟨(a.add (j * k41.sz + i)).block, (a.add (j * k41.sz + i)).off, none⟩ = W.cell? ⟨(a.add (j * k41.sz + i)).block, (a.add (j * k41.sz + i)).off, none⟩ := by
      unfold World.cell?
      rw [hg.block _ hsp.2 (by simpa using hbp)]
    rw [e]; exact hcu
theorem PR.turn {W W' : World} {p q : Nat} {l m : List En} (h : PR W q l) (hp : PR W p m) (hne : q ≠ p) (hg : W.grownBy W' (some p)) : PR W' q l := by
  obtain ⟨v, hb, hpe⟩ := h
  obtain ⟨u, kb, kpe⟩ := hp
  obtain ⟨A, c, rfl, -⟩ := kpe
  exact ⟨v, hb.kept hg (by simpa using hne), hpe.turn kb hg⟩
theorem SR.turn {W W' : World} {p q : Nat} {l m : List En} (h : SR W q l) (hp : SR W p m) (hne : q ≠ p) (hg : W.grownBy W' (some p)) : SR W' q l := ⟨h.pr.turn hp.pr hne hg, h.ue, h.ti, h.len⟩
def y1 : List En := [(3, 5)]
def y2 : List En := [(1, 3), (3, 5)]
def y3 : List En := [(1, 7)]
def y4 : List En := [(1, 7), (2, 4)]
theorem sr_nil (W : World) : SR (W.alloc (.cells #[.slice none 0 0] tS)) W.heap.size [] := ⟨⟨_, Blk.new W _ _, pe_nil _⟩, by intro e he; simp at he, Tight.nil, by simp⟩
def y5 : List En := [(3, 5), (1, 3)]
def cS : Nat → Int
  | 0 => 0
  | 1 => 3
  | _ => 18
/-- what the example's range holds -/
def CI (w8 : World) (q k : Nat) (W' : World) : Prop := Blk W' w8.heap.size 3 [.int .i64 (cS k)] ∧ Blk W' (w8.heap.size + 1) 25 [.pointer (some ⟨q, 0, none⟩)] ∧ Below w8.heap.size w8 W'
theorem CI.ownF (w8 : World) (q k : Nat) {b : Nat} (hb : w8.heap.size ≤ b) : OwnFrom b (fun (_ : Unit) W' => CI w8 q k W') :=
  OwnFrom.and (Own.from (blk_own _ _ (fun _ => _)) _) (OwnFrom.and (Own.from (blk_own _ _ (fun _ => _)) _) (ownFrom_below (Nat.le_refl _) hb))
end Go.Proofs.Ytnlhgnioedalpaa.Pri

/- PriceGrows: for a set no less is asked than for what lies within it. -/
set_option linter.unusedSimpArgs false
set_option linter.unusedVariables false
namespace Go.Proofs.Ytnlhgnioedalpaa.Pri
open Go.RowKit Go.Proofs.YtnlhgnioedalpaaW.PrintWords Go.Proofs.Ytnlhgnioedalpaa.PPricePlays
attribute [local go_sem] Oper.semAt_some

theorem U_wf {x : Int} (h : (Lit.int .u64 x).wf = true) : U x := by
  unfold Lit.wf at h
  rw [Bool.and_eq_true, decide_eq_true_eq, decide_eq_true_eq] at h
  have h2 : x ≤ 18446744073709551615 := h.2
  exact ⟨h.1, by omega⟩
end Go.Proofs.Ytnlhgnioedalpaa.Pri

/- check: One, Last, Kept, All (over the stores of price). Bids are read as pairs, as entries are. -/
set_option linter.unusedSimpArgs false
set_option linter.unusedVariables false
namespace Go.Proofs.Ytnlhgnioedalpaa.Pri
open Go.RowKit Go.Proofs.YtnlhgnioedalpaaW.PrintWords Go.Proofs.Ytnlhgnioedalpaa.PPricePlays Go.Maps
attribute [local go_sem] Oper.semAt_some

abbrev tB : TypeId := 57
/-- is a bid right? -/
def rightB (b : En) : Bool := decide (b.1 ≠ 0) && decide (0 ≤ b.2) && decide (b.2 ≤ 2199023255552)
/-- what is wrong with a bid -/
def oneN (b : En) (es : List En) (items : Int) : Int := if rightB b = false ∨ wi b.1 items = false then 1 else if askL es b.1 < b.2 then 50 else 0
/-- what is wrong with bids, behind some that were seen -/
def allR (es : List En) (items : Int) : List Int → List En → Int
  | _, [] => 0
  | seen, b :: r => if oneN b es items ≠ 0 then oneN b es items else if seen.contains b.1 = true then 5 else allR es items (b.1 :: seen) r
def allN (bs es : List En) (items : Int) : Int := if 64 < bs.length then 3 else allR es items [] bs
theorem blkB (W : World) (x y : Int) : Blk (W.alloc (.cells #[.int .u64 x, .int .i64 y] tB)) W.heap.size tB [.int .u64 x, .int .i64 y] := Blk.new W _ _
theorem right_any (W : World) (x y : Int) : Calls Try.prog 71 #[.agg #[.int .u64 x, .int .i64 y]] W fun e w' => e = .returned (.bool (rightB (x, y))) ∧ Below W.heap.size W w' := by
  have HB := Lib.hid (show Below W.heap.size W (W.alloc (.cells #[.int .u64 x, .int .i64 y] tB)) from (Below.refl _ W).alloc (Nat.le_refl _) _)
  have c0 := (blkB W x y).cell (i := 0) rfl
  have c1 := (blkB W x y).cell (i := 1) rfl
  unfold rightB
  by_cases h0 : x = 0
  · subst h0
    go_enter Try.func71, Try.ntmps71
    go_wp2_with fail
    go_ret
    exact ⟨by simp, HB.out⟩
  · by_cases h1 : 0 ≤ y
    · by_cases h2 : y ≤ 2199023255552
      · go_enter Try.func71, Try.ntmps71
        go_wp2_with fail
        go_ret
        exact ⟨by simp [h0, h1, h2], HB.out⟩
      · go_enter Try.func71, Try.ntmps71
        go_wp2_with fail
        go_ret
        exact ⟨by simp [h0, h1, h2], HB.out⟩
    · go_enter Try.func71, Try.ntmps71
      go_wp2_with fail
      go_ret
      exact ⟨by simp [h0, h1]; omega, HB.out⟩
set_option maxRecDepth 100000 in
set_option maxHeartbeats 4000000 in
theorem one_any (W : World) (p : Nat) (es : List En) (x y items : Int) (h : SR W p es) (hx : U x) (hi : U items) :
    Calls Try.prog 32 #[.agg #[.int .u64 x, .int .i64 y], .pointer (some ⟨p, 0, none⟩), .int .u64 items] W fun e w' => e = .returned (.int .i64 (oneN (x, y) es items)) ∧ Below W.heap.size W w' := by
  have hal : Below W.heap.size W (W.alloc (.cells #[.int .u64 x, .int .i64 y] tB)) := (Below.refl _ W).alloc (Nat.le_refl _) _
  have hb := blkB W x y
  have c0 := hb.cell (i := 0) rfl
  have c1 := hb.cell (i := 1) rfl
  obtain ⟨r, hr⟩ : ∃ r, rightB (x, y) = r := ⟨_, rfl⟩
  obtain ⟨wv, hw⟩ : ∃ wv, wi x items = wv := ⟨_, rfl⟩
  obtain ⟨a, ha⟩ : ∃ a, askL es x = a := ⟨_, rfl⟩
  have e1 : oneN (x, y) es items = if r = false ∨ wv = false then 1 else if a < y then 50 else 0 := by unfold oneN; rw [hr, hw, ha]
  rw [e1]
  have RI := right_any (W.alloc (.cells #[.int .u64 x, .int .i64 y] tB)) x y
  rw [hr] at RI
  have WI := fun (w : World) => within_any w x items hx hi
  rw [hw] at WI
  have AK := fun (w : World) (hw : SR w p es) => ask_c w p es x a hw hx ha
  have HRI := Lib.hid RI; have HWI := Lib.hid WI
  have HAK := Lib.hid AK; have HS := Lib.hid (h.below hal); have HB := Lib.hid hal; have HBL := Lib.hid hb
  clear h hal hb AK ha hr hw RI WI e1
  go_enter Try.func32, Try.ntmps32
  go_wp2_with fail
  refine HRI.out.mono ?_; rintro e w1 ⟨rfl, hb1⟩
  have HB1 := Lib.hid (HB.out.trans (hb1.mono HB.out.size)); have HS1 := Lib.hid (HS.out.below hb1); have HBL1 := Lib.hid (HBL.out.belowS hb1)
  have d0 := HBL1.out.cell (i := 0) rfl
  have d1 := HBL1.out.cell (i := 1) rfl
  clear hb1 c0 c1
  cases r with
  | false =>
    go_wp2_with fail
    go_ret
    exact ⟨by simp, HB1.out⟩
  | true =>
    go_wp2_with fail
    refine (HWI.out _).mono ?_; rintro e w2 ⟨rfl, rfl⟩
    cases wv with
    | false =>
      go_wp2_with fail
      go_ret
      exact ⟨by simp, HB1.out⟩
    | true =>
      go_wp2_with fail
      go_region_held3 (fun w' => w'.cell? ⟨W.heap.size, 0, none⟩ = some (.int .u64 x) ∧ w'.cell? ⟨W.heap.size, 1, none⟩ = some (.int .i64 y)) (go_keep) ((refine (HAK.out _ (HS1.out.below ((Below.refl _ _).drew))).mono ?_; rintro e w2 ⟨rfl, hb2⟩; have q0 := ((HBL1.out.drew).belowS hb2).cell (i := 0) rfl; have q1 := ((HBL1.out.drew).belowS hb2).cell (i := 1) rfl))
      all_goals
        have HB2 := Lib.hid (HB1.out.trans ((Below.drew (Below.refl _ _)).trans (hb2.mono (Nat.le_refl _)) |>.mono HB1.out.size))
        clear q0 q1 hb2
        by_cases hay : a < y
        · go_wp2_with fail
          go_ret
          exact ⟨by simp [hay], HB2.out⟩
        · go_wp2_with fail
          go_ret
          exact ⟨by simp [hay], HB2.out⟩
end Go.Proofs.Ytnlhgnioedalpaa.Pri

/- check: Kept, All. -/
set_option linter.unusedSimpArgs false
set_option linter.unusedVariables false
namespace Go.Proofs.Ytnlhgnioedalpaa.Pri
open Go.RowKit Go.Proofs.YtnlhgnioedalpaaW.PrintWords Go.Proofs.Ytnlhgnioedalpaa.PPricePlays Go.Maps
attribute [local go_sem] Oper.semAt_some

/-- the sets that were seen, in a map -/
def SM (W : World) (b n : Nat) (l : List Int) : Prop := ∃ D : DataW Unit, W.ownsMap Try.prog 32 (plainElem Try.prog 4) b n D ∧ ∀ s, U s → D.atKey (.int .u64 s) (.lit (.bool false)) = .lit (.bool (l.contains s))
theorem law32 : Keyed Try.prog 32 := int_keyed Try.underlying32
theorem zero4 (w : World) : (zeroValue 4).run Try.prog w = .ok (.bool false) w := by kernel_rfl
theorem u_wf {s : Int} (h : U s) : (Lit.int .u64 s).wf = true := by
  show (decide (IntKind.u64.min ≤ s) && decide (s ≤ IntKind.u64.max)) = true
  have h1 : IntKind.u64.min = 0 := by decide
  have h2 : IntKind.u64.max = 18446744073709551615 := by decide
  rw [h1, h2, decide_eq_true h.1, decide_eq_true (by have := h.2; omega)]
  rfl
theorem plain_bool_inv {P : Program} {e : TypeId} (he : P.underlying e = some .bool) {v : Value} {z : DataW Unit × List MemPlace} (h : plainElem P e v = some z) : ∃ x, v = .bool x ∧ z = (.lit (.bool x), []) := by
  unfold plainElem at h
  rw [he] at h
  cases v <;> simp at h
  exact ⟨_, rfl, h.symm⟩
theorem look_bool {P : Program} {t k e : TypeId} {w : World} {b n : Nat} {D : DataW Unit} (h : w.ownsMap P k (plainElem P e) b n D) (K : Keyed P k) (ht : P.underlying t = some (.map k e)) (he : P.underlying e = some .bool) (hz : (zeroValue e).run P w = .ok (.bool false) w)
    {key : Value} {kl : Lit} (hkey : keyOf P k key = some kl) : ∃ x, (Instr.lookup t (.map (some b)) key false).run P w = .ok (.bool x) w ∧ D.atKey kl (.lit (.bool false)) = .lit (.bool x) := by
  obtain ⟨v, ps, hrun, hv⟩ := h.lookup K ht hz (plainElem_bool he false) hkey
  obtain ⟨x, rfl, hx⟩ := plain_bool_inv he hv
  injection hx with hx _
  exact ⟨x, hrun, hx⟩
set_option maxRecDepth 100000 in
theorem SM.look {W : World} {b n : Nat} {l : List Int} (h : SM W b n l) {s : Int} (hs : U s) : (Instr.lookup 116 (.map (some b)) (.int .u64 s) false).run Try.prog W = .ok (.bool (l.contains s)) W := by
  obtain ⟨D, ho, hD⟩ := h
  obtain ⟨x, hrun, hx⟩ := look_bool ho law32 Try.underlying116 Try.underlying4 (zero4 W) (keyOf_int_mk Try.underlying32 (u_wf hs))
  have h2 := (hD s hs).symm.trans hx
  injection h2 with h2
  injection h2 with h2
  subst h2
  exact hrun
theorem isKey_int (q : IntKind) (s : Int) : WideAt.IsKeyLit (.int q s) := trivial
theorem SM.put {D : DataW Unit} {l : List Int} (hI : IsMap D) (hD : ∀ s, U s → D.atKey (.int .u64 s) (.lit (.bool false)) = .lit (.bool (l.contains s))) (x : Int) : ∀ s, U s → (D.put (.int .u64 x) (.lit (.bool true))).atKey (.int .u64 s) (.lit (.bool false)) = .lit (.bool ((x :: l).contains s)) := fun s hs => by
  by_cases hx : s = x
  · subst hx
    rw [atKey_put_same hI (isKey_int _ _)]
    simp
  · rw [atKey_put_other (fun e => hx (by injection e)), hD s hs]
    simp [hx]
theorem SM.kept {W W' : World} {b n : Nat} {l : List Int} {row : Option Nat} (h : SM W b n l) (hg : W.grownBy W' row) (hne : some b ≠ row) : SM W' b n l := by
  obtain ⟨D, ho, hD⟩ := h
  exact ⟨D, ho.kept hg hne, hD⟩
theorem SM.made (W : World) : SM (W.alloc (.map #[] 0)) W.heap.size 0 [] := ⟨_, World.ownsMap_made W _ _ _, fun s hs => rfl⟩
set_option maxRecDepth 100000 in
set_option maxHeartbeats 4000000 in
theorem all_any (W : World) (v : Value) (bs : List En) (hv : PE W v bs) (hU : UE bs) (p : Nat) (es : List En) (h : SR W p es) (items : Int) (hi : U items) :
    Calls Try.prog 35 #[v, .pointer (some ⟨p, 0, none⟩), .int .u64 items] W fun e w' => e = .returned (.int .i64 (allN bs es items)) ∧ Below W.heap.size W w' := by
  have HV := Lib.hid hv; have HS := Lib.hid h
  obtain ⟨A, c, rfl, -⟩ := hv
  clear h
  unfold allN
  by_cases hlong : 64 < bs.length
  · have g1 : (64 : Int) < (bs.length : Int) := by omega
    go_enter Try.func35, Try.ntmps35
    go_wp2_with fail
    go_ret
    exact ⟨rfl, Below.refl _ W⟩
  · have g1 : ¬ (64 : Int) < (bs.length : Int) := by omega
    rw [if_neg hlong]
    obtain ⟨R, hR⟩ : ∃ R, allR es items [] bs = R := ⟨_, rfl⟩
    have HR := Lib.hid (show allR es items [] (bs.drop 0) = R from by rw [List.drop_zero]; exact hR)
    rw [hR]
    have HM := Lib.hid (SM.made W); have HB := Lib.hid (show Below W.heap.size W (W.alloc (.map #[] 0)) from (Below.refl _ W).alloc (Nat.le_refl _) _)
    obtain ⟨B, hBn⟩ : ∃ B, W.heap.size = B := ⟨_, rfl⟩
    have HBn := Lib.hid hBn
    rw [hBn] at HM
    have hmm := @run_makeMap Try.prog
    clear hR hBn
    go_enter Try.func35, Try.ntmps35
    go_wp2_with fail
    rw [HBn.out]
    go_loopw [17] (fun i wr => ∃ k : Nat, ∃ l : List Int, k ≤ bs.length ∧ i = .int .i64 (k : Int) ∧ SM wr B k l ∧ Below W.heap.size W wr ∧ allR es items l (bs.drop k) = R) (fun i _ => bs.length - (intOf i).toNat)
    case atStart => exact ⟨0, [], Nat.zero_le _, rfl, HM.out, HB.out, HR.out⟩
    case round =>
      clear HM HB HR hmm
      obtain ⟨k, l, hk, rfl, hM, hB, hR⟩ := hrel
      by_cases hlt : k < bs.length
      · obtain ⟨⟨x, y⟩, hx⟩ : ∃ x, bs[k] = x := ⟨_, rfl⟩
        have hx2 : bs[k]? = some (x, y) := by rw [List.getElem?_eq_getElem hlt, hx]
        have hux : U x := hU _ (List.mem_of_getElem? hx2)
        obtain ⟨b3, off3, c4, e1, hlb, r0, r1⟩ := (HV.out.below hB).at hx2
        obtain ⟨rfl, rfl⟩ : A = some ⟨b3, off3, none⟩ ∧ c = c4 := by injection e1 with e1 e2 e3; exact ⟨e1, e3⟩
        simp only at r0 r1
        have hal : Below wr.heap.size wr (wr.alloc (.cells #[.int .u64 x, .int .i64 y] tB)) := (Below.refl _ wr).alloc (Nat.le_refl _) _
        have hdr : bs.drop k = (x, y) :: bs.drop (k + 1) := by rw [← hx]; exact (List.getElem_cons_drop ..).symm
        rw [hdr] at hR
        simp only [allR] at hR
        have ON := one_any _ p es x y items ((HS.out.below hB).below hal) hux hi
        obtain ⟨o, ho⟩ : ∃ o, oneN (x, y) es items = o := ⟨_, rfl⟩
        rw [ho] at ON hR
        have hM1 := hM.kept (gb_none hal) (by simp)
        have HON := Lib.hid ON; have HR := Lib.hid hR; have HB1 := Lib.hid (hB.trans (hal.mono hB.size)); have HM1 := Lib.hid hM1; have HBL := Lib.hid (blkB wr x y)
        have hMl : B < (wr.alloc (.cells #[.int .u64 x, .int .i64 y] tB)).heap.size := by obtain ⟨D, hD, _⟩ := hM1; exact hD.lt
        have HML := Lib.hid hMl
        clear hx hx2 e1 hal hdr hR ON ho hM hB hM1 hMl
        go_wp2_with fail
        refine HON.out.mono ?_; rintro e w1 ⟨rfl, hb1⟩
        have HB2 := Lib.hid (HB1.out.trans (hb1.mono HB1.out.size)); have hM2 := HM1.out.kept (gb_none hb1) (by simp)
        have c0 := (HBL.out.belowS hb1).cell (i := 0) rfl
        have c1 := (HBL.out.belowS hb1).cell (i := 1) rfl
        by_cases ho : o = 0
        · subst ho
          have hlk := hM2.look hux
          have HR2 := Lib.hid (show (if l.contains x = true then 5 else allR es items (x :: l) (bs.drop (k + 1))) = R from by have := HR.out; rwa [if_neg (by simp)] at this)
          obtain ⟨q, hq⟩ : ∃ q, l.contains x = q := ⟨_, rfl⟩
          rw [hq] at hlk HR2
          obtain ⟨D, hown, hD⟩ := hM2
          have HOWN := Lib.hid hown; have HD := Lib.hid hD; have HZ := Lib.hid hb1.size
          clear hb1 hown hD hq
          cases q with
          | true =>
            have HR3 := Lib.hid (show (5 : Int) = R from by have := HR2.out; rwa [if_pos rfl] at this)
            go_wp2_with fail
            go_ret
            exact ⟨by have := HR3.out; subst this; rfl, HB2.out⟩
          | false =>
            have HR3 := Lib.hid (show allR es items (x :: l) (bs.drop (k + 1)) = R from by have := HR2.out; rwa [if_neg (by simp)] at this)
            go_wp2_with (first | (at_mapUpdate; refine wpList_mapUpdate_own _ rfl _ _ _ 116 rfl 32 4 law32 Try.underlying116 _ B k _ rfl HOWN.out (by unfold maxLen; omega) _ _ _ rfl rfl (keyOf_int_mk Try.underlying32 (u_wf hux)) _ [] (plainElem_bool Try.underlying4 true) ?_; intro w2 hown2 hgrow2) | fail)
            have HN := Lib.hid (show SM w2 B (k + 1) (x :: l) ∧ Below W.heap.size W w2 from ⟨⟨_, hown2, SM.put HOWN.out.isMap HD.out x⟩, HB2.out.grown hgrow2 HB2.out.size (fun r e => by cases e; exact Nat.le_of_eq HBn.out)⟩)
            clear hown2 hgrow2
            go_wp2_with fail
            go_roundw
            case rel => exact ⟨k + 1, x :: l, by omega, by simp, HN.out.1, HN.out.2, HR3.out⟩
            case measure => simp [intOf]; omega
        · have HR2 := Lib.hid (show o = R from by have := HR.out; rwa [if_pos (by simpa using ho)] at this)
          clear hM2 hb1
          go_wp2_with fail
          go_ret
          exact ⟨by have := HR2.out; subst this; rfl, HB2.out⟩
      · obtain rfl : k = bs.length := by omega
        rw [List.drop_length] at hR
        have HR := Lib.hid (show (0 : Int) = R from hR)
        clear hR hM
        go_wp2_with fail
        go_ret
        exact ⟨by have := HR.out; subst this; rfl, hB⟩
end Go.Proofs.Ytnlhgnioedalpaa.Pri

/- price: Less, Merge. -/
set_option linter.unusedSimpArgs false
set_option linter.unusedVariables false
namespace Go.Proofs.Ytnlhgnioedalpaa.Pri
open Go.RowKit Go.Proofs.YtnlhgnioedalpaaW.PrintWords Go.Proofs.Ytnlhgnioedalpaa.PPricePlays
attribute [local go_sem] Oper.semAt_some

/-- a step that turns one thing that is no cell -/
abbrev RowOk (A : World) (row : Option Nat) : Prop := ∀ r, row = some r → ∃ o : Obj, A.heap[r]? = some o ∧ o.isCells = false
theorem blk_row1 {A B : World} {b : Nat} {t : TypeId} {l : List Value} (h : Blk A b t l) {row : Option Nat} (hg : A.grownBy B row) (hr : RowOk A row) : Blk B b t l :=
  h.kept hg (fun e => by
    obtain ⟨o, ho, hc⟩ := hr b e.symm
    have hs' : A.heap[b]? = _ := h
    rw [hs'] at ho
    cases ho
    simp [Obj.isCells] at hc)
theorem PE.row {A B : World} {row : Option Nat} {v : Value} {l : List En} (h : PE A v l) (hg : A.grownBy B row) (hr : RowOk A row) : PE B v l := by
  obtain ⟨a, c, rfl, h1, h2, h3⟩ := h
  refine ⟨a, c, rfl, h1, h2, h3.1, h3.2.1, fun hpos => ?_⟩
  obtain ⟨a, rfl, hq⟩ := h3.2.2 hpos
  refine ⟨a, rfl, fun j x hx => ?_⟩
  obtain ⟨cs, hl, hk, hc⟩ := hq j x hx
  obtain rfl := k41_open hk
  refine ⟨_, hl, k41_mk B x, fun i u hu => ?_⟩
  have hcu := hc i u hu
  have hsp := cell_spot hcu
  rw [hsp.1] at hcu ⊢
  have e : B.cell? ⟨(a.add (j * k41.sz + i)).block, (a.add (j * k41.sz + i)).off, none⟩ = A.cell? ⟨(a.add (j * k41.sz + i)).block, (a.add (j * k41.sz + i)).off, none⟩ := by
    unfold World.cell?
    rw [hg.block _ hsp.2 (fun e => ?_)]
    obtain ⟨o, ho, hcell⟩ := hr _ e.symm
    simp only [World.cell?, ho] at hcu
    cases o with
    | cells => simp [Obj.isCells] at hcell
    | _ => simp at hcu
  rw [e]; exact hcu
theorem PR.row {A B : World} {row : Option Nat} {p : Nat} {l : List En} (h : PR A p l) (hg : A.grownBy B row) (hr : RowOk A row) : PR B p l := by
  obtain ⟨v, h1, h2⟩ := h
  exact ⟨v, blk_row1 h1 hg hr, h2.row hg hr⟩
theorem SR.row {A B : World} {row : Option Nat} {p : Nat} {l : List En} (h : SR A p l) (hg : A.grownBy B row) (hr : RowOk A row) : SR B p l := ⟨h.pr.row hg hr, h.ue, h.ti, h.len⟩
theorem SR.alloc {A : World} {p : Nat} {l : List En} (h : SR A p l) (o : Obj) : SR (A.alloc o) p l := h.below ((Below.refl _ A).alloc (Nat.le_refl _) o)

def mk (D : Nat) : Deferred := { target := .collected D, args := #[] }
/-- the marks of ranges that are over -/
def Marks (lo hi : Nat) (ds : List Deferred) (W : World) : Prop := ∃ Ds : List Nat, ds = Ds.map mk ∧ Ds.Nodup ∧ ∀ D ∈ Ds, (lo ≤ D ∧ D < hi) ∧ W.heap[D]? = some (.deferred (some []))
theorem Marks.nil (lo hi : Nat) (W : World) : Marks lo hi [] W := ⟨[], rfl, List.nodup_nil, by simp⟩
theorem Marks.up {lo hi hi' : Nat} {ds : List Deferred} {W : World} (h : Marks lo hi ds W) (hh : hi ≤ hi') : Marks lo hi' ds W := by
  obtain ⟨Ds, h1, h2, h3⟩ := h
  exact ⟨Ds, h1, h2, fun D hD => ⟨⟨(h3 D hD).1.1, Nat.lt_of_lt_of_le (h3 D hD).1.2 hh⟩, (h3 D hD).2⟩⟩
theorem Marks.cons {lo hi D : Nat} {ds : List Deferred} {W : World} (h : Marks lo hi ds W) (hl : lo ≤ D) (hh : hi ≤ D) (hD : W.heap[D]? = some (.deferred (some []))) : Marks lo (D + 1) (mk D :: ds) W := by
  obtain ⟨Ds, h1, h2, h3⟩ := h
  refine ⟨D :: Ds, by rw [h1]; rfl, List.nodup_cons.2 ⟨fun hm => by have := (h3 D hm).1.2; omega, h2⟩, fun E hE => ?_⟩
  rcases List.mem_cons.1 hE with rfl | hE
  · exact ⟨⟨hl, by omega⟩, hD⟩
  · exact ⟨⟨(h3 E hE).1.1, by have := (h3 E hE).1.2; omega⟩, (h3 E hE).2⟩
theorem Marks.gb {lo hi : Nat} {ds : List Deferred} {A B : World} (h : Marks lo hi ds A) {row : Option Nat} (hg : A.grownBy B row) (hr : ∀ r, row = some r → hi ≤ r ∨ ∃ o : Obj, A.heap[r]? = some o ∧ o.isCells = true) : Marks lo hi ds B := by
  obtain ⟨Ds, h1, h2, h3⟩ := h
  refine ⟨Ds, h1, h2, fun D hD => ⟨(h3 D hD).1, (hg.block D (Array.getElem?_eq_some_iff.1 (h3 D hD).2).1 (fun e => ?_)).trans (h3 D hD).2⟩⟩
  rcases hr D e.symm with h | ⟨o, ho, hc⟩
  · have := (h3 D hD).1.2; omega
  · rw [(h3 D hD).2] at ho
    cases ho
    simp [Obj.isCells] at hc
theorem Marks.below {lo hi : Nat} {ds : List Deferred} {A B : World} (h : Marks lo hi ds A) (hb : Below A.heap.size A B) : Marks lo hi ds B :=
  h.gb (row := none) ⟨hb.os, hb.tape, hb.output, hb.size, fun k hk _ => hb.block k hk⟩ (fun r e => by cases e)
/-- a function with marks leaves as one without -/
theorem Marks.leave {lo hi : Nat} {F : Fence} {n : Nat} {P : Program} {fn : Func} {tmps : Array Value} {R : Ending → World → Prop} (G : World → Prop)
    (hG : ∀ A D, lo ≤ D → G A → A.heap[D]? = some (.deferred (some [])) → G (A.putObj D (.deferred none)))
    (hR : ∀ A, G A → LeavesIn F n P fn tmps R [] .returning A) : ∀ {ds : List Deferred} {W : World}, Marks lo hi ds W → G W → LeavesInM F n P fn tmps R ds .returning W := by
  rintro ds W ⟨Ds, rfl, h2, h3⟩ hW
  induction Ds generalizing W with
  | nil => exact hR W hW
  | cons D Ds ih =>
    have hD := h3 D (List.mem_cons_self ..)
    refine ⟨by simp, .inl ⟨_, _, rfl, run_takeDeferred hD.2, ?_⟩⟩
    refine ih (W := W.putObj D (.deferred none)) (List.nodup_cons.1 h2).2 (fun E hE => ⟨(h3 E (List.mem_cons_of_mem _ hE)).1, ?_⟩) (hG W D hD.1.1 hW hD.2)
    rw [World.putObj_heap_other (fun e => (List.nodup_cons.1 h2).1 (by rw [e] at hE; exact hE))]
    exact (h3 E (List.mem_cons_of_mem _ hE)).2

/-- for none of the first k do es ask less -/
def NL (es fs : List En) (k : Nat) : Prop := ∀ j, j < k → ¬ askL es (fs.getD j dE).1 < (fs.getD j dE).2
theorem NL.succ {es fs : List En} {k : Nat} (h : NL es fs k) (hk : ¬ askL es (fs.getD k dE).1 < (fs.getD k dE).2) : NL es fs (k + 1) := fun j hj => by
  by_cases hjk : j = k
  · subst hjk; exact hk
  · exact h j (by omega)
/-- what Less keeps -/
structure LI (W : World) (p q : Nat) (x y : Value) (W' : World) : Prop where
  b1 : Blk W' W.heap.size 25 [.pointer (some ⟨p, 0, none⟩)]
  b2 : Blk W' (W.heap.size + 1) 32 [x]
  b3 : Blk W' (W.heap.size + 1 + 1) 4 [y]
  b4 : Blk W' (W.heap.size + 1 + 1 + 1) 25 [.pointer (some ⟨q, 0, none⟩)]
  bel : Below W.heap.size W W'
theorem LI.row {W : World} {p q : Nat} {x y : Value} {A B : World} (h : LI W p q x y A) {row : Option Nat} (hg : A.grownBy B row) (hr : ∀ r, row = some r → W.heap.size ≤ r ∧ ∃ o : Obj, A.heap[r]? = some o ∧ o.isCells = false) : LI W p q x y B :=
  have k : RowOk A row := fun r e => (hr r e).2
  ⟨blk_row1 h.b1 hg k, blk_row1 h.b2 hg k, blk_row1 h.b3 hg k, blk_row1 h.b4 hg k, h.bel.grown hg h.bel.size (fun r e => (hr r e).1)⟩
theorem LI.ownF (W : World) (p q : Nat) (x y : Value) {b : Nat} (hb : W.heap.size ≤ b) : OwnFrom b (fun (_ : Unit) W' => LI W p q x y W') := fun s A B row hs hg hr =>
  hs.row hg (fun r e => ⟨Nat.le_trans hb (hr r e).1, (hr r e).2⟩)
theorem LI.alloc {W : World} {p q : Nat} {x y : Value} {A : World} (h : LI W p q x y A) (o : Obj) : LI W p q x y (A.alloc o) := h.row (World.grownBy_alloc A o none) (fun r e => by cases e)
theorem LI.below {W : World} {p q : Nat} {x y : Value} {A B : World} (h : LI W p q x y A) (hb : Below A.heap.size A B) : LI W p q x y B :=
  ⟨h.b1.belowS hb, h.b2.belowS hb, h.b3.belowS hb, h.b4.belowS hb, h.bel.trans (hb.mono h.bel.size)⟩
theorem LI.wrote {W : World} {p q : Nat} {x y : Value} {A : World} (h : LI W p q x y A) (u v : Value) : LI W p q u v ((A.setCell ⟨W.heap.size + 1, 0, none⟩ u).setCell ⟨W.heap.size + 1 + 1, 0, none⟩ v) :=
  ⟨(h.b1.other (by simp) _).other (by simp; omega) _, (h.b2.set 0 _).other (by simp) _, (h.b3.other (by simp) _).set 0 _, (h.b4.other (by simp; omega) _).other (by simp) _,
    (h.bel.setCell (p := ⟨W.heap.size + 1, 0, none⟩) (by simp) _).setCell (p := ⟨W.heap.size + 1 + 1, 0, none⟩) (by simp; omega) _⟩
/-- the slice v reads as pointers to the stores ps -/
def MS (W : World) (v : Value) (ps : List (Nat × List En)) : Prop := ∃ A c, v = .slice A ps.length c ∧ ∀ (i : Nat) q, ps[i]? = some q → ∃ b off, A = some ⟨b, off, none⟩ ∧ b < W.heap.size ∧ W.cell? ⟨b, off + i, none⟩ = some (.pointer (some ⟨q.1, 0, none⟩)) ∧ SR W q.1 q.2
theorem MS.below {W W' : World} {v : Value} {ps : List (Nat × List En)} (h : MS W v ps) (hb : Below W.heap.size W W') : MS W' v ps := by
  obtain ⟨A, c, rfl, hp⟩ := h
  refine ⟨A, c, rfl, fun i q hq => ?_⟩
  obtain ⟨b, off, e, hlt, hc, hs⟩ := hp i q hq
  exact ⟨b, off, e, Nat.lt_of_lt_of_le hlt hb.size, (hb.cell (p := ⟨b, off + i, none⟩) hlt).trans hc, hs.below hb⟩
theorem ofL_len (es : List En) : (ofL es).length ≤ es.length := by
  suffices h : ∀ (es o : List En), (es.foldl (fun o e => putP o e.1 e.2) o).length ≤ o.length + es.length from by have := h es []; unfold ofL; simpa using this
  intro es
  induction es with
  | nil => intro o; simp
  | cons e es ih => intro o; have := ih (putP o e.1 e.2); have := put_len o e.1 e.2; simp only [List.foldl_cons, List.length_cons]; omega
/-- and between two entries -/
structure MJ (W : World) (L : List En) (B1 hi p : Nat) (ds : List Deferred) (W' : World) : Prop where
  s : SR W' W.heap.size (ofL L)
  b : Blk W' (W.heap.size + 1) 25 [.pointer (some ⟨W.heap.size, 0, none⟩)]
  b1 : Blk W' B1 25 [.pointer (some ⟨p, 0, none⟩)]
  bel : Below W.heap.size W W'
  m : Marks W.heap.size hi ds W'
theorem MJ.row {W : World} {L : List En} {B1 hi p : Nat} {ds : List Deferred} {A B : World} (h : MJ W L B1 hi p ds A) {row : Option Nat} (hg : A.grownBy B row) (hr : ∀ r, row = some r → hi ≤ r ∧ ∃ o : Obj, A.heap[r]? = some o ∧ o.isCells = false) (hh : W.heap.size ≤ hi) : MJ W L B1 hi p ds B :=
  have k : RowOk A row := fun r e => (hr r e).2
  ⟨h.s.row hg k, blk_row1 h.b hg k, blk_row1 h.b1 hg k, h.bel.grown hg h.bel.size (fun r e => Nat.le_trans hh (hr r e).1), h.m.gb hg (fun r e => .inl (hr r e).1)⟩
theorem MJ.alloc {W : World} {L : List En} {B1 hi p : Nat} {ds : List Deferred} {A : World} (h : MJ W L B1 hi p ds A) (o : Obj) (hh : W.heap.size ≤ hi) : MJ W L B1 hi p ds (A.alloc o) := h.row (World.grownBy_alloc A o none) (fun r e => by cases e) hh
theorem MJ.put {W : World} {L L' : List En} {B1 hi p : Nat} {ds : List Deferred} {A B : World} (h : MJ W L B1 hi p ds A) (hs : SR B W.heap.size (ofL L')) (hg : A.grownBy B (some W.heap.size)) (h1 : B1 ≠ W.heap.size) : MJ W L' B1 hi p ds B :=
  ⟨hs, h.b.kept hg (by simp), h.b1.kept hg (by simp; omega), h.bel.grown hg h.bel.size (fun r e => by cases e; exact Nat.le_refl _), h.m.gb hg (fun r e => by
    cases e
    obtain ⟨v, hb, _⟩ := h.s.pr
    exact .inr ⟨_, hb, rfl⟩)⟩
end Go.Proofs.Ytnlhgnioedalpaa.Pri
