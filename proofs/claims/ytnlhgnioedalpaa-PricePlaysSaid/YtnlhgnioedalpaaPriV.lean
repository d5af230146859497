/- price: the example alive. -/
import Derived.Test.YtnlhgnioedalpaaPriS
set_option linter.unusedSimpArgs false
set_option linter.unusedVariables false
namespace Go.Proofs.Ytnlhgnioedalpaa.Pri
open Go.RowKit Go.Proofs.YtnlhgnioedalpaaW.PrintWords Go.Proofs.Ytnlhgnioedalpaa.PPricePlays
attribute [local go_sem] Oper.semAt_some

theorem put_c (W : World) (p : Nat) (es ys : List En) (s a : Int) (r : Bool) (h : SR W p es) (hs : U s) (hr : okP es s a = r) (hy : putP es s a = ys) (hl : es.length < 100000000) :
    Calls Try.prog 25 #[.pointer (some ⟨p, 0, none⟩), .int .u64 s, .int .i64 a] W fun e w' => e = .returned (.bool r) ∧ SR w' p ys ∧ W.grownBy w' (some p) := by
  have := sput_any W p es s a h hs
  rw [hr] at this
  refine this.mono ?_
  rintro e w' ⟨h1, h2, h3⟩
  exact ⟨h1, hy ▸ h.put hs h2 hl, h3⟩
theorem ask_c (W : World) (p : Nat) (es : List En) (s m : Int) (h : SR W p es) (hs : U s) (hm : askL es s = m) :
    Calls Try.prog 21 #[.pointer (some ⟨p, 0, none⟩), .int .u64 s] W fun e w' => e = .returned (.int .i64 m) ∧ Below W.heap.size W w' := by
  have := sask_any W p es s h hs
  rw [hm] at this
  exact this
/-- entries stay where another store is written -/
theorem PE.turn {W W' : World} {v : Value} {l : List En} {p : Nat} {t : TypeId} {A2 : Option Addr} {n2 c2 : Nat} (h : PE W v l) (hb : Blk W p t [.slice A2 n2 c2]) (hg : W.grownBy W' (some p)) : PE W' v l := by
  obtain ⟨A, c, rfl, h1, h2, h3⟩ := h
  refine ⟨A, c, rfl, h1, h2, h3.1, h3.2.1, fun hpos => ?_⟩
  obtain ⟨a, rfl, hr⟩ := h3.2.2 hpos
  refine ⟨a, rfl, fun j x hx => ?_⟩
  obtain ⟨cs, hl, hk, hc⟩ := hr j x hx
  obtain rfl := k41_open hk
  refine ⟨_, hl, k41_mk W' x, fun i u hu => ?_⟩
  have hcu := hc i u hu
  have hsp := cell_spot hcu
  rw [hsp.1] at hcu ⊢
  by_cases hbp : (a.add (j * k41.sz + i)).block = p
  · exfalso
    rw [hbp] at hcu
    have := cell_of_row W p (a.add (j * k41.sz + i)).off [Value.slice A2 n2 c2].toArray t (0, 0) hb
    rw [this] at hcu
    obtain ⟨o, ho⟩ : ∃ o, (a.add (j * k41.sz + i)).off = o := ⟨_, rfl⟩
    rw [ho] at hcu
    have hint : ∃ q z, u = .int q z := by
      rcases (show i = 0 ∨ i = 1 by have := (List.getElem?_eq_some_iff.1 hu).1; simp at this; omega) with rfl | rfl
      · simp at hu; exact ⟨_, _, hu.symm⟩
      · simp at hu; exact ⟨_, _, hu.symm⟩
    obtain ⟨q, z, rfl⟩ := hint
    cases o with
    | zero => simp at hcu
    | succ o => simp at hcu
  · have e : W'.cell? ⟨(a.add (j * k41.sz + i)).block, (a.add (j * k41.sz + i)).off, none⟩ = W.cell? ⟨(a.add (j * k41.sz + i)).block, (a.add (j * k41.sz + i)).off, none⟩ := by
      unfold World.cell?
      rw [hg.block _ hsp.2 (by simpa using hbp)]
    rw [e]; exact hcu
theorem PR.turn {W W' : World} {p q : Nat} {l m : List En} (h : PR W q l) (hp : PR W p m) (hne : q ≠ p) (hg : W.grownBy W' (some p)) : PR W' q l := by
  obtain ⟨v, hb, hpe⟩ := h
  obtain ⟨u, kb, kpe⟩ := hp
  obtain ⟨A, c, rfl, -⟩ := kpe
  exact ⟨v, hb.kept hg (by simpa using hne), hpe.turn kb hg⟩
theorem SR.turn {W W' : World} {p q : Nat} {l m : List En} (h : SR W q l) (hp : SR W p m) (hne : q ≠ p) (hg : W.grownBy W' (some p)) : SR W' q l := ⟨h.pr.turn hp.pr hne hg, h.ue, h.ti, h.len⟩
theorem rise_c (W : World) (p : Nat) (es ys : List En) (s n m : Int) (r : Bool) (h : SR W p es) (hs : U s) (hr : riseOk es s n = r) (hm : riseN es s n = m) (hy : riseL es s n = ys) (hyp : ∃ a, ys = putP es s a) (hl : es.length < 100000000) :
    Calls Try.prog 56 #[.pointer (some ⟨p, 0, none⟩), .int .u64 s, .int .i64 n] W fun e w' => e = .returned (.tuple #[.int .i64 m, .bool r]) ∧ SR w' p ys ∧ W.grownBy w' (some p) := by
  have := rise_any W p es s n h hs
  rw [hr, hm, hy] at this
  refine this.mono ?_
  rintro e w' ⟨h1, h2, h3⟩
  obtain ⟨a, rfl⟩ := hyp
  exact ⟨h1, h.put hs h2 hl, h3⟩
def y1 : List En := [(3, 5)]
def y2 : List En := [(1, 3), (3, 5)]
def y3 : List En := [(1, 7)]
def y4 : List En := [(1, 7), (2, 4)]
theorem sr_nil (W : World) : SR (W.alloc (.cells #[.slice none 0 0] tS)) W.heap.size [] := ⟨⟨_, Blk.new W _ _, pe_nil _⟩, by intro e he; simp at he, Tight.nil, by simp⟩
def y5 : List En := [(3, 5), (1, 3)]
theorem y5_u : UE y5 := fun e he => by
  simp [y5] at he
  rcases he with rfl | rfl <;> exact ⟨by decide, by decide⟩
def cS : Nat → Int
  | 0 => 0
  | 1 => 3
  | _ => 18
/-- what the example's range holds -/
def CI (w8 : World) (q k : Nat) (W' : World) : Prop := Blk W' w8.heap.size 3 [.int .i64 (cS k)] ∧ Blk W' (w8.heap.size + 1) 25 [.pointer (some ⟨q, 0, none⟩)] ∧ Below w8.heap.size w8 W'
theorem CI.ownF (w8 : World) (q k : Nat) {b : Nat} (hb : w8.heap.size ≤ b) : OwnFrom b (fun (_ : Unit) W' => CI w8 q k W') :=
  OwnFrom.and (Own.from (blk_own _ _ (fun _ => _)) _) (OwnFrom.and (Own.from (blk_own _ _ (fun _ => _)) _) (ownFrom_below (Nat.le_refl _) hb))
set_option maxHeartbeats 8000000 in
set_option maxRecDepth 100000 in
theorem alive_any (W : World) : Calls Try.prog 14 #[] W fun e w' => e = .returned (.bool true) ∧ Below W.heap.size W w' := by
  have HS0 := Lib.hid (sr_nil W)
  have HB0 := Lib.hid (show Below W.heap.size W (W.alloc (.cells #[.slice none 0 0] tS)) from (Below.refl _ W).alloc (Nat.le_refl _) _)
  obtain ⟨p, hp⟩ : ∃ p, W.heap.size = p := ⟨_, rfl⟩
  have HP := Lib.hid hp
  rw [hp] at HS0
  clear hp
  refine (callsIn_wide (n := 4)).1 ?_
  refine callsIn_of_wp_marks Try.func14 rfl trivial ?_ rfl
  refine wpIn_wide.2 ?_
  simp only [Try.ntmps14, List.size_toArray, List.length_cons, List.length_nil, Nat.reduceAdd, Nat.reduceSub, Array.replicate_succ, Array.replicate_zero, List.push_toArray, List.append_toArray, List.nil_append, List.cons_append]
  go_wp2_with fail
  rw [HP.out]
  refine (put_c _ p [] y1 3 5 true HS0.out ⟨by decide, by decide⟩ (by decide +kernel) (by decide +kernel) (by decide)).mono ?_; rintro e w1 ⟨rfl, hS, hg⟩
  have HS1 := Lib.hid hS; have HB1 := Lib.hid (HB0.out.grown hg HB0.out.size (fun r e => by cases e; exact Nat.le_of_eq HP.out))
  clear hS hg
  go_wp2_with fail
  refine (put_c w1 p y1 y2 1 3 true HS1.out ⟨by decide, by decide⟩ (by decide +kernel) (by decide +kernel) (by decide)).mono ?_; rintro e w2 ⟨rfl, hS, hg⟩
  have HS2 := Lib.hid hS; have HB2 := Lib.hid (HB1.out.grown hg HB1.out.size (fun r e => by cases e; exact Nat.le_of_eq HP.out))
  clear hS hg
  go_wp2_with fail
  refine (put_c w2 p y2 y2 1 3 false HS2.out ⟨by decide, by decide⟩ (by decide +kernel) (by decide +kernel) (by decide)).mono ?_; rintro e w3 ⟨rfl, hS, hg⟩
  have HS3 := Lib.hid hS; have HB3 := Lib.hid (HB2.out.grown hg HB2.out.size (fun r e => by cases e; exact Nat.le_of_eq HP.out))
  clear hS hg
  go_wp2_with fail
  refine (ask_c w3 p y2 1 3 HS3.out ⟨by decide, by decide⟩ (by decide +kernel)).mono ?_; rintro e w4 ⟨rfl, hb⟩
  have HS4 := Lib.hid (HS3.out.below hb); have HB4 := Lib.hid (HB3.out.trans (hb.mono HB3.out.size))
  clear hb
  go_wp2_with fail
  refine (ask_c w4 p y2 3 5 HS4.out ⟨by decide, by decide⟩ (by decide +kernel)).mono ?_; rintro e w5 ⟨rfl, hb⟩
  have HS5 := Lib.hid (HS4.out.below hb); have HB5 := Lib.hid (HB4.out.trans (hb.mono HB4.out.size))
  clear hb
  go_wp2_with fail
  refine (sclone_any w5 p y2 HS5.out.pr (by decide)).mono ?_; rintro e w6 ⟨q, rfl, hq, hQ, hb⟩
  have hqp : q ≠ p := by have := HS5.out.pr.lt; omega
  have hqW : W.heap.size ≤ q := by have := HB5.out.size; omega
  have HS6 := Lib.hid (HS5.out.below hb); have HB6 := Lib.hid (HB5.out.trans (hb.mono HB5.out.size)); have HQ6 := Lib.hid (show SR w6 q y2 from ⟨hQ, HS5.out.ue, HS5.out.ti, by decide⟩)
  clear hb hQ
  go_wp2_with fail
  refine (put_c w6 p y2 y3 1 7 true HS6.out ⟨by decide, by decide⟩ (by decide +kernel) (by decide +kernel) (by decide)).mono ?_; rintro e w7 ⟨rfl, hS, hg⟩
  have HS7 := Lib.hid hS; have HB7 := Lib.hid (HB6.out.grown hg HB6.out.size (fun r e => by cases e; exact Nat.le_of_eq HP.out)); have HQ7 := Lib.hid (HQ6.out.turn HS6.out hqp hg)
  clear hS hg
  go_wp2_with fail
  refine (rise_c w7 p y3 y4 2 4 4 true HS7.out ⟨by decide, by decide⟩ (by decide +kernel) (by decide +kernel) (by decide +kernel) ⟨4, by decide +kernel⟩ (by decide)).mono ?_; rintro e w8 ⟨rfl, hS, hg⟩
  have HS8 := Lib.hid hS; have HB8 := Lib.hid (HB7.out.grown hg HB7.out.size (fun r e => by cases e; exact Nat.le_of_eq HP.out)); have HQ8 := Lib.hid (HQ7.out.turn HS7.out hqp hg)
  clear hS hg
  go_wp2_with fail
  refine (entries_any _ q).mono ?_; rintro e w9 ⟨rfl, hw9⟩
  have hS9 : CI w8 q 0 w9 := by
    rw [hw9]
    have b1 := (Blk.new w8 [.int .i64 0] 3).alloc (.cells #[.pointer (some ⟨q, 0, none⟩)] 25)
    have b2 := Blk.new2 w8 (.cells #[.int .i64 0] 3) [.pointer (some ⟨q, 0, none⟩)] 25
    exact ⟨b1, b2, ((Below.refl _ w8).alloc (Nat.le_refl _) _).alloc (by simp) _⟩
  have hz9 : w9.heap.size = w8.heap.size + 2 := by rw [hw9]; simp
  simp only [World.size_alloc]
  clear hw9
  obtain ⟨vq, hbq, hpq⟩ := HQ8.out.pr
  have HBQ := Lib.hid hbq; have HPQ := Lib.hid hpq
  have IT := entries_iter 3 (w8.heap.size + 1) q vq y2 (by decide) (fun k W' => CI w8 q k W')
    (fun k W' h => ⟨h.2.1.cell rfl, (HBQ.out.belowS h.2.2).cell rfl, HPQ.out.below h.2.2⟩) (fun k W' o h => ⟨h.1.alloc o, h.2.1.alloc o, h.2.2.alloc h.2.2.size o⟩)
  clear hbq hpq
  go_wp2_with fail
  have hsO : ∀ k, OwnFrom w9.heap.size (fun (_ : Unit) W' => CI w8 q k W') := fun k => CI.ownF w8 q k (by omega)
  refine wpIn_wide.1 (range_gen (F := Fence.wide) (n := 4) rfl (by omega) (gf := 70) (lb := #[.pointer (some ⟨w8.heap.size + 1, 0, none⟩)]) rfl trivial (enters_of Try.func70 (by kernel_rfl) rfl) (encs := fun k : Nat => #[.int .u64 (y2.getD k dE).1, .int .i64 (y2.getD k dE).2]) (fun _ => rfl)
    (fun W' => CI w8 q 0 W')
    (fun k W' => k < y2.length ∧ CI w8 q k W')
    (fun k W' => CI w8 q (k + 1) W')
    (fun c W' => False)
    (fun W' => CI w8 q y2.length W')
    (fun k a' W' => a' = { tmps := #[.bool false, .pointer (some ⟨p, 0, none⟩), .bool true, .bool true, .bool false, .int .i64 3, .int .i64 5, .pointer (some ⟨q, 0, none⟩), .bool true, .int .i64 4, .bool true, .pointer (some ⟨w8.heap.size, 0, none⟩), .int .u64 (y2.getD k dE).1, .int .i64 (y2.getD k dE).2, undef, .bool true, .bool true, .bool false, .int .i64 3, .int .i64 5, .pointer (some ⟨q, 0, none⟩), .bool true, .tuple #[.int .i64 4, .bool true], .tuple #[.int .i64 4, .bool true], .int .i64 4, .bool true, .pointer (some ⟨q, 0, none⟩), .bool false, .pointer (some ⟨q, 0, none⟩), .func (.func 70) #[] #[.pointer (some ⟨w8.heap.size + 1, 0, none⟩)], .int .u64 (y2.getD k dE).1, .int .i64 (y2.getD k dE).2, undef, undef, undef, undef, undef, undef, undef, undef, undef, undef, undef, undef, undef, undef, undef, undef, undef, undef, undef, undef, undef, undef, undef, undef, undef, undef, undef, undef, undef, undef, undef, undef, undef, undef, undef, undef, undef, undef, undef, undef, undef, undef, undef, undef, undef, undef, undef, undef, undef, undef, undef, undef, undef, undef, undef, undef, undef, undef, undef, undef, undef, undef, undef, undef, undef, undef, undef, undef, undef, undef, undef, undef], defers := [] } ∧ k < y2.length ∧ CI w8 q k W')
    (hsO _)
    (fun k => hsO _)
    (fun c _ _ _ _ hs _ _ => hs)
    (hsO _)
    (fun k a' => OwnFrom.and (fun _ _ _ _ hs _ _ => hs) (OwnFrom.and (fun _ _ _ _ hs _ _ => hs) (hsO _)))
    hS9 IT ?assign ?body ?done ?stop)
  case assign =>
    clear IT hsO
    rintro l2 k W' K ⟨hk, hP⟩ hK
    obtain ⟨⟨x, y⟩, hx⟩ : ∃ x, y2.getD k dE = x := ⟨_, rfl⟩
    rw [hx] at hK ⊢
    gi_wp2
    exact hK _ _ (KeepsFrom.refl _ _) ⟨rfl, hk, hP⟩
  case body =>
    clear IT
    rintro l2 k a' W' hl' hr ⟨rfl, hk, hP⟩
    have c0 := hP.1.cell (i := 0) rfl
    have f0 := hP.1.frozen 0
    have hz := hP.2.1.lt
    have hks : ∀ z : Int, KeepsFrom w9.heap.size W' (W'.setCell ⟨w8.heap.size, 0, none⟩ (.int .i64 z)) := fun z => KeepsFrom.of_grownBy (grownBy_setAt W' _ 0 _) (fun j e => by cases e; omega)
    have hps : CI w8 q (k + 1) (W'.setCell ⟨w8.heap.size, 0, none⟩ (.int .i64 (cS (k + 1)))) := ⟨hP.1.set 0 _, hP.2.1.other (p := ⟨w8.heap.size, 0, none⟩) (by simp) _, hP.2.2.setCell (p := ⟨w8.heap.size, 0, none⟩) (Nat.le_refl _) _⟩
    have HKS := Lib.hid hks; have HPS := Lib.hid hps
    clear hks hps hP hsO
    rcases (show k = 0 ∨ k = 1 by have : y2.length = 2 := rfl; omega) with rfl | rfl
    · gi_wp2_with fail
      rw [show wrap64 (cS 0 + wrap64 (wrap64 (y2[0]'(by decide)).1 * (y2[0]'(by decide)).2)) = cS (0 + 1) from by decide +kernel]
      exact ⟨HKS.out _, HPS.out⟩
    · gi_wp2_with fail
      rw [show wrap64 (cS 1 + wrap64 (wrap64 (y2[1]'(by decide)).1 * (y2[1]'(by decide)).2)) = cS (1 + 1) from by decide +kernel]
      exact ⟨HKS.out _, HPS.out⟩
  case done =>
    clear IT hsO
    rintro D W' hD hP hK
    have HP8 := Lib.hid (HS8.out.below hP.2.2); have HQA := Lib.hid (HQ8.out.below hP.2.2)
    have HBA := Lib.hid (HB8.out.trans (hP.2.2.mono HB8.out.size))
    have hDl : D < W'.heap.size := (Array.getElem?_eq_some_iff.1 hK).1
    have HCN := Lib.hid (show Blk W' w8.heap.size 3 [.int .i64 18] from hP.1)
    have hcl := hP.1.lt
    have HKD := Lib.hid hK
    have l4 : ((y4.length : Int) == 2) = true := rfl
    have l2 : ((y2.length : Int) == 2) = true := rfl
    have hWD : W.heap.size ≤ D := by have := HB8.out.size; omega
    clear hP hK
    go_wp2_with fail
    refine (list_any W' q y2 HQA.out.pr (by decide)).mono ?_; rintro e x1 ⟨v1, rfl, ho1, hb1⟩
    have hpe1 := pe_own (by decide) ho1
    have HPE1 := Lib.hid hpe1; have HX1 := Lib.hid hb1
    clear ho1 hpe1 hb1
    go_wp2_with fail
    refine (of_any x1 v1 y2 HPE1.out HQ8.out.ue (by decide)).mono ?_; rintro e x2 ⟨rfl, hS2, hl2, hb2⟩
    rw [show ofL y2 = y2 from by decide +kernel] at hS2
    have HX2 := Lib.hid (HX1.out.trans (hb2.mono HX1.out.size)); have HR2 := Lib.hid hS2
    obtain ⟨r, hr⟩ : ∃ r, x1.heap.size = r := ⟨_, rfl⟩
    rw [hr] at HR2
    have HP2 := Lib.hid (HP8.out.below HX2.out); have HQ2 := Lib.hid (HQA.out.below HX2.out)
    have c18 := (HCN.out.belowS HX2.out).cell (i := 0) rfl
    rw [hr]
    clear hS2 hl2 hb2 hr
    go_wp2_with fail
    refine (len_any x2 p y4 HP2.out.pr).mono ?_; rintro e x3 ⟨rfl, rfl⟩
    go_wp2_with fail
    refine (len_any x2 q y2 HQ2.out.pr).mono ?_; rintro e x3 ⟨rfl, rfl⟩
    go_wp2_with fail
    refine (same_any x2 r q y2 y2 HR2.out.pr HQ2.out.pr (by decide)).mono ?_; rintro e x4 ⟨rfl, hb4⟩
    rw [decide_eq_true (rfl : y2 = y2)]
    have HX4 := Lib.hid (HX2.out.trans (hb4.mono HX2.out.size)); have HR4 := Lib.hid (HR2.out.below hb4); have HP4 := Lib.hid (HP2.out.below hb4); have HQ4 := Lib.hid (HQ2.out.below hb4)
    clear hb4
    go_wp2_with fail
    refine (same_any x4 r p y2 y4 HR4.out.pr HP4.out.pr (by decide)).mono ?_; rintro e x5 ⟨rfl, hb5⟩
    rw [decide_eq_false (show ¬ y2 = y4 from by decide)]
    have HX5 := Lib.hid (HX4.out.trans (hb5.mono HX4.out.size)); have HQ5 := Lib.hid (HQ4.out.below hb5)
    clear hb5
    go_wp2_with fail
    refine (list_any x5 q y2 HQ5.out.pr (by decide)).mono ?_; rintro e x6 ⟨v6, rfl, ho6, hb6⟩
    have HPE6 := Lib.hid (pe_own (by decide) ho6); have HX6 := Lib.hid (HX5.out.trans (hb6.mono HX5.out.size))
    clear ho6 hb6
    go_wp2_with fail
    refine (tight_any x6 v6 y2 HPE6.out HQ8.out.ue (by decide)).mono ?_; rintro e x7 ⟨rfl, hb7⟩
    rw [decide_eq_true (show ofL y2 = y2 from by decide +kernel)]
    have HX7 := Lib.hid (HX6.out.trans (hb7.mono HX6.out.size))
    clear hb7
    go_wp2_with fail
    have hol := World.ownsRow_lit (base := x7.heap.size) (e := tE) (size := 2) x7 #[.int .u64 3, .int .i64 5, .int .u64 1, .int .i64 3] 2 (Nat.le_refl _) (by decide) rfl
    have hal8 : Below x7.heap.size x7 (x7.alloc (.cells #[.int .u64 3, .int .i64 5, .int .u64 1, .int .i64 3] tE)) := (Below.refl _ x7).alloc (Nat.le_refl _) _
    have hpe8 : PE (x7.alloc (.cells #[.int .u64 3, .int .i64 5, .int .u64 1, .int .i64 3] tE)) (.slice (some ⟨x7.heap.size, 0, none⟩) 2 2) y5 := pe_own (zs := y5) (by decide) hol
    have HX8 := Lib.hid (HX7.out.trans (hal8.mono HX7.out.size))
    refine (tight_any _ _ y5 hpe8 y5_u (by decide)).mono ?_; rintro e x9 ⟨rfl, hb9⟩
    rw [decide_eq_false (show ¬ ofL y5 = y5 from by decide +kernel)]
    have hX9 := HX8.out.trans (hb9.mono HX8.out.size)
    have HX9 := Lib.hid (HBA.out.trans (hX9.mono HBA.out.size))
    have HK9 := Lib.hid ((hX9.block D hDl).trans HKD.out)
    clear hol hal8 hpe8 hb9 hX9
    go_wp2_with fail
    refine ⟨by simp, .inl ⟨_, _, rfl, run_takeDeferred HK9.out, ?_⟩⟩
    exact ⟨_, results_tmp rfl _ _ _, rfl, HX9.out.grown (grownBy_putObj' x9 D (.deferred none)) HX9.out.size (fun r e => by cases e; exact hWD)⟩
  case stop =>
    rintro D c W' hD hF hK
    exact hF.elim

end Go.Proofs.Ytnlhgnioedalpaa.Pri
