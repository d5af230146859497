/- PriceMerges: a store that is made of two asks the most that either asks. -/
import Derived.Test.YtnlhgnioedalpaaPriW
import Derived.Test.YtnlhgnioedalpaaPriceGrows
set_option linter.unusedSimpArgs false
set_option linter.unusedVariables false
namespace Go.Proofs.Ytnlhgnioedalpaa.Pri
open Go.RowKit Go.Proofs.YtnlhgnioedalpaaW.PrintWords Go.Proofs.Ytnlhgnioedalpaa.PPricePlays
attribute [local go_sem] Oper.semAt_some

theorem ask_merge {P Q : List En} (hP : Tight P) (hQ : Tight Q) (s : Int) : askL (ofL (P ++ Q)) s = max (askL P s) (askL Q s) := by
  refine le_ext (fun x => ?_)
  rw [ask_ofL_ge, show (x ≤ max (askL P s) (askL Q s)) ↔ (x ≤ askL P s ∨ x ≤ askL Q s) from by omega, ask_ge, ask_ge]
  constructor
  · rintro (h | ⟨e, he, _, _, hw, hx⟩)
    · exact .inl (.inl h)
    · rcases List.mem_append.1 he with he | he
      · exact .inl (.inr ⟨e, he, hw, hx⟩)
      · exact .inr (.inr ⟨e, he, hw, hx⟩)
  · rintro ((h | ⟨e, he, hw, hx⟩) | (h | ⟨e, he, hw, hx⟩))
    · exact .inl h
    · exact .inr ⟨e, List.mem_append_left _ he, (hP.ok e he).2.1, (hP.ok e he).2.2.2, hw, hx⟩
    · exact .inl h
    · exact .inr ⟨e, List.mem_append_right _ he, (hQ.ok e he).2.1, (hQ.ok e he).2.2.2, hw, hx⟩
theorem less_iff (P Q : List En) : lessB P Q = false ↔ ∀ t, askL Q t ≤ askL P t := by
  unfold lessB lessF
  rw [Option.isSome_eq_false_iff, Option.isNone_iff_eq_none, List.find?_eq_none]
  constructor
  · intro h t
    rcases ask_ge.1 (Int.le_refl (askL Q t)) with h1 | ⟨e, he, hw, h2⟩
    · exact Int.le_trans h1 (ask_nonneg P t)
    · have h3 := h e he
      simp only [decide_eq_true_eq] at h3
      have h4 := ask_mono P hw
      omega
  · intro h e he
    simp only [decide_eq_true_eq]
    have h1 := h e.1
    have h2 : e.2 ≤ askL Q e.1 := ask_ge.2 (.inr ⟨e, he, wi_refl _, Int.le_refl _⟩)
    omega
theorem less_at {P Q : List En} (h : lessB P Q = true) : (∃ e ∈ Q, lessS P Q = e.1) ∧ askL P (lessS P Q) < askL Q (lessS P Q) := by
  unfold lessB at h
  obtain ⟨e, he⟩ := Option.isSome_iff_exists.1 h
  have hs : lessS P Q = e.1 := by unfold lessS; rw [he]
  have hm := List.mem_of_find?_eq_some he
  have hp := List.find?_some he
  simp only [decide_eq_true_eq] at hp
  have h2 : e.2 ≤ askL Q e.1 := ask_ge.2 (.inr ⟨e, hm, wi_refl _, Int.le_refl _⟩)
  rw [hs]
  exact ⟨⟨e, hm, rfl⟩, by omega⟩
theorem less_no {P Q : List En} (h : lessB P Q = false) : lessS P Q = 0 := by
  unfold lessB at h
  rw [Option.isSome_eq_false_iff, Option.isNone_iff_eq_none] at h
  unfold lessS; rw [h]
theorem UE.app {P Q : List En} (hP : UE P) (hQ : UE Q) : UE (P ++ Q) := fun e he => (List.mem_append.1 he).elim (hP e) (hQ e)
theorem merge_comm {P Q : List En} (hP : UE P) (hQ : UE Q) : ofL (Q ++ P) = ofL (P ++ Q) := of_mem_ext (hQ.app hP) (fun e => by simp [List.mem_append, or_comm])
theorem merge_l {P Q : List En} (hP : Tight P) (hQ : Tight Q) : lessB P Q = false ↔ ofL (P ++ Q) = P := by
  have hU : UE (P ++ Q) := UE.app (fun e he => (hP.ok e he).1) (fun e he => (hQ.ok e he).1)
  rw [less_iff]
  constructor
  · intro h
    refine (tight_ofL hU).ext hP (fun t _ => ?_)
    rw [ask_merge hP hQ]
    have := h t
    omega
  · intro h t
    have := ask_merge hP hQ t
    rw [h] at this
    omega
theorem merge_r {P Q : List En} (hP : Tight P) (hQ : Tight Q) : lessB Q P = false ↔ ofL (P ++ Q) = Q := by
  rw [← merge_comm (fun e he => (hP.ok e he).1) (fun e he => (hQ.ok e he).1)]
  exact merge_l hQ hP
theorem less_same {P Q : List En} (hP : Tight P) (hQ : Tight Q) : (lessB P Q = false ∧ lessB Q P = false) ↔ P = Q := by
  constructor
  · rintro ⟨h1, h2⟩
    exact hP.ext hQ (fun t _ => Int.le_antisymm ((less_iff Q P).1 h2 t) ((less_iff P Q).1 h1 t))
  · rintro rfl
    exact ⟨(less_iff P P).2 (fun t => Int.le_refl _), (less_iff P P).2 (fun t => Int.le_refl _)⟩
theorem less_merge {P Q : List En} (hP : Tight P) (hQ : Tight Q) : lessB (ofL (P ++ Q)) P = false ∧ lessB (ofL (P ++ Q)) Q = false := by
  refine ⟨(less_iff _ _).2 (fun t => ?_), (less_iff _ _).2 (fun t => ?_)⟩
  · rw [ask_merge hP hQ]; exact Int.le_max_left _ _
  · rw [ask_merge hP hQ]; exact Int.le_max_right _ _
theorem merge2_any (W : World) (b p q : Nat) (P Q : List En) (hb : Blk W b 25 [.pointer (some ⟨p, 0, none⟩), .pointer (some ⟨q, 0, none⟩)]) (hp : SR W p P) (hq : SR W q Q) (hl : (P ++ Q).length ≤ 1000000) :
    Calls Try.prog 29 #[.slice (some ⟨b, 0, none⟩) 2 2] W fun e w' => e = .returned (.pointer (some ⟨W.heap.size, 0, none⟩)) ∧ SR w' W.heap.size (ofL (P ++ Q)) ∧ Below W.heap.size W w' := by
  have h := merge_any W (.slice (some ⟨b, 0, none⟩) 2 2) [(p, P), (q, Q)] ⟨_, _, rfl, fun i x hx => by
    have hi := (List.getElem?_eq_some_iff.1 hx).1
    simp at hi
    rcases (show i = 0 ∨ i = 1 by omega) with rfl | rfl
    · simp at hx; subst hx; exact ⟨b, 0, rfl, hb.lt, hb.cell (i := 0) rfl, hp⟩
    · simp at hx; subst hx; exact ⟨b, 0, rfl, hb.lt, hb.cell (i := 1) rfl, hq⟩⟩ (by simpa [allL] using hl) (by simp)
  simpa [allL] using h
theorem merge0_any (W : World) : Calls Try.prog 29 #[.slice none 0 0] W fun e w' => e = .returned (.pointer (some ⟨W.heap.size, 0, none⟩)) ∧ SR w' W.heap.size [] ∧ Below W.heap.size W w' :=
  merge_any W (.slice none 0 0) [] ⟨_, _, rfl, fun i x hx => by simp at hx⟩ (by simp [allL]) (by simp)
/-- the three stores -/
structure M3 (W : World) (p q m : Nat) (P Q M : List En) (W' : World) : Prop where
  p : SR W' p P
  q : SR W' q Q
  m : SR W' m M
  bel : Below W.heap.size W W'
theorem M3.below {W : World} {p q m : Nat} {P Q M : List En} {A B : World} (h : M3 W p q m P Q M A) (hb : Below A.heap.size A B) : M3 W p q m P Q M B :=
  ⟨h.p.below hb, h.q.below hb, h.m.below hb, h.bel.trans (hb.mono h.bel.size)⟩
set_option maxHeartbeats 8000000 in
set_option maxRecDepth 100000 in
theorem merges_core (W : World) (v u : Value) (es fs : List En) (h : PE W v es) (hU : UE es) (k : PE W u fs) (kU : UE fs) (A : Option Addr) (c : Nat) (xs : List Int) (hC : (Kd.int .u64).C W A xs.length xs) (hxs : ∀ x ∈ xs, U x) :
    Calls Try.prog 7 #[v, u, .slice A xs.length c] W fun e w' => e = .returned (.bool true) ∧ Below W.heap.size W w' := by
  have H := Lib.hid h; have K := Lib.hid k; have HC := Lib.hid hC
  obtain ⟨A1, c1, rfl, -⟩ := h
  obtain ⟨A2, c2, rfl, -⟩ := k
  clear hC
  by_cases hlong : 40 < es.length ∨ 40 < fs.length ∨ 40 < xs.length
  · have d1 : (40 : Int) < (es.length : Int) ∨ ¬ (40 : Int) < (es.length : Int) := by omega
    have d2 : (40 : Int) < (fs.length : Int) ∨ ¬ (40 : Int) < (fs.length : Int) := by omega
    have d3 : (40 : Int) < (xs.length : Int) ∨ ¬ (40 : Int) < (xs.length : Int) := by omega
    go_enter Try.func7, Try.ntmps7
    go_wp2_with fail
    refine (alive_any _).mono ?_; rintro e w1 ⟨rfl, hb1⟩
    have HB1 := Lib.hid hb1
    clear hb1
    rcases d1 with g1 | g1
    · go_wp2_with fail
      go_ret
      exact ⟨rfl, HB1.out⟩
    · rcases d2 with g2 | g2
      · go_wp2_with fail
        go_ret
        exact ⟨rfl, HB1.out⟩
      · rcases d3 with g3 | g3
        · go_wp2_with fail
          go_ret
          exact ⟨rfl, HB1.out⟩
        · omega
  · have g1 : ¬ (40 : Int) < (es.length : Int) := by omega
    have g2 : ¬ (40 : Int) < (fs.length : Int) := by omega
    have g3 : ¬ (40 : Int) < (xs.length : Int) := by omega
    have le1 : es.length ≤ 40 := by omega
    have le2 : fs.length ≤ 40 := by omega
    go_enter Try.func7, Try.ntmps7
    go_wp2_with fail
    refine (alive_any _).mono ?_; rintro e w1 ⟨rfl, hb1⟩
    have HB1 := Lib.hid hb1
    clear hb1
    go_wp2_with fail
    refine (of_any w1 _ es (H.out.below HB1.out) hU (by omega)).mono ?_; rintro e w2 ⟨rfl, hS2, hl2, hb2⟩
    obtain ⟨p, hp⟩ : ∃ p, w1.heap.size = p := ⟨_, rfl⟩
    rw [hp] at hS2 ⊢
    obtain ⟨P, hPe⟩ : ∃ P, ofL es = P := ⟨_, rfl⟩
    rw [hPe] at hS2 hl2
    have HP2 := Lib.hid hS2; have HB2 := Lib.hid (HB1.out.trans (hb2.mono HB1.out.size))
    clear hS2 hb2 hp hPe
    go_wp2_with fail
    refine (of_any w2 _ fs (K.out.below HB2.out) kU (by omega)).mono ?_; rintro e w3 ⟨rfl, hS3, hl3, hb3⟩
    obtain ⟨q, hq⟩ : ∃ q, w2.heap.size = q := ⟨_, rfl⟩
    rw [hq] at hS3 ⊢
    obtain ⟨Q, hQe⟩ : ∃ Q, ofL fs = Q := ⟨_, rfl⟩
    rw [hQe] at hS3 hl3
    have HQ3 := Lib.hid hS3; have HP3 := Lib.hid (HP2.out.below hb3); have HB3 := Lib.hid (HB2.out.trans (hb3.mono HB2.out.size))
    clear hS3 hb3 hq hQe
    have hPQ : (P ++ Q).length ≤ 1000000 := by rw [List.length_append]; omega
    have hQP : (Q ++ P).length ≤ 1000000 := by rw [List.length_append]; omega
    go_wp2_with fail
    obtain ⟨M, hMe⟩ : ∃ M, ofL (P ++ Q) = M := ⟨_, rfl⟩
    have hPt := HP3.out.ti
    have hQt := HQ3.out.ti
    have hMc := merge_comm (P := P) (Q := Q) HP3.out.ue HQ3.out.ue
    have hma := fun s => ask_merge hPt hQt s
    have hlm := less_merge hPt hQt
    have hl1 := merge_l hPt hQt
    have hl2 := merge_r hPt hQt
    have hl3 := less_same hPt hQt
    have hal3 : Below w3.heap.size w3 (w3.alloc (.cells #[.pointer (some ⟨p, 0, none⟩), .pointer (some ⟨q, 0, none⟩)] 25)) := (Below.refl _ w3).alloc (Nat.le_refl _) _
    have hmr := merge2_any (w3.alloc (.cells #[.pointer (some ⟨p, 0, none⟩), .pointer (some ⟨q, 0, none⟩)] 25)) w3.heap.size p q P Q (Blk.new w3 _ _) (HP3.out.below hal3) (HQ3.out.below hal3) hPQ
    rw [hMe] at hMc hma hlm hl1 hl2 hmr
    have HMC := Lib.hid hMc; have HMA := Lib.hid hma; have HLM := Lib.hid hlm; have HL1 := Lib.hid hl1; have HL2 := Lib.hid hl2; have HL3 := Lib.hid hl3; have HAL3 := Lib.hid hal3
    clear hMc hma hlm hl1 hl2 hl3 hPt hQt hMe hal3
    refine hmr.mono ?_; rintro e w4 ⟨rfl, hS4, hb4⟩
    obtain ⟨m, hm⟩ : ∃ m, (w3.alloc (.cells #[.pointer (some ⟨p, 0, none⟩), .pointer (some ⟨q, 0, none⟩)] 25)).heap.size = m := ⟨_, rfl⟩
    rw [hm] at hS4 ⊢
    have hb34 : Below w3.heap.size w3 w4 := HAL3.out.trans (hb4.mono HAL3.out.size)
    have H4 := Lib.hid (show M3 W p q m P Q M w4 from ⟨HP3.out.below hb34, HQ3.out.below hb34, hS4, HB3.out.trans (hb34.mono HB3.out.size)⟩)
    clear hmr hS4 hb4 hm hb34
    have hal4 : Below w4.heap.size w4 (w4.alloc (.cells #[.pointer (some ⟨q, 0, none⟩), .pointer (some ⟨p, 0, none⟩)] 25)) := (Below.refl _ w4).alloc (Nat.le_refl _) _
    have hmr := merge2_any (w4.alloc (.cells #[.pointer (some ⟨q, 0, none⟩), .pointer (some ⟨p, 0, none⟩)] 25)) w4.heap.size q p Q P (Blk.new w4 _ _) (H4.out.q.below hal4) (H4.out.p.below hal4) hQP
    rw [HMC.out] at hmr
    have HMR := Lib.hid hmr; have H4a := Lib.hid (H4.out.below hal4)
    clear hmr hal4
    go_wp2_with fail
    refine HMR.out.mono ?_; rintro e w5 ⟨rfl, hS5, hb5⟩
    obtain ⟨m2, hm2⟩ : ∃ m2, (w4.alloc (.cells #[.pointer (some ⟨q, 0, none⟩), .pointer (some ⟨p, 0, none⟩)] 25)).heap.size = m2 := ⟨_, rfl⟩
    have h5 := H4a.out.below hb5
    rw [hm2] at hS5 ⊢
    have HS5 := Lib.hid hS5; have H5 := Lib.hid h5
    clear hS5 hb5 hm2 h5
    have lM := H5.out.m.len
    go_wp2_with fail
    refine (same_any w5 m m2 M M H5.out.m.pr HS5.out.pr (by omega)).mono ?_; rintro e w6 ⟨rfl, hb6⟩
    rw [decide_eq_true (rfl : M = M)]
    have H6 := Lib.hid (H5.out.below hb6)
    clear hb6
    go_wp2_with fail
    refine (merge0_any w6).mono ?_; rintro e w7 ⟨rfl, hS7, hb7⟩
    have H7 := Lib.hid (H6.out.below hb7); have HS7 := Lib.hid hS7
    obtain ⟨m0, hm0⟩ : ∃ m0, w6.heap.size = m0 := ⟨_, rfl⟩
    rw [hm0] at HS7 ⊢
    clear hb7 hS7 hm0
    go_wp2_with fail
    refine (len_any w7 m0 [] HS7.out.pr).mono ?_; rintro e w8 ⟨rfl, rfl⟩
    go_wp2_with fail
    go_loopw [61] (fun i wr => ∃ k : Nat, k ≤ xs.length ∧ i = .int .i64 (k : Int) ∧ M3 W p q m P Q M wr) (fun i _ => xs.length - (intOf i).toNat)
    case atStart => exact ⟨0, Nat.zero_le _, rfl, H7.out⟩
    case round =>
      obtain ⟨k, hk, rfl, hI⟩ := hrel
      have HI := Lib.hid hI
      clear hI
      by_cases hlt : k < xs.length
      · obtain ⟨x, hx⟩ : ∃ x, xs[k] = x := ⟨_, rfl⟩
        have hx2 : xs[k]? = some x := by rw [List.getElem?_eq_getElem hlt, hx]
        have hux : U x := hxs _ (List.mem_of_getElem? hx2)
        obtain ⟨b9, off9, rfl, hb9, hc9⟩ := C_row HC.out (by omega)
        have r0 := (HI.out.bel.cell (p := ⟨b9, off9 + k, none⟩) hb9).trans (hc9 k x hx2)
        obtain ⟨a1, ha1⟩ : ∃ a, askL P x = a := ⟨_, rfl⟩
        obtain ⟨a2, ha2⟩ : ∃ a, askL Q x = a := ⟨_, rfl⟩
        have ha0 := HMA.out x
        rw [ha1, ha2] at ha0
        have HA0 := Lib.hid ha0; have HA1 := Lib.hid ha1; have HA2 := Lib.hid ha2
        clear hx hx2 hc9 ha0 ha1 ha2
        go_wp2_with fail
        refine (ask_c wr m M x _ HI.out.m hux HA0.out).mono ?_; rintro e wa ⟨rfl, hb⟩
        have HIa := Lib.hid (HI.out.below hb)
        clear hb
        go_wp2_with fail
        refine (ask_c wa p P x _ HIa.out.p hux HA1.out).mono ?_; rintro e wb ⟨rfl, hb⟩
        have HIb := Lib.hid (HIa.out.below hb)
        clear hb
        go_wp2_with fail
        refine (ask_c wb q Q x _ HIb.out.q hux HA2.out).mono ?_; rintro e wc ⟨rfl, hb⟩
        have HIc := Lib.hid (HIb.out.below hb)
        clear hb
        go_wp2_with fail
        go_roundw
        case rel => exact ⟨k + 1, by omega, by simp, HIc.out⟩
        case measure => simp [intOf]; omega
      · obtain rfl : k = xs.length := by omega
        go_wp2_with fail
        refine (less_any wr m p M P HI.out.m HI.out.p).mono ?_; rintro e wa ⟨rfl, hb⟩
        rw [HLM.out.1, less_no HLM.out.1]
        have HIa := Lib.hid (HI.out.below hb)
        clear hb
        go_wp2_with fail
        refine (less_any wa m q M Q HIa.out.m HIa.out.q).mono ?_; rintro e wb ⟨rfl, hb⟩
        rw [HLM.out.2, less_no HLM.out.2]
        have HIb := Lib.hid (HIa.out.below hb)
        clear hb
        go_wp2_with fail
        refine (less_any wb p q P Q HIb.out.p HIb.out.q).mono ?_; rintro e wc ⟨rfl, hb⟩
        have HIc := Lib.hid (HIb.out.below hb)
        clear hb
        obtain ⟨x, hx⟩ : ∃ x, lessS P Q = x := ⟨_, rfl⟩
        obtain ⟨c, hc⟩ : ∃ c, lessB P Q = c := ⟨_, rfl⟩
        have HX := Lib.hid hx; have HCC := Lib.hid hc
        rw [hx, hc]
        clear hx hc
        go_wp2_with fail
        refine (less_any wc q p Q P HIc.out.q HIc.out.p).mono ?_; rintro e wd ⟨rfl, hb⟩
        have HId := Lib.hid (HIc.out.below hb)
        clear hb
        obtain ⟨y, hy⟩ : ∃ y, lessS Q P = y := ⟨_, rfl⟩
        obtain ⟨d, hd⟩ : ∃ d, lessB Q P = d := ⟨_, rfl⟩
        have HY := Lib.hid hy; have HDD := Lib.hid hd
        rw [hy, hd]
        clear hy hd
        have e1 : decide (P = Q) = (!c && !d) := by
          have := HL3.out; rw [HCC.out, HDD.out] at this
          rw [Bool.eq_iff_iff, decide_eq_true_eq, ← this]; cases c <;> cases d <;> simp
        have e2 : decide (M = P) = !c := by
          have := HL1.out; rw [HCC.out] at this
          rw [Bool.eq_iff_iff, decide_eq_true_eq, ← this]; cases c <;> simp
        have e3 : decide (M = Q) = !d := by
          have := HL2.out; rw [HDD.out] at this
          rw [Bool.eq_iff_iff, decide_eq_true_eq, ← this]; cases d <;> simp
        have HE1 := Lib.hid e1; have HE2 := Lib.hid e2; have HE3 := Lib.hid e3
        clear e1 e2 e3
        have lP := HId.out.p.len
        have lQ := HId.out.q.len
        cases c with
        | true =>
          obtain ⟨⟨ex, hex, hxe⟩, hxl⟩ := less_at HCC.out
          rw [HX.out] at hxl hxe
          have hux : U x := by rw [hxe]; exact HId.out.q.ue ex hex
          obtain ⟨ap, hap⟩ : ∃ a, askL P x = a := ⟨_, rfl⟩
          obtain ⟨aq, haq⟩ : ∃ a, askL Q x = a := ⟨_, rfl⟩
          rw [hap, haq] at hxl
          have HAP := Lib.hid hap; have HAQ := Lib.hid haq
          clear hap haq hxe hex
          have hnl : ¬ aq ≤ ap := by omega
          cases d with
          | true =>
            obtain ⟨⟨ey, hey, hye⟩, hyl⟩ := less_at HDD.out
            rw [HY.out] at hyl hye
            have huy : U y := by rw [hye]; exact HId.out.p.ue ey hey
            obtain ⟨bq, hbq⟩ : ∃ a, askL Q y = a := ⟨_, rfl⟩
            obtain ⟨bp, hbp⟩ : ∃ a, askL P y = a := ⟨_, rfl⟩
            rw [hbp, hbq] at hyl
            have HBP := Lib.hid hbp; have HBQ := Lib.hid hbq
            clear hbp hbq hye hey
            have hnl2 : ¬ bp ≤ bq := by omega
            go_wp2_with fail
            refine (ask_c wd p P x _ HId.out.p hux HAP.out).mono ?_; rintro e wz1 ⟨rfl, hb⟩
            have HZ1 := Lib.hid (HId.out.below hb)
            clear hb
            go_wp2_with fail
            refine (ask_c wz1 q Q x _ HZ1.out.q hux HAQ.out).mono ?_; rintro e wz2 ⟨rfl, hb⟩
            have HZ2 := Lib.hid (HZ1.out.below hb)
            clear hb
            go_wp2_with fail
            refine (ask_c wz2 q Q y _ HZ2.out.q huy HBQ.out).mono ?_; rintro e wz3 ⟨rfl, hb⟩
            have HZ3 := Lib.hid (HZ2.out.below hb)
            clear hb
            go_wp2_with fail
            refine (ask_c wz3 p P y _ HZ3.out.p huy HBP.out).mono ?_; rintro e wz4 ⟨rfl, hb⟩
            have HZ4 := Lib.hid (HZ3.out.below hb)
            clear hb
            go_wp2_with fail
            refine (same_any wz4 p q P Q HZ4.out.p.pr HZ4.out.q.pr (by omega)).mono ?_; rintro e wz5 ⟨rfl, hb⟩
            have HZ5 := Lib.hid (HZ4.out.below hb)
            clear hb
            rw [HE1.out]
            go_wp2_with fail
            refine (same_any wz5 m p M P HZ5.out.m.pr HZ5.out.p.pr (by omega)).mono ?_; rintro e wz6 ⟨rfl, hb⟩
            have HZ6 := Lib.hid (HZ5.out.below hb)
            clear hb
            rw [HE2.out]
            go_wp2_with fail
            refine (same_any wz6 m q M Q HZ6.out.m.pr HZ6.out.q.pr (by omega)).mono ?_; rintro e wz7 ⟨rfl, hb⟩
            have HZ7 := Lib.hid (HZ6.out.below hb)
            clear hb
            rw [HE3.out]
            go_wp2_with fail
            go_ret
            exact ⟨rfl, HZ7.out.bel⟩
          | false =>
            go_wp2_with fail
            refine (ask_c wd p P x _ HId.out.p hux HAP.out).mono ?_; rintro e wz1 ⟨rfl, hb⟩
            have HZ1 := Lib.hid (HId.out.below hb)
            clear hb
            go_wp2_with fail
            refine (ask_c wz1 q Q x _ HZ1.out.q hux HAQ.out).mono ?_; rintro e wz2 ⟨rfl, hb⟩
            have HZ2 := Lib.hid (HZ1.out.below hb)
            clear hb
            go_wp2_with fail
            refine (same_any wz2 p q P Q HZ2.out.p.pr HZ2.out.q.pr (by omega)).mono ?_; rintro e wz3 ⟨rfl, hb⟩
            have HZ3 := Lib.hid (HZ2.out.below hb)
            clear hb
            rw [HE1.out]
            go_wp2_with fail
            refine (same_any wz3 m p M P HZ3.out.m.pr HZ3.out.p.pr (by omega)).mono ?_; rintro e wz4 ⟨rfl, hb⟩
            have HZ4 := Lib.hid (HZ3.out.below hb)
            clear hb
            rw [HE2.out]
            go_wp2_with fail
            refine (same_any wz4 m q M Q HZ4.out.m.pr HZ4.out.q.pr (by omega)).mono ?_; rintro e wz5 ⟨rfl, hb⟩
            have HZ5 := Lib.hid (HZ4.out.below hb)
            clear hb
            rw [HE3.out]
            go_wp2_with fail
            go_ret
            exact ⟨rfl, HZ5.out.bel⟩
        | false =>
          have hx0 : x = 0 := by rw [← HX.out]; exact less_no HCC.out
          subst hx0
          cases d with
          | true =>
            obtain ⟨⟨ey, hey, hye⟩, hyl⟩ := less_at HDD.out
            rw [HY.out] at hyl hye
            have huy : U y := by rw [hye]; exact HId.out.p.ue ey hey
            obtain ⟨bq, hbq⟩ : ∃ a, askL Q y = a := ⟨_, rfl⟩
            obtain ⟨bp, hbp⟩ : ∃ a, askL P y = a := ⟨_, rfl⟩
            rw [hbp, hbq] at hyl
            have HBP := Lib.hid hbp; have HBQ := Lib.hid hbq
            clear hbp hbq hye hey
            have hnl2 : ¬ bp ≤ bq := by omega
            go_wp2_with fail
            refine (ask_c wd q Q y _ HId.out.q huy HBQ.out).mono ?_; rintro e wz1 ⟨rfl, hb⟩
            have HZ1 := Lib.hid (HId.out.below hb)
            clear hb
            go_wp2_with fail
            refine (ask_c wz1 p P y _ HZ1.out.p huy HBP.out).mono ?_; rintro e wz2 ⟨rfl, hb⟩
            have HZ2 := Lib.hid (HZ1.out.below hb)
            clear hb
            go_wp2_with fail
            refine (same_any wz2 p q P Q HZ2.out.p.pr HZ2.out.q.pr (by omega)).mono ?_; rintro e wz3 ⟨rfl, hb⟩
            have HZ3 := Lib.hid (HZ2.out.below hb)
            clear hb
            rw [HE1.out]
            go_wp2_with fail
            refine (same_any wz3 m p M P HZ3.out.m.pr HZ3.out.p.pr (by omega)).mono ?_; rintro e wz4 ⟨rfl, hb⟩
            have HZ4 := Lib.hid (HZ3.out.below hb)
            clear hb
            rw [HE2.out]
            go_wp2_with fail
            refine (same_any wz4 m q M Q HZ4.out.m.pr HZ4.out.q.pr (by omega)).mono ?_; rintro e wz5 ⟨rfl, hb⟩
            have HZ5 := Lib.hid (HZ4.out.below hb)
            clear hb
            rw [HE3.out]
            go_wp2_with fail
            go_ret
            exact ⟨rfl, HZ5.out.bel⟩
          | false =>
            go_wp2_with fail
            refine (same_any wd p q P Q HId.out.p.pr HId.out.q.pr (by omega)).mono ?_; rintro e wz1 ⟨rfl, hb⟩
            have HZ1 := Lib.hid (HId.out.below hb)
            clear hb
            rw [HE1.out]
            go_wp2_with fail
            refine (same_any wz1 m p M P HZ1.out.m.pr HZ1.out.p.pr (by omega)).mono ?_; rintro e wz2 ⟨rfl, hb⟩
            have HZ2 := Lib.hid (HZ1.out.below hb)
            clear hb
            rw [HE2.out]
            go_wp2_with fail
            refine (same_any wz2 m q M Q HZ2.out.m.pr HZ2.out.q.pr (by omega)).mono ?_; rintro e wz3 ⟨rfl, hb⟩
            have HZ3 := Lib.hid (HZ2.out.below hb)
            clear hb
            rw [HE3.out]
            go_wp2_with fail
            go_ret
            exact ⟨rfl, HZ3.out.bel⟩

theorem merges_row (W : World) (z : List S41) (A : Option Addr) (c : Nat) (hc : z.length ≤ c) (hA : A = none → c = 0) (hC : k41.C W A z.length z) (_ : z.length ≤ maxLen) (hG : ∀ x ∈ z, (Lit.int .u64 x.f0).wf = true ∧ (Lit.int .i64 x.f1).wf = true)
    (z1 : List S41) (A1 : Option Addr) (c1 : Nat) (hc1 : z1.length ≤ c1) (hA1 : A1 = none → c1 = 0) (hC1 : k41.C W A1 z1.length z1) (_ : z1.length ≤ maxLen) (hG1 : ∀ x ∈ z1, (Lit.int .u64 x.f0).wf = true ∧ (Lit.int .i64 x.f1).wf = true)
    (z2 : List Int) (A2 : Option Addr) (c2 : Nat) (hc2 : z2.length ≤ c2) (hA2 : A2 = none → c2 = 0) (hC2 : (Kd.int .u64).C W A2 z2.length z2) (_ : z2.length ≤ maxLen) (hG2 : ∀ x ∈ z2, (Lit.int .u64 x).wf = true) :
    Calls Try.prog 7 #[.slice A z.length c, .slice A1 z1.length c1, .slice A2 z2.length c2] W fun e w' => e = .returned (.bool true) ∧ Below W.heap.size W w' :=
  merges_core W _ _ (z.map frE) (z1.map frE) (pe_row hc hA hC) (ue_row hG) (pe_row hc1 hA1 hC1) (ue_row hG1) A2 c2 z2 hC2 (fun x hx => U_wf (hG2 x hx))

end Go.Proofs.Ytnlhgnioedalpaa.Pri
