-- PRINTED BY print.sh 35421559b90ae4d0a3588c463048766b98c2df88dd9212a6774a882060cdf62d: not written by this session
import Derived.Test.YtnlhgnioedalpaaPPricePlaysx0
import Derived.Test.YtnlhgnioedalpaaPPricePlaysx2
namespace Go.Proofs.Ytnlhgnioedalpaa.PPricePlays
open Go.RowKit Go.Proofs.YtnlhgnioedalpaaW.PrintWords Go.Proofs.YtnlhgnioedalpaaW.PrintLast Go.Proofs.YtnlhgnioedalpaaW.PrintMore
attribute [local go_sem] max2_int min2_int max_two min_two max_three min_three max_four min_four   -- for this text's walks alone
set_option linter.unusedVariables false
set_option linter.unusedSimpArgs false

/-! ### saleroomref11_Ask: function 22 -/
def saleroomref11_Ask.l0 : Nat → List (S41) → Int → Int → Int → Option (Int)
  | 0, _, _, _, _ => none
  | k + 1, x0, x1, x5, x6 => if x6 < (x0.length : Int) then (if 0 ≤ x6 then ((saleroomref02_Within.f k ((rd_T41 x0 x6).f0) x1).bind fun t125 => (if t125 = true then (if ((rd_T41 x0 x6).f1) > x5 then (saleroomref11_Ask.l0 k x0 x1 ((rd_T41 x0 x6).f1) (wrap64 (x6 + 1))) else (saleroomref11_Ask.l0 k x0 x1 x5 (wrap64 (x6 + 1)))) else (saleroomref11_Ask.l0 k x0 x1 x5 (wrap64 (x6 + 1))))) else (none)) else (some x5)
def saleroomref11_Ask.f (k : Nat) (l0 : List (S41)) (a1 : Int) : Option (Int) := saleroomref11_Ask.l0 k l0 a1 0 0
theorem saleroomref11_Ask.mono_l : ∀ k, (∀ y0 y1 y2 y3, LeO (saleroomref11_Ask.l0 k y0 y1 y2 y3) (saleroomref11_Ask.l0 (k + 1) y0 y1 y2 y3))
  | 0 => fun _ _ _ _ r h => by simp [saleroomref11_Ask.l0] at h
  | k + 1 => by
    have ih0 := saleroomref11_Ask.mono_l k
    · intro y0 y1 y2 y3
      unfold saleroomref11_Ask.l0
      repeat' first
      | (with_reducible exact ih0 _ _ _ _)
      | (with_reducible exact saleroomref02_Within.mono _ _ _)
      | (with_reducible exact LeO.refl _)
      | (with_reducible exact LeO.none _)
      | (with_reducible refine LeO.ite ?_ ?_)
      | (with_reducible refine LeO.bind ?_ (fun _ => ?_))
      | exact ih0 _ _ _ _
      | exact saleroomref02_Within.mono _ _ _
      | exact LeO.none _
      | refine LeO.ite ?_ ?_
      | refine LeO.bind ?_ (fun _ => ?_)
theorem saleroomref11_Ask.mono : ∀ a0 a1 k, LeO (saleroomref11_Ask.f k a0 a1) (saleroomref11_Ask.f (k + 1) a0 a1) := by
  intro a0 a1 k
  have ih0 := saleroomref11_Ask.mono_l k
  unfold saleroomref11_Ask.f
  repeat' first
      | (with_reducible exact ih0 _ _ _ _)
      | (with_reducible exact saleroomref02_Within.mono _ _ _)
      | (with_reducible exact LeO.refl _)
      | (with_reducible exact LeO.none _)
      | (with_reducible refine LeO.ite ?_ ?_)
      | (with_reducible refine LeO.bind ?_ (fun _ => ?_))
      | exact ih0 _ _ _ _
      | exact saleroomref02_Within.mono _ _ _
      | exact LeO.none _
      | refine LeO.ite ?_ ?_
      | refine LeO.bind ?_ (fun _ => ?_)
set_option maxHeartbeats 8000000 in
set_option maxRecDepth 100000 in
theorem saleroomref11_Ask.calls (k : Nat) (A0 : Option Addr) (c0 : Nat) (l0 : List (S41)) (a1 : Int) (r : Int) (w : World) (hr0 : Kd.C k41 w A0 l0.length l0) (hc0 : l0.length ≤ c0) (h : saleroomref11_Ask.f k l0 a1 = some r) :
    Calls Try.prog 22 #[.slice A0 l0.length c0, .int .u64 a1] w fun e w' => e = .returned (.int .i64 r) ∧ Drawn0 w w' := by
  have HR0 := Aside0.mk hr0
  have HC0 := Aside0.mk hc0
  clear hr0 hc0
  have H : (saleroomref11_Ask.l0 k l0 a1 0 0) = some r := h
  clear h
  have H' := Aside0.mk H
  clear H
  go_enter Try.func22, Try.ntmps22
  go_wp2
  go_loopg [5, 6] k (fun kq v5 v6 w' => ∃ (x5_1 : Int) (x6_1 : Int), v5 = .int .i64 x5_1 ∧ v6 = .int .i64 x6_1 ∧ Aside0 (saleroomref11_Ask.l0 kq l0 a1 x5_1 x6_1 = some r) ∧ Aside0 (kq ≤ k) ∧ Drawn0 w w')
  case atStart => exact ⟨(0), (0), (by first | rfl | (simp; done) | (simp [*]; done)), (by first | rfl | (simp; done) | (simp [*]; done)), H', ⟨Nat.le_refl _⟩, by repeat (first | exact Drawn0.refl _ | apply Drawn0.step)⟩
  case round =>
    clear H'
    try clear c2
    try clear p2
    obtain ⟨x5_1, x6_1, rfl, rfl, HA, HK1, ⟨m1, rfl⟩⟩ := hrel
    cases gk with
    | zero => exact absurd HA.out (by simp [saleroomref11_Ask.l0])
    | succ k1 =>
      have H := HA.out
      clear HA
      simp only [saleroomref11_Ask.l0] at H
      by_cases c3 : x6_1 < (l0.length : Int)
      · rw [if_pos c3] at H
        have c3b0 : decide (x6_1 < (l0.length : Int)) = true := decide_eq_true c3
        clear c3
        by_cases c4 : 0 ≤ x6_1
        · rw [if_pos c4] at H
          have c4b0 : decide (0 ≤ x6_1) = true := decide_eq_true c4
          clear c4
          replace H := Option.bind_eq_some_iff.mp H
          obtain ⟨t125, A50, H⟩ := H
          replace H : (if t125 = true then (if ((rd_T41 l0 x6_1).f1) > x5_1 then (saleroomref11_Ask.l0 k1 l0 a1 ((rd_T41 l0 x6_1).f1) (wrap64 (x6_1 + 1))) else (saleroomref11_Ask.l0 k1 l0 a1 x5_1 (wrap64 (x6_1 + 1)))) else (saleroomref11_Ask.l0 k1 l0 a1 x5_1 (wrap64 (x6_1 + 1)))) = some r := H
          have A5 := Aside0.mk A50
          clear A50
          by_cases c6 : t125 = true
          · subst c6
            have H1 : (if ((rd_T41 l0 x6_1).f1) > x5_1 then (saleroomref11_Ask.l0 k1 l0 a1 ((rd_T41 l0 x6_1).f1) (wrap64 (x6_1 + 1))) else (saleroomref11_Ask.l0 k1 l0 a1 x5_1 (wrap64 (x6_1 + 1)))) = some r := by rw [if_pos rfl] at H; exact H
            clear H
            have H := H1
            clear H1
            by_cases c7 : ((rd_T41 l0 x6_1).f1) > x5_1
            · rw [if_pos c7] at H
              have c7b0 : decide (x5_1 < ((rd_T41 l0 x6_1).f1)) = true := decide_eq_true c7
              clear c7
              have H' := Aside0.mk H
              clear H
              have p124 : 0 ≤ (x6_1 : Int) := of_decide_eq_true (by first | (with_reducible assumption) | assumption)
              have q124 : x6_1 < (l0.length : Int) := of_decide_eq_true (by first | (with_reducible assumption) | assumption)
              obtain ⟨ad124, e124, hx124_0, hx124_1⟩ := at_T41 HR0.out x6_1 p124 q124
              cases e124
              replace p124 := eq_true p124
              replace q124 := eq_true q124
              go_wp2_with (first | ((with_reducible refine gate_callee (f := 60) rfl ?_); refine goesL_ (some 19) rfl rfl Try.func60 (by kernel_rfl) rfl #[.int .u64 ((rd_T41 l0 x6_1).f0), .int .u64 a1] rfl (by (try simp only [List.map_toArray, List.map_cons, List.map_nil]); first | done | rfl | (simp only [List.length_drop, List.length_take]; rfl)) ?_; (with_reducible refine (saleroomref02_Within.calls k1 ((rd_T41 l0 x6_1).f0) a1 true _ A5.out).mono ?_); rintro e w' ⟨rfl, ⟨nd, rfl⟩⟩; refine ⟨_, rfl, ?_⟩; have p126 : 0 ≤ (x6_1 : Int) := of_decide_eq_true (by first | (with_reducible assumption) | assumption); have q126 : x6_1 < (l0.length : Int) := of_decide_eq_true (by first | (with_reducible assumption) | assumption); obtain ⟨ad126, e126, hx126_0, hx126_1⟩ := at_T41 HR0.out x6_1 p126 q126; obtain rfl : ad124 = ad126 := (by injection e126); replace p126 := eq_true p126; replace q126 := eq_true q126; have p127 : 0 ≤ (x6_1 : Int) := of_decide_eq_true (by first | (with_reducible assumption) | assumption); have q127 : x6_1 < (l0.length : Int) := of_decide_eq_true (by first | (with_reducible assumption) | assumption); obtain ⟨ad127, e127, hx127_0, hx127_1⟩ := at_T41 HR0.out x6_1 p127 q127; obtain rfl : ad124 = ad127 := (by injection e127); replace p127 := eq_true p127; replace q127 := eq_true q127))
              go_roundg k1
              case measure => have := HK1.out; omega
              case rel => exact ⟨((rd_T41 l0 x6_1).f1), (wrap64 (x6_1 + 1)), (by first | rfl | (simp; done) | (simp [*]; done)), (by first | rfl | (simp; done) | (simp [*]; done)), H', ⟨by have := HK1.out; omega⟩, by repeat (first | exact Drawn0.refl _ | apply Drawn0.step)⟩
            · rw [if_neg c7] at H
              have c7b0 : decide (x5_1 < ((rd_T41 l0 x6_1).f1)) = false := decide_eq_false c7
              clear c7
              have H' := Aside0.mk H
              clear H
              have p124 : 0 ≤ (x6_1 : Int) := of_decide_eq_true (by first | (with_reducible assumption) | assumption)
              have q124 : x6_1 < (l0.length : Int) := of_decide_eq_true (by first | (with_reducible assumption) | assumption)
              obtain ⟨ad124, e124, hx124_0, hx124_1⟩ := at_T41 HR0.out x6_1 p124 q124
              cases e124
              replace p124 := eq_true p124
              replace q124 := eq_true q124
              go_wp2_with (first | ((with_reducible refine gate_callee (f := 60) rfl ?_); refine goesL_ (some 19) rfl rfl Try.func60 (by kernel_rfl) rfl #[.int .u64 ((rd_T41 l0 x6_1).f0), .int .u64 a1] rfl (by (try simp only [List.map_toArray, List.map_cons, List.map_nil]); first | done | rfl | (simp only [List.length_drop, List.length_take]; rfl)) ?_; (with_reducible refine (saleroomref02_Within.calls k1 ((rd_T41 l0 x6_1).f0) a1 true _ A5.out).mono ?_); rintro e w' ⟨rfl, ⟨nd, rfl⟩⟩; refine ⟨_, rfl, ?_⟩; have p126 : 0 ≤ (x6_1 : Int) := of_decide_eq_true (by first | (with_reducible assumption) | assumption); have q126 : x6_1 < (l0.length : Int) := of_decide_eq_true (by first | (with_reducible assumption) | assumption); obtain ⟨ad126, e126, hx126_0, hx126_1⟩ := at_T41 HR0.out x6_1 p126 q126; obtain rfl : ad124 = ad126 := (by injection e126); replace p126 := eq_true p126; replace q126 := eq_true q126))
              go_roundg k1
              case measure => have := HK1.out; omega
              case rel => exact ⟨(x5_1), (wrap64 (x6_1 + 1)), (by first | rfl | (simp; done) | (simp [*]; done)), (by first | rfl | (simp; done) | (simp [*]; done)), H', ⟨by have := HK1.out; omega⟩, by repeat (first | exact Drawn0.refl _ | apply Drawn0.step)⟩
          · replace c6 := Bool.eq_false_iff.mpr c6
            subst c6
            have H1 : (saleroomref11_Ask.l0 k1 l0 a1 x5_1 (wrap64 (x6_1 + 1))) = some r := by rw [if_neg (show ¬ (false = true) by decide)] at H; exact H
            clear H
            have H := H1
            clear H1
            have H' := Aside0.mk H
            clear H
            have p124 : 0 ≤ (x6_1 : Int) := of_decide_eq_true (by first | (with_reducible assumption) | assumption)
            have q124 : x6_1 < (l0.length : Int) := of_decide_eq_true (by first | (with_reducible assumption) | assumption)
            obtain ⟨ad124, e124, hx124_0, hx124_1⟩ := at_T41 HR0.out x6_1 p124 q124
            cases e124
            replace p124 := eq_true p124
            replace q124 := eq_true q124
            go_wp2_with (first | ((with_reducible refine gate_callee (f := 60) rfl ?_); refine goesL_ (some 19) rfl rfl Try.func60 (by kernel_rfl) rfl #[.int .u64 ((rd_T41 l0 x6_1).f0), .int .u64 a1] rfl (by (try simp only [List.map_toArray, List.map_cons, List.map_nil]); first | done | rfl | (simp only [List.length_drop, List.length_take]; rfl)) ?_; (with_reducible refine (saleroomref02_Within.calls k1 ((rd_T41 l0 x6_1).f0) a1 false _ A5.out).mono ?_); rintro e w' ⟨rfl, ⟨nd, rfl⟩⟩; refine ⟨_, rfl, ?_⟩))
            go_roundg k1
            case measure => have := HK1.out; omega
            case rel => exact ⟨(x5_1), (wrap64 (x6_1 + 1)), (by first | rfl | (simp; done) | (simp [*]; done)), (by first | rfl | (simp; done) | (simp [*]; done)), H', ⟨by have := HK1.out; omega⟩, by repeat (first | exact Drawn0.refl _ | apply Drawn0.step)⟩
        · rw [if_neg c4] at H
          exact absurd H (by simp)
      · rw [if_neg c3] at H
        have c3b0 : decide (x6_1 < (l0.length : Int)) = false := decide_eq_false c3
        clear c3
        obtain rfl := Option.some.inj H
        go_wp2
        go_ret
        exact ⟨by first | rfl | (simp; done) | (simp [*]; done), by repeat (first | exact Drawn0.refl _ | apply Drawn0.step)⟩

/-! ### saleroomref02_List: function 93 -/
def saleroomref02_List.l0 : Nat → Int → List Int → Int → Option (List Int)
  | 0, _, _, _ => none
  | k + 1, x0, x3, x4 => if x4 < 64 then ((saleroomref02_Has.f k x0 x4).bind fun t131 => (if t131 = true then (if x3.length < 17592186044416 then (saleroomref02_List.l0 k x0 (x3 ++ [x4]) (wrap64 (x4 + 1))) else (none)) else (saleroomref02_List.l0 k x0 x3 (wrap64 (x4 + 1))))) else (some x3)
def saleroomref02_List.f (k : Nat) (a0 : Int) : Option (List Int) := saleroomref02_List.l0 k a0 (([] : List Int)) 0
theorem saleroomref02_List.mono_l : ∀ k, (∀ y0 y1 y2, LeO (saleroomref02_List.l0 k y0 y1 y2) (saleroomref02_List.l0 (k + 1) y0 y1 y2))
  | 0 => fun _ _ _ r h => by simp [saleroomref02_List.l0] at h
  | k + 1 => by
    have ih0 := saleroomref02_List.mono_l k
    · intro y0 y1 y2
      unfold saleroomref02_List.l0
      repeat' first
      | (with_reducible exact ih0 _ _ _)
      | (with_reducible exact saleroomref02_Has.mono _ _ _)
      | (with_reducible exact LeO.refl _)
      | (with_reducible exact LeO.none _)
      | (with_reducible refine LeO.ite ?_ ?_)
      | (with_reducible refine LeO.bind ?_ (fun _ => ?_))
      | exact ih0 _ _ _
      | exact saleroomref02_Has.mono _ _ _
      | exact LeO.none _
      | refine LeO.ite ?_ ?_
      | refine LeO.bind ?_ (fun _ => ?_)
theorem saleroomref02_List.mono : ∀ a0 k, LeO (saleroomref02_List.f k a0) (saleroomref02_List.f (k + 1) a0) := by
  intro a0 k
  have ih0 := saleroomref02_List.mono_l k
  unfold saleroomref02_List.f
  repeat' first
      | (with_reducible exact ih0 _ _ _)
      | (with_reducible exact saleroomref02_Has.mono _ _ _)
      | (with_reducible exact LeO.refl _)
      | (with_reducible exact LeO.none _)
      | (with_reducible refine LeO.ite ?_ ?_)
      | (with_reducible refine LeO.bind ?_ (fun _ => ?_))
      | exact ih0 _ _ _
      | exact saleroomref02_Has.mono _ _ _
      | exact LeO.none _
      | refine LeO.ite ?_ ?_
      | refine LeO.bind ?_ (fun _ => ?_)
set_option maxHeartbeats 8000000 in
set_option maxRecDepth 100000 in
theorem saleroomref02_List.calls (k : Nat) (a0 : Int) (r : List Int) (w : World) (h : saleroomref02_List.f k a0 = some r) :
    Calls Try.prog 93 #[.int .u64 a0] w fun e w' => ∃ v0_ : Value, e = .returned (v0_) ∧ Kd.R (Kd.int .i64) 3 w' w.heap.size (fun _ => True) v0_ r ∧ Below w.heap.size w w' := by
  have HB := Aside0.mk (Below.refl w.heap.size w)
  have H : (saleroomref02_List.l0 k a0 (([] : List Int)) 0) = some r := h
  clear h
  obtain ⟨y128, hy128⟩ : ∃ y_ : List Int, y_ = (([] : List Int)) := ⟨_, rfl⟩
  replace H : (saleroomref02_List.l0 k a0 y128 0) = some r := by first | (rw [hy128]; with_reducible exact H) | (have H2_ := (Option.bind_some _ _).symm.trans H; rw [hy128]; with_reducible exact H2_) | (have H2_ := (Option.bind_some _ _).symm.trans H; with_reducible exact H2_) | with_reducible exact H | (rw [hy128]; exact H) | exact H
  have Ny128 := Aside0.mk hy128
  clear hy128
  have H' := Aside0.mk H
  clear H
  go_enter Try.func93, Try.ntmps93
  go_wp2_with (first | ((with_reducible refine gate_dst (N := 5) rfl ?_); refine Kd.R_lit (Kd.int .i64) _ 3 ?hg (N := 5) ?hd (xs := ([] : List Int)) (inner := []) (ok := fun _ => True) (okp := fun _ => True) ?hr ?hp (fun _ hk => hk) trivial (Below.refl _ _) (Nat.le_refl _) (by simp) ?_; (case hd => rfl); (case hg => rfl); (case hr => first | (go_simp; done) | (go_simp; rfl)); (case hp => exact (Reps.none _ _)); intro v129 w2 ho3 hb hg_ hnew_; clear hg_ hnew_; (first | rw [← Ny128.out] at ho3 | (simp only [Int.reduceToNat] at ho3; rw [← Ny128.out] at ho3)); have n0_ := Aside0.mk (Kd.R_lower ho3 (below_size (by repeat (first | (with_reducible first | exact HB.out | apply below_alloc | apply pw_below_drewN | apply below_drew1) | exact HB.out)))); have n1_ := Aside0.mk (below_step (by repeat (first | (with_reducible first | exact HB.out | apply below_alloc | apply pw_below_drewN | apply below_drew1) | exact HB.out)) hb); clear HB; have HO130 := n0_; have HB := n1_; clear n0_ n1_; clear hb ho3))
  go_loopg [3, 4] k (fun kq v3 v4 w' => ∃ (x3_1 : List Int) (x4_1 : Int), v4 = .int .i64 x4_1 ∧ Aside0 (saleroomref02_List.l0 kq a0 x3_1 x4_1 = some r) ∧ Aside0 (kq ≤ k) ∧ Aside0 (Kd.R (Kd.int .i64) 3 w' w.heap.size (fun _ => True) v3 x3_1) ∧ Aside0 (Below w.heap.size w w'))
  case atStart => exact ⟨(y128), (0), (by first | rfl | (simp; done) | (simp [*]; done)), H', ⟨Nat.le_refl _⟩, ⟨by (with_reducible repeat (first | apply Kd.R_alloc | apply Kd.R_drewN | apply Kd.R_drew)); exact HO130.out⟩, ⟨by repeat (first | (with_reducible first | exact HB.out | apply below_alloc | apply pw_below_drewN | apply below_drew1) | exact HB.out)⟩⟩
  case round =>
    clear H'
    try clear p2
    obtain ⟨x3_1, x4_1, rfl, HA, HK1, HO_3, HB⟩ := hrel
    cases gk with
    | zero => exact absurd HA.out (by simp [saleroomref02_List.l0])
    | succ k1 =>
      have H := HA.out
      clear HA
      simp only [saleroomref02_List.l0] at H
      by_cases c4 : x4_1 < 64
      · rw [if_pos c4] at H
        have c4b0 : decide (x4_1 < 64) = true := decide_eq_true c4
        clear c4
        replace H := Option.bind_eq_some_iff.mp H
        obtain ⟨t131, A50, H⟩ := H
        replace H : (if t131 = true then (if x3_1.length < 17592186044416 then (saleroomref02_List.l0 k1 a0 (x3_1 ++ [x4_1]) (wrap64 (x4_1 + 1))) else (none)) else (saleroomref02_List.l0 k1 a0 x3_1 (wrap64 (x4_1 + 1)))) = some r := H
        have A5 := Aside0.mk A50
        clear A50
        by_cases c6 : t131 = true
        · subst c6
          have H1 : (if x3_1.length < 17592186044416 then (saleroomref02_List.l0 k1 a0 (x3_1 ++ [x4_1]) (wrap64 (x4_1 + 1))) else (none)) = some r := by rw [if_pos rfl] at H; exact H
          clear H
          have H := H1
          clear H1
          by_cases c7 : x3_1.length < 17592186044416
          · rw [if_pos c7] at H
            have LMc7 := Aside0.mk c7
            clear c7
            obtain ⟨y132, hy132⟩ : ∃ y_ : List Int, y_ = (x3_1 ++ [x4_1]) := ⟨_, rfl⟩
            replace H : (saleroomref02_List.l0 k1 a0 y132 (wrap64 (x4_1 + 1))) = some r := by first | (rw [hy132]; with_reducible exact H) | (have H2_ := (Option.bind_some _ _).symm.trans H; rw [hy132]; with_reducible exact H2_) | (have H2_ := (Option.bind_some _ _).symm.trans H; with_reducible exact H2_) | with_reducible exact H | (rw [hy132]; exact H) | exact H
            have Ny132 := Aside0.mk hy132
            clear hy132
            have H' := Aside0.mk H
            clear H
            go_wp2_with (first | ((with_reducible refine gate_callee (f := 94) rfl ?_); refine goesL_ (some 12) rfl rfl Try.func94 (by kernel_rfl) rfl #[.int .u64 a0, .int .i64 x4_1] rfl (by (try simp only [List.map_toArray, List.map_cons, List.map_nil]); first | done | rfl | (simp only [List.length_drop, List.length_take]; rfl)) ?_; (with_reducible refine (saleroomref02_Has.calls k1 a0 x4_1 true _ A5.out).mono ?_); rintro e w' ⟨rfl, ⟨nd, rfl⟩⟩; refine ⟨_, rfl, ?_⟩) | ((with_reducible refine gate_builtin (b := .append) (xs := #[.tmp 13, .tmp 15]) rfl ?_); at_builtin; refine Kd.R_append (Kd.int .i64) (w0 := w) w.heap.size rfl (.tmp 13) (.tmp 15) 143 3 (.int .i64 0) 8 rfl Try.underlying143 info3 rfl (by decide) (by omega) u3 x3_1 x4_1 [.int .i64 x4_1] (fun _ => True) (fun _ => False) rfl rfl ?aP (fun _ hk => hk.elim) ?aF ?aO ?aB ?aS ?aL ?_; (case aP => exact rfl); (case aB => exact (by repeat (first | (with_reducible first | exact HB.out | apply below_alloc | apply pw_below_drewN | apply below_drew1) | exact HB.out))); (case aF => exact (fun _ _ => trivial)); (case aO => exact (by (with_reducible repeat (first | apply Kd.R_alloc | apply Kd.R_drewN | apply Kd.R_drew)); exact HO_3.out)); (case aS => exact (below_size (by repeat (first | (with_reducible first | exact HB.out | apply below_alloc | apply pw_below_drewN | apply below_drew1) | exact HB.out)))); (case aL => have := LMc7.out; omega); intro v133 w8 ho hb hg hat; rw [← Ny132.out] at ho; have n0_ := Aside0.mk (hb); have n1_ := Aside0.mk (ho); clear HB; clear HO_3; have HB := n0_; have HO134 := n1_; clear n0_ n1_; clear ho hb hg hat))
            go_roundg k1
            case measure => have := HK1.out; omega
            case rel => exact ⟨(y132), (wrap64 (x4_1 + 1)), (by first | rfl | (simp; done) | (simp [*]; done)), H', ⟨by have := HK1.out; omega⟩, ⟨by (with_reducible repeat (first | apply Kd.R_alloc | apply Kd.R_drewN | apply Kd.R_drew)); exact HO134.out⟩, ⟨by repeat (first | (with_reducible first | exact HB.out | apply below_alloc | apply pw_below_drewN | apply below_drew1) | exact HB.out)⟩⟩
          · rw [if_neg c7] at H
            exact absurd H (by simp)
        · replace c6 := Bool.eq_false_iff.mpr c6
          subst c6
          have H1 : (saleroomref02_List.l0 k1 a0 x3_1 (wrap64 (x4_1 + 1))) = some r := by rw [if_neg (show ¬ (false = true) by decide)] at H; exact H
          clear H
          have H := H1
          clear H1
          have H' := Aside0.mk H
          clear H
          go_wp2_with (first | ((with_reducible refine gate_callee (f := 94) rfl ?_); refine goesL_ (some 12) rfl rfl Try.func94 (by kernel_rfl) rfl #[.int .u64 a0, .int .i64 x4_1] rfl (by (try simp only [List.map_toArray, List.map_cons, List.map_nil]); first | done | rfl | (simp only [List.length_drop, List.length_take]; rfl)) ?_; (with_reducible refine (saleroomref02_Has.calls k1 a0 x4_1 false _ A5.out).mono ?_); rintro e w' ⟨rfl, ⟨nd, rfl⟩⟩; refine ⟨_, rfl, ?_⟩))
          go_roundg k1
          case measure => have := HK1.out; omega
          case rel => exact ⟨(x3_1), (wrap64 (x4_1 + 1)), (by first | rfl | (simp; done) | (simp [*]; done)), H', ⟨by have := HK1.out; omega⟩, ⟨by (with_reducible repeat (first | apply Kd.R_alloc | apply Kd.R_drewN | apply Kd.R_drew)); exact HO_3.out⟩, ⟨by repeat (first | (with_reducible first | exact HB.out | apply below_alloc | apply pw_below_drewN | apply below_drew1) | exact HB.out)⟩⟩
      · rw [if_neg c4] at H
        have c4b0 : decide (x4_1 < 64) = false := decide_eq_false c4
        clear c4
        obtain rfl := Option.some.inj H
        go_wp2
        go_ret
        exact ⟨_, by first | rfl | (simp [errW_none, errW_some] <;> rfl) | (simp [*, errW_none, errW_some] <;> rfl), by (with_reducible repeat (first | apply Kd.R_alloc | apply Kd.R_drewN | apply Kd.R_drew)); exact HO_3.out, by repeat (first | (with_reducible first | exact HB.out | apply below_alloc | apply pw_below_drewN | apply below_drew1) | exact HB.out)⟩

/-! ### saleroomref02_Cmp: function 59 -/
def saleroomref02_Cmp.j0 : Nat → Int → Int → Int → Int → Bool → Option (Int)
  | 0, _, _, _, _, _ => none
  | k + 1, x0, x1, x5, x6, x25 => if x25 = true then (some (-1)) else (if x5 > x6 then (some 1) else (if x0 > x1 then (some 1) else (some 0)))
def saleroomref02_Cmp.f (k : Nat) (a0 : Int) (a1 : Int) : Option (Int) := (saleroomref02_List.f k a0).bind fun t135 => ((saleroomref02_List.f k a1).bind fun t138 => (if (t135.length : Int) < (t138.length : Int) then (saleroomref02_Cmp.j0 k a0 a1 (t135.length : Int) (t138.length : Int) true) else (if (t135.length : Int) = (t138.length : Int) then (saleroomref02_Cmp.j0 k a0 a1 (t135.length : Int) (t138.length : Int) (decide (a0 < a1))) else (saleroomref02_Cmp.j0 k a0 a1 (t135.length : Int) (t138.length : Int) false))))
theorem saleroomref02_Cmp.mono_l : ∀ k, (∀ y0 y1 y2 y3 y4, LeO (saleroomref02_Cmp.j0 k y0 y1 y2 y3 y4) (saleroomref02_Cmp.j0 (k + 1) y0 y1 y2 y3 y4))
  | 0 => fun _ _ _ _ _ r h => by simp [saleroomref02_Cmp.j0] at h
  | k + 1 => by
    have ih0 := saleroomref02_Cmp.mono_l k
    · intro y0 y1 y2 y3 y4
      unfold saleroomref02_Cmp.j0
      repeat' first
      | (with_reducible exact ih0 _ _ _ _ _)
      | (with_reducible exact saleroomref02_List.mono _ _)
      | (with_reducible exact LeO.refl _)
      | (with_reducible exact LeO.none _)
      | (with_reducible refine LeO.ite ?_ ?_)
      | (with_reducible refine LeO.bind ?_ (fun _ => ?_))
      | exact ih0 _ _ _ _ _
      | exact saleroomref02_List.mono _ _
      | exact LeO.none _
      | refine LeO.ite ?_ ?_
      | refine LeO.bind ?_ (fun _ => ?_)
theorem saleroomref02_Cmp.mono : ∀ a0 a1 k, LeO (saleroomref02_Cmp.f k a0 a1) (saleroomref02_Cmp.f (k + 1) a0 a1) := by
  intro a0 a1 k
  have ih0 := saleroomref02_Cmp.mono_l k
  unfold saleroomref02_Cmp.f
  repeat' first
      | (with_reducible exact ih0 _ _ _ _ _)
      | (with_reducible exact saleroomref02_List.mono _ _)
      | (with_reducible exact LeO.refl _)
      | (with_reducible exact LeO.none _)
      | (with_reducible refine LeO.ite ?_ ?_)
      | (with_reducible refine LeO.bind ?_ (fun _ => ?_))
      | exact ih0 _ _ _ _ _
      | exact saleroomref02_List.mono _ _
      | exact LeO.none _
      | refine LeO.ite ?_ ?_
      | refine LeO.bind ?_ (fun _ => ?_)
set_option maxHeartbeats 8000000 in
set_option maxRecDepth 100000 in
theorem saleroomref02_Cmp.calls (k : Nat) (a0 : Int) (a1 : Int) (r : Int) (w : World) (h : saleroomref02_Cmp.f k a0 a1 = some r) :
    Calls Try.prog 59 #[.int .u64 a0, .int .u64 a1] w fun e w' => e = .returned (.int .i64 r) ∧ Below w.heap.size w w' := by
  have HB := Aside0.mk (Below.refl w.heap.size w)
  have H : ((saleroomref02_List.f k a0).bind fun t135 => ((saleroomref02_List.f k a1).bind fun t138 => (if (t135.length : Int) < (t138.length : Int) then (saleroomref02_Cmp.j0 k a0 a1 (t135.length : Int) (t138.length : Int) true) else (if (t135.length : Int) = (t138.length : Int) then (saleroomref02_Cmp.j0 k a0 a1 (t135.length : Int) (t138.length : Int) (decide (a0 < a1))) else (saleroomref02_Cmp.j0 k a0 a1 (t135.length : Int) (t138.length : Int) false))))) = some r := h
  clear h
  replace H := Option.bind_eq_some_iff.mp H
  obtain ⟨t135, A30, H⟩ := H
  replace H : ((saleroomref02_List.f k a1).bind fun t138 => (if (t135.length : Int) < (t138.length : Int) then (saleroomref02_Cmp.j0 k a0 a1 (t135.length : Int) (t138.length : Int) true) else (if (t135.length : Int) = (t138.length : Int) then (saleroomref02_Cmp.j0 k a0 a1 (t135.length : Int) (t138.length : Int) (decide (a0 < a1))) else (saleroomref02_Cmp.j0 k a0 a1 (t135.length : Int) (t138.length : Int) false)))) = some r := H
  have A3 := Aside0.mk A30
  clear A30
  replace H := Option.bind_eq_some_iff.mp H
  obtain ⟨t138, A40, H⟩ := H
  replace H : (if (t135.length : Int) < (t138.length : Int) then (saleroomref02_Cmp.j0 k a0 a1 (t135.length : Int) (t138.length : Int) true) else (if (t135.length : Int) = (t138.length : Int) then (saleroomref02_Cmp.j0 k a0 a1 (t135.length : Int) (t138.length : Int) (decide (a0 < a1))) else (saleroomref02_Cmp.j0 k a0 a1 (t135.length : Int) (t138.length : Int) false))) = some r := H
  have A4 := Aside0.mk A40
  clear A40
  have HC5 := Aside0.mk H
  clear H
  go_enter Try.func59, Try.ntmps59
  go_upto_region 2 with (first | ((with_reducible refine gate_callee (f := 93) rfl ?_); refine goesL_ (some 8) rfl rfl Try.func93 (by kernel_rfl) rfl #[.int .u64 a0] rfl (by (try simp only [List.map_toArray, List.map_cons, List.map_nil]); first | done | rfl | (simp only [List.length_drop, List.length_take]; rfl)) ?_; (with_reducible refine (saleroomref02_List.calls k a0 t135 _ A3.out).mono ?_); rintro e w6 ⟨v136, rfl, ho0, hb⟩; refine ⟨_, rfl, ?_⟩; have n0_ := Aside0.mk (Kd.R_lower ho0 (below_size (by repeat (first | (with_reducible first | exact HB.out | apply below_alloc | apply pw_below_drewN | apply below_drew1) | exact HB.out)))); have n1_ := Aside0.mk (below_step (by repeat (first | (with_reducible first | exact HB.out | apply below_alloc | apply pw_below_drewN | apply below_drew1) | exact HB.out)) hb); clear HB; have HO137 := n0_; have HB := n1_; clear n0_ n1_; (try clear hb); (try clear hb2); (try clear hk); (try clear hi); (try clear ho0); obtain ⟨Ao7, co7, eo7⟩ := Kd.R_slice HO137.out; subst eo7) | ((with_reducible refine gate_callee (f := 93) rfl ?_); refine goesL_ (some 11) rfl rfl Try.func93 (by kernel_rfl) rfl #[.int .u64 a1] rfl (by (try simp only [List.map_toArray, List.map_cons, List.map_nil]); first | done | rfl | (simp only [List.length_drop, List.length_take]; rfl)) ?_; (with_reducible refine (saleroomref02_List.calls k a1 t138 _ A4.out).mono ?_); rintro e w8 ⟨v139, rfl, ho0, hb⟩; refine ⟨_, rfl, ?_⟩; have n0_ := Aside0.mk (Kd.R_elder' (by (with_reducible repeat (first | apply Kd.R_alloc | apply Kd.R_drewN | apply Kd.R_drew)); exact HO137.out) (Kd.R_base ho0) hb); have n1_ := Aside0.mk (Kd.R_lower (Kd.R_new' ho0 (Kd.R_lt (by (with_reducible repeat (first | apply Kd.R_alloc | apply Kd.R_drewN | apply Kd.R_drew)); exact HO137.out))) (below_size (by repeat (first | (with_reducible first | exact HB.out | apply below_alloc | apply pw_below_drewN | apply below_drew1) | exact HB.out)))); have n2_ := Aside0.mk (below_step (by repeat (first | (with_reducible first | exact HB.out | apply below_alloc | apply pw_below_drewN | apply below_drew1) | exact HB.out)) hb); clear HO137; clear HB; have HO137 := n0_; have HO140 := n1_; have HB := n2_; clear n0_ n1_ n2_; (try clear hb); (try clear hb2); (try clear hk); (try clear hi); (try clear ho0); obtain ⟨Ao9, co9, eo9⟩ := Kd.R_slice HO140.out; subst eo9))
  (try simp only [Act.put, List.setIfInBounds_toArray, List.set_cons_zero, List.set_cons_succ])
  go_cut [25] (fun v25 wc => ∃ (kq : Nat) (x25_4 : Bool), v25 = .bool x25_4 ∧ Aside0 (saleroomref02_Cmp.j0 kq a0 a1 (t135.length : Int) (t138.length : Int) x25_4 = some r) ∧ Aside0 (kq ≤ k) ∧ Aside0 (Below w.heap.size w wc))
  case first =>
    have H := HC5.out
    clear HC5
    by_cases c10 : (t135.length : Int) < (t138.length : Int)
    · rw [if_pos c10] at H
      have c10b0 : decide ((t135.length : Int) < (t138.length : Int)) = true := decide_eq_true c10
      have c10b1 : decide (t135.length < t138.length) = true := decide_eq_true (Int.ofNat_lt.mp c10)
      clear c10
      (first | rw [c10b0] | (simp only [i64_w, i32_w]; rw [c10b0]) | skip)
      have H' := Aside0.mk H
      clear H
      go_wp2
      go_meet
      case rel => exact ⟨_, (true), (by first | rfl | (simp; done) | (simp [*]; done)), H', ⟨by first | omega | exact Nat.le_refl _⟩, ⟨by repeat (first | (with_reducible first | exact HB.out | apply below_alloc | apply pw_below_drewN | apply below_drew1) | exact HB.out)⟩⟩
    · rw [if_neg c10] at H
      have c10b0 : decide ((t135.length : Int) < (t138.length : Int)) = false := decide_eq_false c10
      have c10b1 : decide (t135.length < t138.length) = false := decide_eq_false (fun h => c10 (Int.ofNat_lt.mpr h))
      clear c10
      (first | rw [c10b0] | (simp only [i64_w, i32_w]; rw [c10b0]) | skip)
      by_cases c11 : (t135.length : Int) = (t138.length : Int)
      · rw [if_pos c11] at H
        have c11b0 : ((t135.length : Int) == (t138.length : Int)) = true := beq_iff_eq.mpr c11
        have c11b1 : ((t135.length : Int) != (t138.length : Int)) = false := bne_eq_false_iff_eq.mpr c11
        have c11b2 : (t135.length == t138.length) = true := by first | simpa using c11 | (simp at c11 ⊢; omega)
        clear c11
        have H' := Aside0.mk H
        clear H
        go_wp2
        go_meet
        case rel => exact ⟨_, (decide (a0 < a1)), (by first | rfl | (simp; done) | (simp [*]; done)), H', ⟨by first | omega | exact Nat.le_refl _⟩, ⟨by repeat (first | (with_reducible first | exact HB.out | apply below_alloc | apply pw_below_drewN | apply below_drew1) | exact HB.out)⟩⟩
      · rw [if_neg c11] at H
        have c11b0 : ((t135.length : Int) == (t138.length : Int)) = false := beq_eq_false_iff_ne.mpr c11
        have c11b1 : ((t135.length : Int) != (t138.length : Int)) = true := bne_iff_ne.mpr c11
        have c11b2 : (t135.length == t138.length) = false := by first | simpa using c11 | (simp at c11 ⊢; omega)
        have H' := Aside0.mk H
        clear H
        go_wp2
        go_meet
        case rel => exact ⟨_, (false), (by first | rfl | (simp; done) | (simp [*]; done)), H', ⟨by first | omega | exact Nat.le_refl _⟩, ⟨by repeat (first | (with_reducible first | exact HB.out | apply below_alloc | apply pw_below_drewN | apply below_drew1) | exact HB.out)⟩⟩
  case rest =>
    clear HC5
    try clear c1
    try clear p2
    try clear c5
    try clear c9
    try clear c10
    try clear c10b0
    try clear c10b1
    try clear c11
    try clear c11b0
    try clear c11b1
    try clear c11b2
    obtain ⟨kq, x25_4, rfl, HA, HJ4, HB⟩ := hcut
    cases kq with
    | zero => exact absurd HA.out (by simp [saleroomref02_Cmp.j0])
    | succ kj4 =>
      have H := HA.out
      clear HA
      simp only [saleroomref02_Cmp.j0] at H
      by_cases c12 : x25_4 = true
      · subst c12
        have H1 : (some (-1)) = some r := by rw [if_pos rfl] at H; exact H
        clear H
        have H := H1
        clear H1
        obtain rfl := Option.some.inj H
        go_wp2
        go_ret
        exact ⟨by first | rfl | (simp [errW_none, errW_some] <;> rfl) | (simp [*, errW_none, errW_some] <;> rfl), by repeat (first | (with_reducible first | exact HB.out | apply below_alloc | apply pw_below_drewN | apply below_drew1) | exact HB.out)⟩
      · replace c12 := Bool.eq_false_iff.mpr c12
        subst c12
        have H1 : (if (t135.length : Int) > (t138.length : Int) then (some 1) else (if a0 > a1 then (some 1) else (some 0))) = some r := by rw [if_neg (show ¬ (false = true) by decide)] at H; exact H
        clear H
        have H := H1
        clear H1
        by_cases c13 : (t135.length : Int) > (t138.length : Int)
        · rw [if_pos c13] at H
          have c13b0 : decide ((t138.length : Int) < (t135.length : Int)) = true := decide_eq_true c13
          have c13b1 : decide (t138.length < t135.length) = true := decide_eq_true (Int.ofNat_lt.mp c13)
          clear c13
          obtain rfl := Option.some.inj H
          go_wp2
          go_ret
          exact ⟨by first | rfl | (simp [errW_none, errW_some] <;> rfl) | (simp [*, errW_none, errW_some] <;> rfl), by repeat (first | (with_reducible first | exact HB.out | apply below_alloc | apply pw_below_drewN | apply below_drew1) | exact HB.out)⟩
        · rw [if_neg c13] at H
          have c13b0 : decide ((t138.length : Int) < (t135.length : Int)) = false := decide_eq_false c13
          have c13b1 : decide (t138.length < t135.length) = false := decide_eq_false (fun h => c13 (Int.ofNat_lt.mpr h))
          clear c13
          by_cases c14 : a0 > a1
          · rw [if_pos c14] at H
            have c14b0 : decide (a1 < a0) = true := decide_eq_true c14
            clear c14
            obtain rfl := Option.some.inj H
            go_wp2
            go_ret
            exact ⟨by first | rfl | (simp [errW_none, errW_some] <;> rfl) | (simp [*, errW_none, errW_some] <;> rfl), by repeat (first | (with_reducible first | exact HB.out | apply below_alloc | apply pw_below_drewN | apply below_drew1) | exact HB.out)⟩
          · rw [if_neg c14] at H
            have c14b0 : decide (a1 < a0) = false := decide_eq_false c14
            clear c14
            obtain rfl := Option.some.inj H
            go_wp2
            go_ret
            exact ⟨by first | rfl | (simp [errW_none, errW_some] <;> rfl) | (simp [*, errW_none, errW_some] <;> rfl), by repeat (first | (with_reducible first | exact HB.out | apply below_alloc | apply pw_below_drewN | apply below_drew1) | exact HB.out)⟩

end Go.Proofs.Ytnlhgnioedalpaa.PPricePlays
