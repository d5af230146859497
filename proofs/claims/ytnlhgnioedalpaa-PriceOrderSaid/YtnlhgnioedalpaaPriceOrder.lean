/- PriceOrder: entries that are put in another order ask the same, and are the same. -/
import Derived.Test.YtnlhgnioedalpaaPriceGrows
import Derived.Deep.AppendLies
set_option linter.unusedSimpArgs false
set_option linter.unusedVariables false
namespace Go.Proofs.Ytnlhgnioedalpaa.Pri
open Go.RowKit Go.Proofs.YtnlhgnioedalpaaW.PrintWords Go.Proofs.Ytnlhgnioedalpaa.PPricePlays
attribute [local go_sem] Oper.semAt_some

theorem i64_and1023 (b : Int) : 0 ≤ bits .and .i64 b 1023 ∧ bits .and .i64 b 1023 ≤ 1023 := by
  show 0 ≤ IntKind.i64.wrap ((BitVec.ofInt 64 b &&& BitVec.ofInt 64 1023).toNat : Nat) ∧ IntKind.i64.wrap ((BitVec.ofInt 64 b &&& BitVec.ofInt 64 1023).toNat : Nat) ≤ 1023
  rw [BitVec.toNat_and, show (BitVec.ofInt 64 1023).toNat = 2 ^ 10 - 1 from by decide, Nat.and_two_pow_sub_one_eq_mod, IntKind.wrap_i64]
  omega
/-- the other order, the first k of it -/
def othL (es : List En) (m : Nat) (k : Nat) : List En := (List.range k).flatMap (fun i => [es.getD ((i + m) % es.length) dE, es.getD (es.length - 1 - i) dE])
theorem othL_succ (es : List En) (m k : Nat) : othL es m (k + 1) = othL es m k ++ [es.getD ((k + m) % es.length) dE, es.getD (es.length - 1 - k) dE] := by
  unfold othL
  rw [List.range_succ, List.flatMap_append]
  simp
theorem othL_len (es : List En) (m k : Nat) : (othL es m k).length = 2 * k := by
  induction k with
  | zero => rfl
  | succ k ih => rw [othL_succ, List.length_append, ih]; simp; omega
theorem getD_mem {es : List En} {i : Nat} (h : i < es.length) : es.getD i dE ∈ es := by
  rw [show es.getD i dE = es[i] from by simp [List.getD, h]]
  exact List.getElem_mem h
theorem othL_mem {es : List En} {m : Nat} (e : En) : e ∈ es ↔ e ∈ othL es m es.length := by
  unfold othL
  rw [List.mem_flatMap]
  constructor
  · intro h
    obtain ⟨j, hj, rfl⟩ := List.getElem_of_mem h
    refine ⟨es.length - 1 - j, List.mem_range.2 (by omega), ?_⟩
    rw [show es.length - 1 - (es.length - 1 - j) = j from by omega, show es.getD j dE = es[j] from by simp [List.getD, hj]]
    simp
  · rintro ⟨i, hi, h⟩
    have hl := List.mem_range.1 hi
    simp only [List.mem_cons, List.not_mem_nil, or_false] at h
    rcases h with rfl | rfl
    · exact getD_mem (Nat.mod_lt _ (by omega))
    · exact getD_mem (by omega)
theorem othL_of {es : List En} (hU : UE es) (m : Nat) : ofL (othL es m es.length) = ofL es := (of_mem_ext (es := es) hU (fun e => othL_mem e)).symm
theorem othL_u {es : List En} (hU : UE es) (m : Nat) : UE (othL es m es.length) := fun e he => hU e ((othL_mem e).2 he)
set_option maxHeartbeats 8000000 in
set_option maxRecDepth 100000 in
theorem order_core (W : World) (v : Value) (es : List En) (h : PE W v es) (hU : UE es) (by0 : Int) :
    Calls Try.prog 5 #[v, .int .i64 by0] W fun e w' => e = .returned (.bool true) ∧ Below W.heap.size W w' := by
  have H := Lib.hid h
  obtain ⟨i0, hi0, hiz0, hiz1, hiz2⟩ := info_parts infoE
  obtain ⟨A, c, rfl, -⟩ := h
  by_cases hlong : 60 < es.length
  · have g1 : (60 : Int) < (es.length : Int) := by omega
    go_enter Try.func5, Try.ntmps5
    go_wp2_with fail
    refine (alive_any _).mono ?_; rintro e w1 ⟨rfl, hb1⟩
    have HB1 := Lib.hid hb1
    clear hb1
    go_wp2_with fail
    go_ret
    exact ⟨rfl, HB1.out⟩
  · have g1 : ¬ (60 : Int) < (es.length : Int) := by omega
    obtain ⟨hm0, hm1⟩ := i64_and1023 by0
    obtain ⟨mi, hmi⟩ : ∃ mi, bits .and .i64 by0 1023 = mi := ⟨_, rfl⟩
    rw [hmi] at hm0 hm1
    obtain ⟨m, hm⟩ : ∃ m : Nat, mi = (m : Int) := ⟨mi.toNat, by omega⟩
    subst hm
    go_enter Try.func5, Try.ntmps5
    go_wp2_with fail
    refine (alive_any _).mono ?_; rintro e w1 ⟨rfl, hb1⟩
    have hlit := World.ownsRow_lit (base := w1.heap.size) (e := tE) (size := 2) w1 #[] 0 (Nat.le_refl _) (by decide) rfl
    have hB0 := hb1.alloc hb1.size (.cells #[] tE)
    have hz1 : (w1.alloc (.cells #[] tE)).heap.size = w1.heap.size + 1 := by simp
    obtain ⟨w2, hw2⟩ : ∃ w2, w1.alloc (.cells #[] tE) = w2 := ⟨_, rfl⟩
    rw [hw2] at hlit hB0 hz1
    obtain ⟨B, hBB⟩ : ∃ B, w1.heap.size = B := ⟨_, rfl⟩
    rw [hBB] at hlit hz1
    have hWB : W.heap.size ≤ B := by rw [← hBB]; exact hb1.size
    have HL0 := Lib.hid hlit; have HB0 := Lib.hid hB0; have HW2 := Lib.hid hw2; have HBB := Lib.hid hBB
    clear hlit hB0 hw2 hBB hb1
    go_wp2_with fail
    rw [HW2.out, HBB.out]
    go_loopw [5, 17] (fun o i wr => ∃ k : Nat, k ≤ es.length ∧ i = .int .i64 (k : Int) ∧ wr.ownsRow B tE 2 o (othL es m k).length (cellsOf cE (othL es m k)) ∧ Below W.heap.size W wr ∧ B ≤ wr.heap.size) (fun _ i _ => es.length - (intOf i).toNat)
    case atStart => exact ⟨0, Nat.zero_le _, rfl, HL0.out, HB0.out, by omega⟩
    case round =>
      clear HL0 HB0
      obtain ⟨k, hk, rfl, ho, hB, hBs⟩ := hrel
      by_cases hlt : k < es.length
      · have hi1 : (k + m) % es.length < es.length := Nat.mod_lt _ (by omega)
        have hi2 : es.length - 1 - k < es.length := by omega
        obtain ⟨⟨x, y⟩, hx⟩ : ∃ x, es.getD ((k + m) % es.length) dE = x := ⟨_, rfl⟩
        obtain ⟨⟨x2, y2⟩, hx2⟩ : ∃ x, es.getD (es.length - 1 - k) dE = x := ⟨_, rfl⟩
        have a1 : es[(k + m) % es.length]? = some (x, y) := by rw [List.getElem?_eq_getElem hi1, ← hx]; simp [List.getD, hi1]
        have a2 : es[es.length - 1 - k]? = some (x2, y2) := by rw [List.getElem?_eq_getElem hi2, ← hx2]; simp [List.getD, hi2]
        obtain ⟨b3, off3, c4, e1, hlb, r0, r1⟩ := (H.out.below hB).at a1
        obtain ⟨b4, off4, c5, e2, hlb2, s0, s1⟩ := (H.out.below hB).at a2
        obtain ⟨rfl, rfl⟩ : A = some ⟨b3, off3, none⟩ ∧ c = c4 := by injection e1 with e1 e2 e3; exact ⟨e1, e3⟩
        obtain ⟨rfl, rfl⟩ : b3 = b4 ∧ off3 = off4 := by injection e2 with e2 _ _; injection e2 with e2; injection e2 with e2 e3; exact ⟨e2, e3⟩
        simp only at r0 r1 s0 s1
        have hs := othL_succ es m k
        rw [hx, hx2] at hs
        have HS := Lib.hid hs
        have hrem : Int.tmod ((k : Int) + (m : Int)) (es.length : Int) = (((k + m) % es.length : Nat) : Int) := by rw [Int.tmod_eq_emod_of_nonneg (by omega), ← Int.natCast_add]; rfl
        clear hs a1 a2 e1 e2 hx hx2
        have hj1 : (((k + m) % es.length : Nat) : Int) < (es.length : Int) := by omega
        have hj0 : (0 : Int) ≤ (((k + m) % es.length : Nat) : Int) := Int.natCast_nonneg _
        obtain ⟨j1, hjj⟩ : ∃ j, (k + m) % es.length = j := ⟨_, rfl⟩
        rw [hjj] at hrem r0 r1 hj1 hj0
        obtain ⟨j2, hj2⟩ : ∃ j, es.length - 1 - k = j := ⟨_, rfl⟩
        rw [hj2] at s0 s1
        have hn0 : ((es.length : Int) == 0) = false := by rw [beq_eq_false_iff_ne]; omega
        have hn0' : ¬ (es.length : Int) = 0 := by omega
        have f1 : IntKind.i64.wrap ((k : Int) + (m : Int)) = (k : Int) + (m : Int) := by rw [IntKind.wrap_i64]; omega
        have f3 : IntKind.i64.wrap ((es.length : Int) - 1) = (es.length : Int) - 1 := by rw [IntKind.wrap_i64]; omega
        have f4 : IntKind.i64.wrap ((es.length : Int) - 1 - (k : Int)) = (j2 : Int) := by rw [IntKind.wrap_i64]; omega
        have f5 : (j2 : Int) < (es.length : Int) := by omega
        have f6 : (0 : Int) ≤ (j2 : Int) := Int.natCast_nonneg _
        have f7 : IntKind.i64.wrap (j1 : Int) = (j1 : Int) := by rw [IntKind.wrap_i64]; omega
        have hln := othL_len es m k
        have hbz : B ≤ ((wr.alloc (.cells #[.int .u64 x, .int .i64 y, .int .u64 x2, .int .i64 y2] tE)).drew).heap.size := by show B ≤ (wr.alloc _).heap.size; simp; omega
        have hne : ¬ es = [] := fun e => by rw [e] at hlt; simp at hlt
        clear hjj hj2 hi1 hi2
        go_wp2_with fail
        go_region_law ((refine step_append_lies _ (by rfl) _ _ _ (by rfl) B tE i0 _ 2 16 Try.underlying22 hi0 hiz0 hiz1 hiz2 rfl (by omega) u5 (othL es m k).length (cellsOf cE (othL es m k)) (by rfl) (own_below (ho.alloc _) ((Below.refl _ _).drew)) ⟨wr.heap.size, 0, none⟩ 2 2 [.int .u64 x, .int .i64 y, .int .u64 x2, .int .i64 y2] (by rfl) (by rfl) (news_blk (Blk.new wr [.int .u64 x, .int .i64 y, .int .u64 x2, .int .i64 y2] tE).drew) (by simp [Value.oneCell']) (by omega) (by unfold maxLen; omega) (by omega) hbz (wr.heap.size + 1) (by simp) ?_; intro gg cap w3 hown1 hgrow hat hlt1))
        all_goals
          have hHS := HS.out
          have hlen2 : (othL es m (k + 1)).length = (othL es m k).length + 2 := by rw [hHS, List.length_append]; rfl
          have HN := Lib.hid (show w3.ownsRow B tE 2 (.slice (some ⟨gg, 0, none⟩) ((othL es m k).length + 2) cap) (othL es m (k + 1)).length (cellsOf cE (othL es m (k + 1))) ∧ Below W.heap.size W w3 ∧ B ≤ w3.heap.size from by
            refine ⟨?_, ?_, ?_⟩
            · rw [hlen2, hHS, cellsOf_append]
              exact hown1
            · have hb5 : Below W.heap.size W ((wr.alloc (.cells #[.int .u64 x, .int .i64 y, .int .u64 x2, .int .i64 y2] tE)).drew) := (hB.alloc hB.size _).drew
              exact hb5.grown hgrow hb5.size (fun r e => by have := (own_typ ho r e).1; omega)
            · exact Nat.le_trans hbz hgrow.size)
          clear hown1 hgrow hat hlt1 hHS hlen2 ho hB
          go_wp2_with fail
          go_roundw
          case rel => exact ⟨k + 1, by omega, by simp, (by have := HN.out.1; rw [hln] at this; exact this), HN.out.2.1, HN.out.2.2⟩
          case measure => simp [intOf]; omega
      · obtain rfl : k = es.length := by omega
        have hol := othL_len es m es.length
        have hofo := othL_of hU m
        have huo := othL_u hU m
        have hpo := pe_own (by omega) ho
        have HPO := Lib.hid hpo; have HB := Lib.hid hB
        have hts := (tight_ofL hU).of_self
        clear ho hB hpo
        go_wp2_with fail
        refine (of_any wr _ es (H.out.below HB.out) hU (by omega)).mono ?_; rintro e x1 ⟨rfl, hS1, hl1, hb1⟩
        obtain ⟨p, hp⟩ : ∃ p, wr.heap.size = p := ⟨_, rfl⟩
        rw [hp] at hS1 ⊢
        have HP1 := Lib.hid hS1; have HB1 := Lib.hid (HB.out.trans (hb1.mono HB.out.size)); have HPO1 := Lib.hid (HPO.out.below hb1)
        clear hS1 hb1 hp
        go_wp2_with fail
        refine (of_any x1 _ (othL es m es.length) HPO1.out huo (by omega)).mono ?_; rintro e x2 ⟨rfl, hS2, hl2, hb2⟩
        rw [hofo] at hS2
        obtain ⟨q, hq⟩ : ∃ q, x1.heap.size = q := ⟨_, rfl⟩
        rw [hq] at hS2 ⊢
        have HQ2 := Lib.hid hS2; have HP2 := Lib.hid (HP1.out.below hb2); have HB2 := Lib.hid (HB1.out.trans (hb2.mono HB1.out.size))
        clear hS2 hb2 hq
        go_wp2_with fail
        refine (same_any x2 p q _ _ HP2.out.pr HQ2.out.pr (by omega)).mono ?_; rintro e x3 ⟨rfl, hb3⟩
        rw [decide_eq_true (rfl : ofL es = ofL es)]
        have HQ3 := Lib.hid (HQ2.out.below hb3); have HP3 := Lib.hid (HP2.out.below hb3); have HB3 := Lib.hid (HB2.out.trans (hb3.mono HB2.out.size))
        clear hb3
        go_wp2_with fail
        refine (same_any x3 q p _ _ HQ3.out.pr HP3.out.pr (by omega)).mono ?_; rintro e x4 ⟨rfl, hb4⟩
        rw [decide_eq_true (rfl : ofL es = ofL es)]
        have HQ4 := Lib.hid (HQ3.out.below hb4); have HP4 := Lib.hid (HP3.out.below hb4); have HB4 := Lib.hid (HB3.out.trans (hb4.mono HB3.out.size))
        clear hb4
        go_wp2_with fail
        refine (list_any x4 q _ HQ4.out.pr (by omega)).mono ?_; rintro e x5 ⟨v5, rfl, ho5, hb5⟩
        have HPE5 := Lib.hid (pe_own (by omega) ho5); have HP5 := Lib.hid (HP4.out.below hb5); have HB5 := Lib.hid (HB4.out.trans (hb5.mono HB4.out.size))
        clear hb5 ho5
        go_wp2_with fail
        refine (of_any x5 v5 (ofL es) HPE5.out HQ4.out.ue (by omega)).mono ?_; rintro e x6 ⟨rfl, hS6, hl6, hb6⟩
        rw [hts] at hS6
        obtain ⟨r, hr⟩ : ∃ r, x5.heap.size = r := ⟨_, rfl⟩
        rw [hr] at hS6 ⊢
        have HR6 := Lib.hid hS6; have HP6 := Lib.hid (HP5.out.below hb6); have HB6 := Lib.hid (HB5.out.trans (hb6.mono HB5.out.size))
        clear hS6 hb6 hr
        go_wp2_with fail
        refine (same_any x6 r p _ _ HR6.out.pr HP6.out.pr (by omega)).mono ?_; rintro e x7 ⟨rfl, hb7⟩
        rw [decide_eq_true (rfl : ofL es = ofL es)]
        have HB7 := Lib.hid (HB6.out.trans (hb7.mono HB6.out.size))
        clear hb7
        go_wp2_with fail
        go_ret
        exact ⟨rfl, HB7.out⟩

theorem order_row (W : World) (z : List S41) (A : Option Addr) (c : Nat) (hc : z.length ≤ c) (hA : A = none → c = 0) (hC : k41.C W A z.length z) (_ : z.length ≤ maxLen) (hG : ∀ x ∈ z, (Lit.int .u64 x.f0).wf = true ∧ (Lit.int .i64 x.f1).wf = true) (b : Int) (_ : (Lit.int .i64 b).wf = true) :
    Calls Try.prog 5 #[.slice A z.length c, .int .i64 b] W fun e w' => e = .returned (.bool true) ∧ Below W.heap.size W w' :=
  order_core W _ (z.map frE) (pe_row hc hA hC) (ue_row hG) b

end Go.Proofs.Ytnlhgnioedalpaa.Pri
