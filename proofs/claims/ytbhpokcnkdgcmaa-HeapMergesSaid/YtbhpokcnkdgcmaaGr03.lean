/- HeapM2, HeapM3, laid together. -/
import Derived.Test.YtbhpokcnkdgcmaaGr02
import Derived.BigRegion
import Derived.Deep.LoopGhost
import Derived.BigQuiet
import Derived.Deep.QuietTactic

/- heap M: two change their places. -/
set_option linter.unusedSimpArgs false
set_option linter.unusedVariables false
namespace Go.Proofs.Ytbhpokcnkdgcmaa.HeapM
open Go.RowKit Go.Proofs.Ytbhpokcnkdgcmaa.HeapL

theorem own_blk {W : World} {p g i : Nat} {t : TypeId} {l : List Value} (h : Blk W p t l) (hne : g ≠ p) (vs : List Value) : Blk (W.setCells g i vs) p t l := by
  induction vs generalizing W i with
  | nil => exact h
  | cons v vs ih => exact ih (h.other (p := ⟨g, i, none⟩) (Ne.symm hne) v)

theorem swap_end (W : World) (base p : Nat) (bf : Value) (es : List El) (T i k : Nat) (hi : i < es.length) (hk : k < es.length) (hbp : base ≤ p) {g cap : Nat} {a b : El}
    (hP : Blk W p 158 [bf, .slice (some ⟨g, 0, none⟩) es.length cap, .int .i64 (T : Int)]) (hR : W.ownsRow base 160 5 (.slice (some ⟨g, 0, none⟩) es.length cap) es.length (cellsOf ec es))
    (hbg : base ≤ g) (hgp : g ≠ p) (hcs : ∃ cs fr, W.heap[g]? = some (.cells cs 160 fr)) (h1 : gt zE es i = a) (h2 : gt zE es k = b) :
    HM (((W.setCells g (i * 5) (ec b)).setCells g (k * 5) (ec a)).drew) base p bf (swp zE es i k) T ∧ Fr base p 160 W (((W.setCells g (i * 5) (ec b)).setCells g (k * 5) (ec a)).drew) := by
  have r1 := ownsRow_storedL (ec b) (i * 5) hR
  rw [← cellsOf_setL ec_length es i b hi] at r1
  have r2 := ownsRow_storedL (ec a) (k * 5) r1
  rw [← cellsOf_setL ec_length (es.set i b) k a (by simpa using hk)] at r2
  have e : (es.set i b).set k a = swp zE es i k := by unfold swp; rw [h1, h2]
  rw [e] at r2
  obtain ⟨f1, c1⟩ := Fr.setRowL hbg (ec b) (i * 5) (Fr.refl base p 160 W) hcs
  obtain ⟨f2, _⟩ := Fr.setRowL hbg (ec a) (k * 5) f1 c1
  refine ⟨⟨hbp, _, ((own_blk (own_blk hP hgp _) hgp _).drew), ?_⟩, f2.drew⟩
  rw [swp_length]
  exact r2.drew

set_option maxRecDepth 100000 in
set_option maxHeartbeats 4000000 in
/-- two change their places -/
theorem swap_ne (W : World) (base p : Nat) (bf : Value) (es : List El) (T : Nat) (i k : Nat) (hi : i < es.length) (hk : k < es.length) (hne : i ≠ k) (hM : HM W base p bf es T) :
    Calls Try.prog 128 #[.pointer (some ⟨p, 0, none⟩), .int .i64 (i : Int), .int .i64 (k : Int)] W fun e w' => e = .returned (.tuple #[]) ∧ HM w' base p bf (swp zE es i k) T ∧ Fr base p 160 W w' := by
  obtain ⟨g, cap, hbg, hgl, hgp, hlc, hcm, hP, hR, cs, hcs⟩ := hM.row (by omega)
  have c1 := hP.cell (i := 1) rfl
  obtain ⟨⟨⟨k1, v1, li1, sA1, sn1, sc1⟩, t1⟩, h1⟩ : ∃ q, gt zE es i = q := ⟨_, rfl⟩
  obtain ⟨⟨⟨k2, v2, li2, sA2, sn2, sc2⟩, t2⟩, h2⟩ : ∃ q, gt zE es k = q := ⟨_, rfl⟩
  have a1 : ∀ j, j < 5 → W.cell? ⟨g, i * 5 + j, none⟩ = (ec ((k1, v1, li1, sA1, sn1, sc1), t1))[j]? := fun j hj => by rw [own_at hR i j hi hj, h1]
  have a2 : ∀ j, j < 5 → W.cell? ⟨g, k * 5 + j, none⟩ = (ec ((k2, v2, li2, sA2, sn2, sc2), t2))[j]? := fun j hj => by rw [own_at hR k j hk hj, h2]
  have q1 : W.cell? ⟨g, i * 5, none⟩ = some (.int .i64 k1) ∧ W.cell? ⟨g, i * 5 + 1, none⟩ = some (.int .i64 v1) ∧ W.cell? ⟨g, i * 5 + 2, none⟩ = some (.int .i64 li1) ∧ W.cell? ⟨g, i * 5 + 3, none⟩ = some (.slice sA1 sn1 sc1) ∧ W.cell? ⟨g, i * 5 + 4, none⟩ = some (.int .i64 (t1 : Int)) := ⟨a1 0 (by decide), a1 1 (by decide), a1 2 (by decide), a1 3 (by decide), a1 4 (by decide)⟩
  have q2 : W.cell? ⟨g, k * 5, none⟩ = some (.int .i64 k2) ∧ W.cell? ⟨g, k * 5 + 1, none⟩ = some (.int .i64 v2) ∧ W.cell? ⟨g, k * 5 + 2, none⟩ = some (.int .i64 li2) ∧ W.cell? ⟨g, k * 5 + 3, none⟩ = some (.slice sA2 sn2 sc2) ∧ W.cell? ⟨g, k * 5 + 4, none⟩ = some (.int .i64 (t2 : Int)) := ⟨a2 0 (by decide), a2 1 (by decide), a2 2 (by decide), a2 3 (by decide), a2 4 (by decide)⟩
  have f1 : ∀ j, W.frozen? ⟨g, j, none⟩ = false := fun j => hR.frozenAt j
  have ib0 : (0 : Int) ≤ (i : Int) := Int.natCast_nonneg _
  have kb0 : (0 : Int) ≤ (k : Int) := Int.natCast_nonneg _
  have ib1 : (i : Int) < (es.length : Int) := by omega
  have kb1 : (k : Int) < (es.length : Int) := by omega
  clear a1 a2
  go_enter Try.func128, Try.ntmps128
  go_wp2_with fail
  go_region
  go_end0
  refine ⟨rfl, ?_⟩
  have hE := swap_end W base p bf es T i k hi hk hM.1 hP hR hbg hgp ⟨cs, (0, 0), hcs⟩ h1 h2
  simp only [ec, World.setCells, Nat.add_assoc, Nat.reduceAdd] at hE
  exact hE

set_option maxRecDepth 100000 in
set_option maxHeartbeats 4000000 in
/-- one keeps its place -/
theorem swap_eq (W : World) (base p : Nat) (bf : Value) (es : List El) (T : Nat) (i : Nat) (hi : i < es.length) (hM : HM W base p bf es T) :
    Calls Try.prog 128 #[.pointer (some ⟨p, 0, none⟩), .int .i64 (i : Int), .int .i64 (i : Int)] W fun e w' => e = .returned (.tuple #[]) ∧ HM w' base p bf (swp zE es i i) T ∧ Fr base p 160 W w' := by
  obtain ⟨g, cap, hbg, hgl, hgp, hlc, hcm, hP, hR, cs, hcs⟩ := hM.row (by omega)
  have c1 := hP.cell (i := 1) rfl
  obtain ⟨⟨⟨k1, v1, li1, sA1, sn1, sc1⟩, t1⟩, h1⟩ : ∃ q, gt zE es i = q := ⟨_, rfl⟩
  have a1 : ∀ j, j < 5 → W.cell? ⟨g, i * 5 + j, none⟩ = (ec ((k1, v1, li1, sA1, sn1, sc1), t1))[j]? := fun j hj => by rw [own_at hR i j hi hj, h1]
  have q1 : W.cell? ⟨g, i * 5, none⟩ = some (.int .i64 k1) ∧ W.cell? ⟨g, i * 5 + 1, none⟩ = some (.int .i64 v1) ∧ W.cell? ⟨g, i * 5 + 2, none⟩ = some (.int .i64 li1) ∧ W.cell? ⟨g, i * 5 + 3, none⟩ = some (.slice sA1 sn1 sc1) ∧ W.cell? ⟨g, i * 5 + 4, none⟩ = some (.int .i64 (t1 : Int)) := ⟨a1 0 (by decide), a1 1 (by decide), a1 2 (by decide), a1 3 (by decide), a1 4 (by decide)⟩
  have f1 : ∀ j, W.frozen? ⟨g, j, none⟩ = false := fun j => hR.frozenAt j
  have ib0 : (0 : Int) ≤ (i : Int) := Int.natCast_nonneg _
  have ib1 : (i : Int) < (es.length : Int) := by omega
  clear a1
  go_enter Try.func128, Try.ntmps128
  go_wp2_with fail
  go_region
  go_end0
  refine ⟨rfl, ?_⟩
  have hE := swap_end W base p bf es T i i hi hi hM.1 hP hR hbg hgp ⟨cs, (0, 0), hcs⟩ h1 h1
  simp only [ec, World.setCells, Nat.add_assoc, Nat.reduceAdd] at hE
  exact hE

theorem swap_any (W : World) (base p : Nat) (bf : Value) (es : List El) (T : Nat) (i k : Nat) (hi : i < es.length) (hk : k < es.length) (hM : HM W base p bf es T) :
    Calls Try.prog 128 #[.pointer (some ⟨p, 0, none⟩), .int .i64 (i : Int), .int .i64 (k : Int)] W fun e w' => e = .returned (.tuple #[]) ∧ HM w' base p bf (swp zE es i k) T ∧ Fr base p 160 W w' := by
  by_cases h : i = k
  · subst h; exact swap_eq W base p bf es T i hi hM
  · exact swap_ne W base p bf es T i k hi hk h hM

end Go.Proofs.Ytbhpokcnkdgcmaa.HeapM

/- heap M: a thing is brought where it belongs, from below and from above. -/
set_option linter.unusedSimpArgs false
set_option linter.unusedVariables false
namespace Go.Proofs.Ytbhpokcnkdgcmaa.HeapM
open Go.RowKit Go.Proofs.Ytbhpokcnkdgcmaa.HeapL

theorem fst_ord {lt : (Int × Int × Int × Option Addr × Nat × Nat) → (Int × Int × Int × Option Addr × Nat × Nat) → Bool} (h : Ord lt) : Ord (fst lt) where
  asym := fun a b hab => by
    unfold fst at hab ⊢
    have h1 := h.asym a.1 b.1
    have h2 := h.asym b.1 a.1
    cases hx : lt a.1 b.1 <;> cases hy : lt b.1 a.1 <;> simp_all
    omega
  tr := fun a b c h1 h2 => by
    unfold fst at h1 h2 ⊢
    simp only [Bool.or_eq_false_iff, Bool.and_eq_false_iff, Bool.not_eq_false', decide_eq_false_iff_not] at h1 h2 ⊢
    obtain ⟨p1, p2⟩ := h1
    obtain ⟨q1, q2⟩ := h2
    refine ⟨h.tr _ _ _ p1 q1, ?_⟩
    cases hac : lt a.1 c.1
    · right
      have hab : lt a.1 b.1 = false := h.tr _ _ _ q1 hac
      have hbc : lt b.1 c.1 = false := h.tr _ _ _ hac p1
      rw [hab] at p2
      rw [hbc] at q2
      simp at p2 q2
      omega
    · left; rfl

/-- which of two stands first: the places as numbers -/
theorem first_int (lt : (Int × Int × Int × Option Addr × Nat × Nat) → (Int × Int × Int × Option Addr × Nat × Nat) → Bool) (W : World) (base p F : Nat) (lb : Array Value) (es : List El) (T : Nat) (i k : Int) (i0 : 0 ≤ i) (hi : i < es.length) (k0 : 0 ≤ k) (hk : k < es.length)
    (hbs : base ≤ W.heap.size) (hM : HM W base p (.func (.func F) #[] lb) es T) (hB : BF lt base p W F lb) :
    Calls Try.prog 127 #[.pointer (some ⟨p, 0, none⟩), .int .i64 i, .int .i64 k] W fun e w' => e = .returned (.bool (fst lt (gt zE es i.toNat) (gt zE es k.toNat))) ∧ Below W.heap.size W w' := by
  obtain ⟨i, rfl⟩ := Int.eq_ofNat_of_zero_le i0
  obtain ⟨k, rfl⟩ := Int.eq_ofNat_of_zero_le k0
  exact first_any lt W base p F lb es T i k (by omega) (by omega) hbs hM hB
theorem swap_int (W : World) (base p : Nat) (bf : Value) (es : List El) (T : Nat) (i k : Int) (i0 : 0 ≤ i) (hi : i < es.length) (k0 : 0 ≤ k) (hk : k < es.length) (hM : HM W base p bf es T) :
    Calls Try.prog 128 #[.pointer (some ⟨p, 0, none⟩), .int .i64 i, .int .i64 k] W fun e w' => e = .returned (.tuple #[]) ∧ HM w' base p bf (swp zE es i.toNat k.toNat) T ∧ Fr base p 160 W w' := by
  obtain ⟨i, rfl⟩ := Int.eq_ofNat_of_zero_le i0
  obtain ⟨k, rfl⟩ := Int.eq_ofNat_of_zero_le k0
  exact swap_any W base p bf es T i k (by omega) (by omega) hM
theorem HM.below {W W' : World} {base p : Nat} {bf : Value} {es : List El} {T : Nat} (h : HM W base p bf es T) (hb : Below W.heap.size W W') : HM W' base p bf es T := by
  obtain ⟨h1, v, h2, h3⟩ := h
  exact ⟨h1, v, h2.belowS hb, h3.kept (⟨hb.os, hb.tape, hb.output, hb.size, fun k hk _ => hb.block k hk⟩ : W.grownBy W' none) (by cases v.ownBlock <;> simp)⟩
theorem HM.lt {W : World} {base p : Nat} {bf : Value} {es : List El} {T : Nat} (h : HM W base p bf es T) : base ≤ p ∧ p < W.heap.size := by
  obtain ⟨h1, v, h2, h3⟩ := h
  exact ⟨h1, h2.lt⟩
theorem HM.max {W : World} {base p : Nat} {bf : Value} {es : List El} {T : Nat} (h : HM W base p bf es T) : es.length ≤ maxLen := by
  by_cases hn : 0 < es.length
  · obtain ⟨g, cap, _, _, _, h1, h2, _⟩ := h.row hn
    omega
  · omega

set_option maxRecDepth 100000 in
set_option maxHeartbeats 4000000 in
/-- from below -/
theorem up_any (lt : (Int × Int × Int × Option Addr × Nat × Nat) → (Int × Int × Int × Option Addr × Nat × Nat) → Bool) (ho : Ord lt) (W : World) (base p F : Nat) (lb : Array Value) (es : List El) (T : Nat) (i : Int) (i0 : 0 ≤ i)
    (hM : HM W base p (.func (.func F) #[] lb) es T) (hB : BF lt base p W F lb) (hU : UpInv (fst lt) zE es i.toNat) :
    Calls Try.prog 123 #[.pointer (some ⟨p, 0, none⟩), .int .i64 i] W fun e w' => e = .returned (.tuple #[]) ∧ (∃ es', HM w' base p (.func (.func F) #[] lb) es' T ∧ Heap (fst lt) zE es' ∧ es'.Perm es) ∧ Fr base p 160 W w' := by
  have hmax := hM.max
  unfold maxLen at hmax
  go_enter Try.func123, Try.ntmps123
  go_wp2_with fail
  go_loopw [1] (fun i wr => ∃ (j : Nat) (es1 : List El), i = .int .i64 j ∧ HM wr base p (.func (.func F) #[] lb) es1 T ∧ UpInv (fst lt) zE es1 j ∧ es1.Perm es ∧ Fr base p 160 W wr) (fun i _ => (intOf i).toNat)
  case atStart => exact ⟨i.toNat, es, by rw [Int.toNat_of_nonneg i0], hM, hU, List.Perm.refl _, Fr.refl _ _ _ _⟩
  case round =>
    obtain ⟨j, es1, rfl, hM1, hU1, hp1, hF1⟩ := hrel
    have hl1 := hp1.length_eq
    have hj := hU1.1
    have hbs1 : base ≤ wr.heap.size := by have := hM1.lt; omega
    have HB := hB.step hF1
    have HFo := fst_ord ho
    by_cases hj0 : j = 0
    · subst hj0
      have hh := up_zero hU1
      clear HB HFo hU1
      go_wp2_with fail
      go_end0
      exact ⟨rfl, ⟨es1, hM1, hh, hp1⟩, hF1⟩
    · have j1 : (0 : Int) < (j : Int) := by omega
      have j2 : (j : Int) < (es1.length : Int) := by omega
      have j3 : (j : Int) ≤ 9223372036854775807 := by omega
      have hpn : (((j : Int) - 1) / 2).toNat = (j - 1) / 2 := by omega
      have hc1 := fun w1 h1 h2 h3 => first_int lt w1 base p F lb es1 T (j : Int) (((j : Int) - 1) / 2) (by omega) j2 (by omega) (by omega) h1 h2 h3
      have hc2 := fun w1 h1 => swap_int w1 base p (.func (.func F) #[] lb) es1 T (j : Int) (((j : Int) - 1) / 2) (by omega) j2 (by omega) (by omega) h1
      rw [hpn, Int.toNat_natCast] at hc1 hc2
      have C1 := Lib.hid hc1; clear hc1
      have C2 := Lib.hid hc2; clear hc2
      have HP := Lib.hid hpn; clear hpn
      cases hf : fst lt (gt zE es1 j) (gt zE es1 ((j - 1) / 2))
      · have hh := up_stop hU1 hf
        have H := Lib.hid hf; clear hf
        clear HFo hU1
        go_wp2_with fail
        refine (C1.out _ hbs1 hM1 HB).mono ?_; rintro e w2 ⟨rfl, hb2⟩
        rw [H.out]
        go_wp2_with fail
        refine bodyPost_ret (results_none rfl _ _ _) rfl ?_
        exact ⟨rfl, ⟨es1, hM1.below hb2, hh, hp1⟩, hF1.ofBelow hb2 hbs1⟩
      · have hh := up_step HFo hU1 (by omega) hf
        have H := Lib.hid hf; clear hf
        have hsp := swp_perm zE es1 j ((j - 1) / 2) hj (by omega)
        clear HFo hU1
        go_wp2_with fail
        refine (C1.out _ hbs1 hM1 HB).mono ?_; rintro e w2 ⟨rfl, hb2⟩
        rw [H.out]
        go_wp2_with fail
        refine (C2.out _ (hM1.below hb2)).mono ?_; rintro e w3 ⟨rfl, hM3, hF3⟩
        go_wp2_with fail
        go_roundw
        case rel => exact ⟨(j - 1) / 2, swp zE es1 j ((j - 1) / 2), by congr 1; omega, hM3, hh, hsp.trans hp1, (hF1.ofBelow hb2 hbs1).trans hF3⟩
        case measure => simp [intOf]; omega

end Go.Proofs.Ytbhpokcnkdgcmaa.HeapM
