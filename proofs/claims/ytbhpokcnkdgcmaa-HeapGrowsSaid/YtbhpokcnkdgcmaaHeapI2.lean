/- heap I: two change their places. -/
import Derived.Test.YtbhpokcnkdgcmaaHeapI1
import Derived.BigRegion
set_option linter.unusedSimpArgs false
set_option linter.unusedVariables false
namespace Go.Proofs.Ytbhpokcnkdgcmaa.HeapI
open Go.RowKit Go.Proofs.Ytbhpokcnkdgcmaa.HeapL

theorem own_blk {W : World} {p g i : Nat} {t : TypeId} {l : List Value} (h : Blk W p t l) (hne : g ≠ p) (vs : List Value) : Blk (W.setCells g i vs) p t l := by
  induction vs generalizing W i with
  | nil => exact h
  | cons v vs ih => exact ih (h.other (p := ⟨g, i, none⟩) (Ne.symm hne) v)

theorem swap_end (W : World) (base p : Nat) (bf : Value) (es : List El) (T i k : Nat) (hi : i < es.length) (hk : k < es.length) (hbp : base ≤ p) {g cap : Nat} {a b : El}
    (hP : Blk W p 151 [bf, .slice (some ⟨g, 0, none⟩) es.length cap, .int .i64 (T : Int)]) (hR : W.ownsRow base 153 2 (.slice (some ⟨g, 0, none⟩) es.length cap) es.length (cellsOf ec es))
    (hbg : base ≤ g) (hgp : g ≠ p) (hcs : ∃ cs fr, W.heap[g]? = some (.cells cs 153 fr)) (h1 : gt zE es i = a) (h2 : gt zE es k = b) :
    HM (((W.setCells g (i * 2) (ec b)).setCells g (k * 2) (ec a)).drew) base p bf (swp zE es i k) T ∧ Fr base p 153 W (((W.setCells g (i * 2) (ec b)).setCells g (k * 2) (ec a)).drew) := by
  have r1 := ownsRow_storedL (ec b) (i * 2) hR
  rw [← cellsOf_setL ec_length es i b hi] at r1
  have r2 := ownsRow_storedL (ec a) (k * 2) r1
  rw [← cellsOf_setL ec_length (es.set i b) k a (by simpa using hk)] at r2
  have e : (es.set i b).set k a = swp zE es i k := by unfold swp; rw [h1, h2]
  rw [e] at r2
  obtain ⟨f1, c1⟩ := Fr.setRowL hbg (ec b) (i * 2) (Fr.refl base p 153 W) hcs
  obtain ⟨f2, _⟩ := Fr.setRowL hbg (ec a) (k * 2) f1 c1
  refine ⟨⟨hbp, _, ((own_blk (own_blk hP hgp _) hgp _).drew), ?_⟩, f2.drew⟩
  rw [swp_length]
  exact r2.drew

set_option maxRecDepth 100000 in
set_option maxHeartbeats 4000000 in
/-- two change their places -/
theorem swap_ne (W : World) (base p : Nat) (bf : Value) (es : List El) (T : Nat) (i k : Nat) (hi : i < es.length) (hk : k < es.length) (hne : i ≠ k) (hM : HM W base p bf es T) :
    Calls Try.prog 115 #[.pointer (some ⟨p, 0, none⟩), .int .i64 (i : Int), .int .i64 (k : Int)] W fun e w' => e = .returned (.tuple #[]) ∧ HM w' base p bf (swp zE es i k) T ∧ Fr base p 153 W w' := by
  obtain ⟨g, cap, hbg, hgl, hgp, hlc, hcm, hP, hR, cs, hcs⟩ := hM.row (by omega)
  have c1 := hP.cell (i := 1) rfl
  obtain ⟨⟨k1, t1⟩, h1⟩ : ∃ q, gt zE es i = q := ⟨_, rfl⟩
  obtain ⟨⟨k2, t2⟩, h2⟩ : ∃ q, gt zE es k = q := ⟨_, rfl⟩
  have a1 : ∀ j, j < 2 → W.cell? ⟨g, i * 2 + j, none⟩ = (ec (k1, t1))[j]? := fun j hj => by rw [own_at hR i j hi hj, h1]
  have a2 : ∀ j, j < 2 → W.cell? ⟨g, k * 2 + j, none⟩ = (ec (k2, t2))[j]? := fun j hj => by rw [own_at hR k j hk hj, h2]
  have q1 : W.cell? ⟨g, i * 2, none⟩ = some (.int .i64 k1) ∧ W.cell? ⟨g, i * 2 + 1, none⟩ = some (.int .i64 (t1 : Int)) := ⟨a1 0 (by decide), a1 1 (by decide)⟩
  have q2 : W.cell? ⟨g, k * 2, none⟩ = some (.int .i64 k2) ∧ W.cell? ⟨g, k * 2 + 1, none⟩ = some (.int .i64 (t2 : Int)) := ⟨a2 0 (by decide), a2 1 (by decide)⟩
  have f1 : ∀ j, W.frozen? ⟨g, j, none⟩ = false := fun j => hR.frozenAt j
  have ib0 : (0 : Int) ≤ (i : Int) := Int.natCast_nonneg _
  have kb0 : (0 : Int) ≤ (k : Int) := Int.natCast_nonneg _
  have ib1 : (i : Int) < (es.length : Int) := by omega
  have kb1 : (k : Int) < (es.length : Int) := by omega
  clear a1 a2
  go_enter Try.func115, Try.ntmps115
  go_wp2_with fail
  go_region
  go_end0
  refine ⟨rfl, ?_⟩
  have hE := swap_end W base p bf es T i k hi hk hM.1 hP hR hbg hgp ⟨cs, (0, 0), hcs⟩ h1 h2
  simp only [ec, World.setCells, Nat.add_assoc, Nat.reduceAdd] at hE
  exact hE

set_option maxRecDepth 100000 in
set_option maxHeartbeats 4000000 in
/-- one keeps its place -/
theorem swap_eq (W : World) (base p : Nat) (bf : Value) (es : List El) (T : Nat) (i : Nat) (hi : i < es.length) (hM : HM W base p bf es T) :
    Calls Try.prog 115 #[.pointer (some ⟨p, 0, none⟩), .int .i64 (i : Int), .int .i64 (i : Int)] W fun e w' => e = .returned (.tuple #[]) ∧ HM w' base p bf (swp zE es i i) T ∧ Fr base p 153 W w' := by
  obtain ⟨g, cap, hbg, hgl, hgp, hlc, hcm, hP, hR, cs, hcs⟩ := hM.row (by omega)
  have c1 := hP.cell (i := 1) rfl
  obtain ⟨⟨k1, t1⟩, h1⟩ : ∃ q, gt zE es i = q := ⟨_, rfl⟩
  have a1 : ∀ j, j < 2 → W.cell? ⟨g, i * 2 + j, none⟩ = (ec (k1, t1))[j]? := fun j hj => by rw [own_at hR i j hi hj, h1]
  have q1 : W.cell? ⟨g, i * 2, none⟩ = some (.int .i64 k1) ∧ W.cell? ⟨g, i * 2 + 1, none⟩ = some (.int .i64 (t1 : Int)) := ⟨a1 0 (by decide), a1 1 (by decide)⟩
  have f1 : ∀ j, W.frozen? ⟨g, j, none⟩ = false := fun j => hR.frozenAt j
  have ib0 : (0 : Int) ≤ (i : Int) := Int.natCast_nonneg _
  have ib1 : (i : Int) < (es.length : Int) := by omega
  clear a1
  go_enter Try.func115, Try.ntmps115
  go_wp2_with fail
  go_region
  go_end0
  refine ⟨rfl, ?_⟩
  have hE := swap_end W base p bf es T i i hi hi hM.1 hP hR hbg hgp ⟨cs, (0, 0), hcs⟩ h1 h1
  simp only [ec, World.setCells, Nat.add_assoc, Nat.reduceAdd] at hE
  exact hE

theorem swap_any (W : World) (base p : Nat) (bf : Value) (es : List El) (T : Nat) (i k : Nat) (hi : i < es.length) (hk : k < es.length) (hM : HM W base p bf es T) :
    Calls Try.prog 115 #[.pointer (some ⟨p, 0, none⟩), .int .i64 (i : Int), .int .i64 (k : Int)] W fun e w' => e = .returned (.tuple #[]) ∧ HM w' base p bf (swp zE es i k) T ∧ Fr base p 153 W w' := by
  by_cases h : i = k
  · subst h; exact swap_eq W base p bf es T i hi hM
  · exact swap_ne W base p bf es T i k hi hk h hM

end Go.Proofs.Ytbhpokcnkdgcmaa.HeapI
