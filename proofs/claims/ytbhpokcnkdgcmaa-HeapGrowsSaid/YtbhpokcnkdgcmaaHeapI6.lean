/- heap I: the first one; it is taken out. -/
import Derived.Test.YtbhpokcnkdgcmaaHeapI5
set_option linter.unusedSimpArgs false
set_option linter.unusedVariables false
namespace Go.Proofs.Ytbhpokcnkdgcmaa.HeapI
open Go.RowKit Go.Proofs.Ytbhpokcnkdgcmaa.HeapL

theorem HM.nil {W : World} {base p : Nat} {bf : Value} {T : Nat} (h : HM W base p bf [] T) : ∃ cap a, W.cell? ⟨p, 1, none⟩ = some (.slice a 0 cap) := by
  obtain ⟨a, cap, _, c1, _⟩ := h.cells
  exact ⟨cap, a, c1⟩

set_option maxRecDepth 100000 in
set_option maxHeartbeats 2000000 in
theorem top_nil (W : World) (base p : Nat) (bf : Value) (T : Nat) (hM : HM W base p bf [] T) :
    Calls Try.prog 81 #[.pointer (some ⟨p, 0, none⟩)] W fun e w' => e = .returned (.tuple #[ev (0 : Int), .bool false]) ∧ Below W.heap.size W w' := by
  obtain ⟨cap, a, c1⟩ := hM.nil
  have hpl := hM.lt.2
  go_enter Try.func81, Try.ntmps81
  go_wp2_with fail
  go_ret2
  exact ⟨rfl, Below.refl _ _⟩

set_option maxRecDepth 100000 in
set_option maxHeartbeats 2000000 in
theorem top_cons (W : World) (base p : Nat) (bf : Value) (es : List El) (T : Nat) (hM : HM W base p bf es T) (hn : 0 < es.length) :
    Calls Try.prog 81 #[.pointer (some ⟨p, 0, none⟩)] W fun e w' => e = .returned (.tuple #[ev (gt zE es 0).1, .bool true]) ∧ Below W.heap.size W w' := by
  obtain ⟨g, cap, hbg, hgl, hgp, hlc, hcm, hP, hR, cs, hcs⟩ := hM.row hn
  have c1 := hP.cell (i := 1) rfl
  obtain ⟨⟨k1, t1⟩, h1⟩ : ∃ q, gt zE es 0 = q := ⟨_, rfl⟩
  have a1 : ∀ j, j < 2 → W.cell? ⟨g, 0 + j, none⟩ = (ec (k1, t1))[j]? := fun j hj => by have := own_at hR 0 j hn hj; rw [Nat.zero_mul, h1] at this; exact this
  simp only [Nat.zero_add] at a1
  have q1 : W.cell? ⟨g, 0, none⟩ = some (.int .i64 k1) ∧ W.cell? ⟨g, 1, none⟩ = some (.int .i64 (t1 : Int)) := ⟨a1 0 (by decide), a1 1 (by decide)⟩
  have hpl := hM.lt.2
  have hn0 : ((es.length : Int) == 0) = false := beq_eq_false_iff_ne.2 (by omega)
  have hn1 : (0 : Int) < (es.length : Int) := by omega
  rw [h1]
  clear a1 h1 hP hR hM
  go_enter Try.func81, Try.ntmps81
  go_wp2_with fail
  go_ret2
  exact ⟨rfl, Below.refl _ _⟩

end Go.Proofs.Ytbhpokcnkdgcmaa.HeapI
