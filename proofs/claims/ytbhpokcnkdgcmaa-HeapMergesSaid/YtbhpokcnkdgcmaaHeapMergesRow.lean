/- HeapMerges: the statement of the row, out of the walk. -/
import Derived.Test.YtbhpokcnkdgcmaaRows
import Derived.Test.YtbhpokcnkdgcmaaGr16
import Derived.Test.YtbhpokcnkdgcmaaGr01
import Derived.Test.YtbhpokcnkdgcmaaGr15
import Derived.WalkKit
import Derived.ProofKit
import Derived.OpenShut
import Derived.ShutString
import Derived.ChangeOld
import Derived.Below
import Derived.SizedLaws
namespace Go.Proofs.Ytbhpokcnkdgcmaa.heapMergesRow
open Go.ChangeShapes Go.WideShapes Go.ChangeAt Go.RowKit
open Go.ChangeMaps (open_string shut_string)
open Go.Proofs.YtbhpokcnkdgcmaaW.PrintWords (Kd)
open Go.Proofs.Ytbhpokcnkdgcmaa.MgK
set_option linter.unusedVariables false

theorem el2 {H : Type} {enc : TypeId × Value → H} {w : World} {base : Nat} {spare : Nat → Bool} {held : Bool} : ∀ m cs (y : DataW H × List MemPlace), DataW.trod enc Try.prog w base spare held m 2 cs = some y → ∃ x, (Kd.int .i64).K w x cs ∧ (fun x : Int => (Lit.int .i64 x).wf = true) x := fun m cs y h => by
  obtain ⟨n, rfl, _, hw⟩ := DataW.trod_int Try.underlying2 h
  exact ⟨n, rfl, hw⟩
theorem el37 {H : Type} {enc : TypeId × Value → H} {w : World} {base : Nat} {spare : Nat → Bool} {held : Bool} : ∀ m cs (y : DataW H × List MemPlace), DataW.trod enc Try.prog w base spare held m 37 cs = some y → ∃ x, (k37).K w x cs ∧ (fun x => (fun x : Int => (Lit.int .i64 x).wf = true) x.f0 ∧ (fun x : Int => (Lit.int .i64 x).wf = true) x.f1) x := fun m cs y h => by
  obtain ⟨xs, n, _, rfl, hl, hlen, hf⟩ := DataW.trod_struct Try.underlying37 h
  rw [show Try.prog.cellsOf 37 = 2 from by kernel_rfl] at hl
  have e0 : DataW.trod enc Try.prog w base spare held n 2 (List.take (Try.prog.cellsOf 2) (List.drop 0 cs)) = xs[0]? := hf 0 _ rfl
  rw [show Try.prog.cellsOf 2 = 1 from by kernel_rfl] at e0
  have e1 : DataW.trod enc Try.prog w base spare held n 2 (List.take (Try.prog.cellsOf 2) (List.drop 1 cs)) = xs[1]? := hf 1 _ rfl
  rw [show Try.prog.cellsOf 2 = 1 from by kernel_rfl] at e1
  replace hlen : xs.length = 2 := hlen
  clear hf h
  match cs, hl, xs, hlen with
  | [u0, u1], _, [y0, y1], _ =>
    obtain ⟨n0, q0, _, w0⟩ := DataW.trod_int Try.underlying2 e0
    simp at q0
    subst q0
    obtain ⟨n1, q1, _, w1⟩ := DataW.trod_int Try.underlying2 e1
    simp at q1
    subst q1
    exact ⟨⟨n0, n1⟩, k37_mk w _ , w0, w1⟩
theorem el39 {H : Type} {enc : TypeId × Value → H} {w : World} {base : Nat} {spare : Nat → Bool} {held : Bool} : ∀ m cs (y : DataW H × List MemPlace), DataW.trod enc Try.prog w base spare held m 39 cs = some y → ∃ x, (Pri.sliceZ (k37)).K w x cs ∧ (fun x => x.length ≤ maxLen ∧ ∀ y ∈ x, (fun x => (fun x : Int => (Lit.int .i64 x).wf = true) x.f0 ∧ (fun x : Int => (Lit.int .i64 x).wf = true) x.f1) y) x := fun m cs y h => by
  obtain ⟨z, a, c, rfl, l, N, C, L, G⟩ := open_kd z37 (k37) (fun x => (fun x : Int => (Lit.int .i64 x).wf = true) x.f0 ∧ (fun x : Int => (Lit.int .i64 x).wf = true) x.f1) Try.underlying39 (by kernel_rfl) el37 h
  exact ⟨z, ⟨a, c, rfl, l, N, C⟩, L, G⟩
theorem own : ownKnob Try.prog.godebug = none := by kernel_rfl
theorem laidOut : laidOutB Try.prog = true := by kernel_rfl

set_option maxRecDepth 100000 in
theorem lifted (os : Os) (started : os.Started) (H : Type) (enc : TypeId × Value → H) :
    ReturnsInHanded {} Try.checked os 12 .any (Rows.heapMergesSpec.pre6 enc Try.prog Try.f12 Rows.heapMergesRow.domain false) (Rows.heapMergesSpec.post enc Try.prog Try.f12 false true false false) := by
  refine returnsInHanded_of_change_sized (C := Try.checked) own started (by kernel_rfl) Try.func12
    (ChangeSpec.witness6 (enc := enc) (C := Try.checked) false ⟨#[], #[.slice none 0 0, .int .i64 0], []⟩ 8 (by kernel_rfl) (by kernel_rfl) (by kernel_rfl) (by kernel_rfl)) ?_
  intro W base args ds gs before hval0 hW hcnd hsz0 _
  have hsz : (DataW.weightsEach Try.prog (Try.f12.params.toList ++ Rows.heapMergesSpec.plain.varTypes Try.prog) (ds ++ gs)).all (· ≤ reachBytes) = true := hsz0
  have hval : ∀ (j : Nat) t v, Try.f12.params[j]? = some t → args[j]? = some v → Value.okWide Try.prog W .any base t v := hval0
  have hW' := hW
  obtain ⟨p, q, hA0, hV, rfl, hfz, hnd⟩ := hW
  have hA : DataW.TrodAll enc Try.prog W 0 (fun _ => true) true Try.f12.params.toList args.toList ds p := hA0
  rw [Try.params12] at hA hval hsz
  obtain ⟨v0, vs0, d0, ds0, p0, q0, hargs, rfl, rfl, h0, r0⟩ := trodAll_cons hA
  obtain ⟨v1, vs1, d1, ds1, p1, q1, rfl, rfl, rfl, h1, r1⟩ := trodAll_cons r0
  obtain ⟨rfl, rfl, rfl⟩ := trodAll_nil r1
  obtain rfl : args = #[v0, v1] := by cases args; simp_all
  obtain ⟨rfl, rfl⟩ := trodVars_none hV
  obtain ⟨a0, len0, cap0, rfl⟩ := okWide_slice Try.underlying97 (hval 0 97 v0 rfl rfl)
  have k0 := h0
  have lt0 : ∀ x ∈ p0, x.block < W.heap.size := by obtain ⟨m, hm⟩ := k0; exact DataW.trod_lt m _ _ _ hm
  obtain ⟨fuel0, hf0⟩ := h0
  obtain ⟨z0, A0, c0, e0, R0, N0, C0, L0, G0⟩ := open_kd [] (Pri.sliceZ (k37)) (fun x => x.length ≤ maxLen ∧ ∀ y ∈ x, (fun x => (fun x : Int => (Lit.int .i64 x).wf = true) x.f0 ∧ (fun x : Int => (Lit.int .i64 x).wf = true) x.f1) y) Try.underlying97 (by kernel_rfl) el39 hf0
  obtain ⟨rfl, rfl, rfl⟩ : a0 = A0 ∧ len0 = z0.length ∧ cap0 = c0 := by simpa [Value.cells] using e0
  obtain ⟨a1, rfl, rfl, rfl, w1⟩ := open_int Try.underlying3 (hval 1 3 v1 rfl rfl) h1
  clear hA0 hval0 hsz0 hsz
  refine (HeapM.merges_row W z0 _ _ R0 N0 C0 L0 G0 a1 w1).mono fun e W' ⟨he, bel⟩ => ?_
  subst he
  exact ⟨_, rfl, _, _, _, [], _, [], hW', trodAll_mk1 (shut_bool Try.underlying4 _), (trodAll_cons_mk (Below.trod laidOut (by kernel_rfl) (of_decide_eq_true (by kernel_rfl)) k0 bel lt0) (trodAll_cons_mk (shut_int Try.underlying3 w1) trodAll_mk0)), rfl, bel.frame _, fun h => by cases h⟩

theorem over : Rows.heapMergesRow.holds Try.pinned (OpenSpec.ofChange Rows.heapMergesSpec) :=
  OpenClaim.holds_of_wide 12 Try.f12 rfl rfl rfl rfl rfl rfl rfl ⟨rfl, rfl, rfl, rfl, rfl⟩ rfl rfl rfl rfl rfl (by kernel_rfl) Try.func12 (by kernel_rfl)
    (of_decide_eq_true (by kernel_rfl)) (by unfold Func.isWrapper; first | (rw [if_pos (by decide +kernel)]; kernel_rfl) | (rw [if_neg (by decide +kernel)]; exact ⟨rfl, rfl⟩))
    (fun os started H enc _ => lifted os started H enc)
end Go.Proofs.Ytbhpokcnkdgcmaa.heapMergesRow
namespace Go.Proofs.Ytbhpokcnkdgcmaa
theorem heapMerges_holds : Rows.HeapMergesSaid := heapMergesRow.over
#print axioms heapMerges_holds
end Go.Proofs.Ytbhpokcnkdgcmaa
