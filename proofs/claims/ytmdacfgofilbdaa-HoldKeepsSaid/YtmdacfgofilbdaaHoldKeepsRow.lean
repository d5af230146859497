/- HoldKeeps: the statement of the row, out of the walk. -/
import Derived.Test.YtmdacfgofilbdaaRows
import Derived.Test.YtmdacfgofilbdaaHoldKeeps
import Derived.Test.YtmdacfgofilbdaaOpen
import Derived.Test.YtmdacfgofilbdaaKd
import Derived.WalkKit
import Derived.ProofKit
import Derived.OpenShut
import Derived.ShutString
import Derived.ChangeOld
import Derived.Below
import Derived.SizedLaws
namespace Go.Proofs.Ytmdacfgofilbdaa.holdKeepsRow
open Go.ChangeShapes Go.WideShapes Go.ChangeAt Go.RowKit
open Go.ChangeMaps (open_string shut_string)
open Go.Proofs.YtmdacfgofilbdaaW.PrintWords (Kd)
open Go.Proofs.Ytmdacfgofilbdaa.PHoldPlays
set_option linter.unusedVariables false

theorem el3 {H : Type} {enc : TypeId × Value → H} {w : World} {base : Nat} {spare : Nat → Bool} {held : Bool} : ∀ m cs (y : DataW H × List MemPlace), DataW.trod enc Try.prog w base spare held m 3 cs = some y → ∃ x, (Kd.int .i64).K w x cs ∧ (fun x : Int => (Lit.int .i64 x).wf = true) x := fun m cs y h => by
  obtain ⟨n, rfl, _, hw⟩ := DataW.trod_int Try.underlying3 h
  exact ⟨n, rfl, hw⟩
theorem el2 {H : Type} {enc : TypeId × Value → H} {w : World} {base : Nat} {spare : Nat → Bool} {held : Bool} : ∀ m cs (y : DataW H × List MemPlace), DataW.trod enc Try.prog w base spare held m 2 cs = some y → ∃ x, (Kd.int .i64).K w x cs ∧ (fun x : Int => (Lit.int .i64 x).wf = true) x := fun m cs y h => by
  obtain ⟨n, rfl, _, hw⟩ := DataW.trod_int Try.underlying2 h
  exact ⟨n, rfl, hw⟩
theorem el57 {H : Type} {enc : TypeId × Value → H} {w : World} {base : Nat} {spare : Nat → Bool} {held : Bool} : ∀ m cs (y : DataW H × List MemPlace), DataW.trod enc Try.prog w base spare held m 57 cs = some y → ∃ x, (k57).K w x cs ∧ (fun x => (fun x : Int => (Lit.int .i64 x).wf = true) x.f0 ∧ (fun x : Int => (Lit.int .i64 x).wf = true) x.f1) x := fun m cs y h => by
  obtain ⟨xs, n, _, rfl, hl, hlen, hf⟩ := DataW.trod_struct Try.underlying57 h
  rw [show Try.prog.cellsOf 57 = 2 from by kernel_rfl] at hl
  have e0 : DataW.trod enc Try.prog w base spare held n 3 (List.take (Try.prog.cellsOf 3) (List.drop 0 cs)) = xs[0]? := hf 0 _ rfl
  rw [show Try.prog.cellsOf 3 = 1 from by kernel_rfl] at e0
  have e1 : DataW.trod enc Try.prog w base spare held n 2 (List.take (Try.prog.cellsOf 2) (List.drop 1 cs)) = xs[1]? := hf 1 _ rfl
  rw [show Try.prog.cellsOf 2 = 1 from by kernel_rfl] at e1
  replace hlen : xs.length = 2 := hlen
  clear hf h
  match cs, hl, xs, hlen with
  | [u0, u1], _, [y0, y1], _ =>
    obtain ⟨n0, q0, _, w0⟩ := DataW.trod_int Try.underlying3 e0
    simp at q0
    subst q0
    obtain ⟨n1, q1, _, w1⟩ := DataW.trod_int Try.underlying2 e1
    simp at q1
    subst q1
    exact ⟨⟨n0, n1⟩, k57_mk w _ , w0, w1⟩
theorem el36 {H : Type} {enc : TypeId × Value → H} {w : World} {base : Nat} {spare : Nat → Bool} {held : Bool} : ∀ m cs (y : DataW H × List MemPlace), DataW.trod enc Try.prog w base spare held m 36 cs = some y → ∃ x, (Kd.slice 57 (k57)).K w x cs ∧ (fun x => x.length ≤ maxLen ∧ ∀ y ∈ x, (fun x => (fun x : Int => (Lit.int .i64 x).wf = true) x.f0 ∧ (fun x : Int => (Lit.int .i64 x).wf = true) x.f1) y) x := fun m cs y h => by
  obtain ⟨z, a, c, rfl, l, _, C, L, G⟩ := open_kd z57 (k57) (fun x => (fun x : Int => (Lit.int .i64 x).wf = true) x.f0 ∧ (fun x : Int => (Lit.int .i64 x).wf = true) x.f1) Try.underlying36 (by kernel_rfl) el57 h
  exact ⟨z, ⟨a, c, rfl, l, C⟩, L, G⟩
theorem el38 {H : Type} {enc : TypeId × Value → H} {w : World} {base : Nat} {spare : Nat → Bool} {held : Bool} : ∀ m cs (y : DataW H × List MemPlace), DataW.trod enc Try.prog w base spare held m 38 cs = some y → ∃ x, (k38).K w x cs ∧ (fun x => (fun x : Int => (Lit.int .i64 x).wf = true) x.f0 ∧ (fun x : Int => (Lit.int .i64 x).wf = true) x.f1 ∧ (fun x : Int => (Lit.int .i64 x).wf = true) x.f2 ∧ (fun x => x.length ≤ maxLen ∧ ∀ y ∈ x, (fun x => (fun x : Int => (Lit.int .i64 x).wf = true) x.f0 ∧ (fun x : Int => (Lit.int .i64 x).wf = true) x.f1) y) x.f3) x := fun m cs y h => by
  obtain ⟨xs, n, _, rfl, hl, hlen, hf⟩ := DataW.trod_struct Try.underlying38 h
  rw [show Try.prog.cellsOf 38 = 4 from by kernel_rfl] at hl
  have e0 : DataW.trod enc Try.prog w base spare held n 3 (List.take (Try.prog.cellsOf 3) (List.drop 0 cs)) = xs[0]? := hf 0 _ rfl
  rw [show Try.prog.cellsOf 3 = 1 from by kernel_rfl] at e0
  have e1 : DataW.trod enc Try.prog w base spare held n 3 (List.take (Try.prog.cellsOf 3) (List.drop 1 cs)) = xs[1]? := hf 1 _ rfl
  rw [show Try.prog.cellsOf 3 = 1 from by kernel_rfl] at e1
  have e2 : DataW.trod enc Try.prog w base spare held n 2 (List.take (Try.prog.cellsOf 2) (List.drop 2 cs)) = xs[2]? := hf 2 _ rfl
  rw [show Try.prog.cellsOf 2 = 1 from by kernel_rfl] at e2
  have e3 : DataW.trod enc Try.prog w base spare held n 36 (List.take (Try.prog.cellsOf 36) (List.drop 3 cs)) = xs[3]? := hf 3 _ rfl
  rw [show Try.prog.cellsOf 36 = 1 from by kernel_rfl] at e3
  replace hlen : xs.length = 4 := hlen
  clear hf h
  match cs, hl, xs, hlen with
  | [u0, u1, u2, u3], _, [y0, y1, y2, y3], _ =>
    obtain ⟨n0, q0, _, w0⟩ := DataW.trod_int Try.underlying3 e0
    simp at q0
    subst q0
    obtain ⟨n1, q1, _, w1⟩ := DataW.trod_int Try.underlying3 e1
    simp at q1
    subst q1
    obtain ⟨n2, q2, _, w2⟩ := DataW.trod_int Try.underlying2 e2
    simp at q2
    subst q2
    obtain ⟨n3, a3, c3, q3, l3, _, C3, L3, G3⟩ := open_kd z57 (k57) (fun x => (fun x : Int => (Lit.int .i64 x).wf = true) x.f0 ∧ (fun x : Int => (Lit.int .i64 x).wf = true) x.f1) Try.underlying36 (by kernel_rfl) el57 e3
    simp at q3
    subst q3
    exact ⟨⟨n0, n1, n2, n3⟩, k38_mk w _ l3 C3, w0, w1, w2, ⟨L3, G3⟩⟩
theorem own : ownKnob Try.prog.godebug = none := by kernel_rfl
theorem laidOut : laidOutB Try.prog = true := by kernel_rfl

set_option maxRecDepth 100000 in
theorem lifted (os : Os) (started : os.Started) (H : Type) (enc : TypeId × Value → H) :
    ReturnsInHanded {} Try.checked os 5 .any (Rows.holdKeepsSpec.pre6 enc Try.prog Try.f5 Rows.holdKeepsRow.domain false) (Rows.holdKeepsSpec.post enc Try.prog Try.f5 false true false false) := by
  refine returnsInHanded_of_change_sized (C := Try.checked) own started (by kernel_rfl) Try.func5
    (ChangeSpec.witness6 (enc := enc) (C := Try.checked) false ⟨#[], #[.slice none 0 0], []⟩ 8 (by kernel_rfl) (by kernel_rfl) (by kernel_rfl) (by kernel_rfl)) ?_
  intro W base args ds gs before hval0 hW hcnd hsz0 _
  have hsz : (DataW.weightsEach Try.prog (Try.f5.params.toList ++ Rows.holdKeepsSpec.plain.varTypes Try.prog) (ds ++ gs)).all (· ≤ reachBytes) = true := hsz0
  have hval : ∀ (j : Nat) t v, Try.f5.params[j]? = some t → args[j]? = some v → Value.okWide Try.prog W .any base t v := hval0
  have hW' := hW
  obtain ⟨p, q, hA0, hV, rfl, hfz, hnd⟩ := hW
  have hA : DataW.TrodAll enc Try.prog W 0 (fun _ => true) true Try.f5.params.toList args.toList ds p := hA0
  rw [Try.params5] at hA hval hsz
  obtain ⟨v0, vs0, d0, ds0, p0, q0, hargs, rfl, rfl, h0, r0⟩ := trodAll_cons hA
  obtain ⟨rfl, rfl, rfl⟩ := trodAll_nil r0
  obtain rfl : args = #[v0] := by cases args; simp_all
  obtain ⟨rfl, rfl⟩ := trodVars_none hV
  obtain ⟨a0, len0, cap0, rfl⟩ := okWide_slice Try.underlying22 (hval 0 22 v0 rfl rfl)
  have k0 := h0
  have lt0 : ∀ x ∈ p0, x.block < W.heap.size := by obtain ⟨m, hm⟩ := k0; exact DataW.trod_lt m _ _ _ hm
  obtain ⟨fuel0, hf0⟩ := h0
  obtain ⟨z0, A0, c0, e0, R0, N0, C0, L0, G0⟩ := open_kd z38 (k38) (fun x => (fun x : Int => (Lit.int .i64 x).wf = true) x.f0 ∧ (fun x : Int => (Lit.int .i64 x).wf = true) x.f1 ∧ (fun x : Int => (Lit.int .i64 x).wf = true) x.f2 ∧ (fun x => x.length ≤ maxLen ∧ ∀ y ∈ x, (fun x => (fun x : Int => (Lit.int .i64 x).wf = true) x.f0 ∧ (fun x : Int => (Lit.int .i64 x).wf = true) x.f1) y) x.f3) Try.underlying22 (by kernel_rfl) el38 hf0
  obtain ⟨rfl, rfl, rfl⟩ : a0 = A0 ∧ len0 = z0.length ∧ cap0 = c0 := by simpa [Value.cells] using e0
  clear hA0 hval0 hsz0 hsz
  refine (Led.keeps_walk W z0 _ _ R0 N0 C0 L0 (fun _ _ => trivial)).mono fun e W' ⟨he, bel⟩ => ?_
  subst he
  exact ⟨_, rfl, _, _, _, [], _, [], hW', trodAll_mk1 (shut_bool Try.underlying4 _), (trodAll_cons_mk (Below.trod laidOut (by kernel_rfl) (of_decide_eq_true (by kernel_rfl)) k0 bel lt0) trodAll_mk0), rfl, bel.frame _, fun h => by cases h⟩

theorem over : Rows.holdKeepsRow.holds Try.pinned (OpenSpec.ofChange Rows.holdKeepsSpec) :=
  OpenClaim.holds_of_wide 5 Try.f5 rfl rfl rfl rfl rfl rfl rfl ⟨rfl, rfl, rfl, rfl, rfl⟩ rfl rfl rfl rfl rfl (by kernel_rfl) Try.func5 (by kernel_rfl)
    (of_decide_eq_true (by kernel_rfl)) (by unfold Func.isWrapper; first | (rw [if_pos (by decide +kernel)]; kernel_rfl) | (rw [if_neg (by decide +kernel)]; exact ⟨rfl, rfl⟩))
    (fun os started H enc _ => lifted os started H enc)
end Go.Proofs.Ytmdacfgofilbdaa.holdKeepsRow
namespace Go.Proofs.Ytmdacfgofilbdaa
theorem holdKeeps_holds : Rows.HoldKeepsSaid := holdKeepsRow.over
#print axioms holdKeeps_holds
end Go.Proofs.Ytmdacfgofilbdaa
