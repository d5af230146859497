/- PriceGrows: for a set no less is asked than for what lies within it. -/
import Derived.Test.YtnlhgnioedalpaaPriV
set_option linter.unusedSimpArgs false
set_option linter.unusedVariables false
namespace Go.Proofs.Ytnlhgnioedalpaa.Pri
open Go.RowKit Go.Proofs.YtnlhgnioedalpaaW.PrintWords Go.Proofs.Ytnlhgnioedalpaa.PPricePlays
attribute [local go_sem] Oper.semAt_some

theorem put_no {es : List En} {s a : Int} (h : okP es s a = false) : putP es s a = es := by unfold putP; rw [h]; rfl
theorem U_wf {x : Int} (h : (Lit.int .u64 x).wf = true) : U x := by
  unfold Lit.wf at h
  rw [Bool.and_eq_true, decide_eq_true_eq, decide_eq_true_eq] at h
  have h2 : x ≤ 18446744073709551615 := h.2
  exact ⟨h.1, by omega⟩
def frE (x : S41) : En := (x.f0, x.f1)
theorem frE_toE (z : List S41) : (z.map frE).map toE = z := by
  rw [List.map_map]
  exact List.map_id' z
theorem pe_row {W : World} {z : List S41} {A : Option Addr} {c : Nat} (hc : z.length ≤ c) (hA : A = none → c = 0) (hC : k41.C W A z.length z) : PE W (.slice A z.length c) (z.map frE) :=
  ⟨A, c, by rw [List.length_map], by rw [List.length_map]; exact hc, hA, by rw [frE_toE, List.length_map]; exact hC⟩
theorem ue_row {z : List S41} (hG : ∀ x ∈ z, (Lit.int .u64 x.f0).wf = true ∧ (Lit.int .i64 x.f1).wf = true) : UE (z.map frE) := fun e he => by
  obtain ⟨x, hx, rfl⟩ := List.mem_map.1 he
  exact U_wf (hG x hx).1
end Go.Proofs.Ytnlhgnioedalpaa.Pri
