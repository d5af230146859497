/- PriceGrows: for a set no less is asked than for what lies within it. -/
import Derived.Test.YtnlhgnioedalpaaPriV
set_option linter.unusedSimpArgs false
set_option linter.unusedVariables false
namespace Go.Proofs.Ytnlhgnioedalpaa.Pri
open Go.RowKit Go.Proofs.YtnlhgnioedalpaaW.PrintWords Go.Proofs.Ytnlhgnioedalpaa.PPricePlays
attribute [local go_sem] Oper.semAt_some

theorem U_wf {x : Int} (h : (Lit.int .u64 x).wf = true) : U x := by
  unfold Lit.wf at h
  rw [Bool.and_eq_true, decide_eq_true_eq, decide_eq_true_eq] at h
  have h2 : x ≤ 18446744073709551615 := h.2
  exact ⟨h.1, by omega⟩
end Go.Proofs.Ytnlhgnioedalpaa.Pri
