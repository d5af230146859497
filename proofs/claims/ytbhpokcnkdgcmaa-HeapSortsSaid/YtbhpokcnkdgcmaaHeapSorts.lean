/- HeapSorts. -/
import Derived.Test.YtbhpokcnkdgcmaaHeapSortsA
import Derived.Test.YtbhpokcnkdgcmaaHeapSortsB
import Derived.Test.YtbhpokcnkdgcmaaHeapSortsC
import Derived.Deep.RegionHeld3
set_option linter.unusedSimpArgs false
set_option linter.unusedVariables false
namespace Go.Proofs.Ytbhpokcnkdgcmaa.HeapP
open Go.RowKit Go.Shelf Go.Proofs.Ytbhpokcnkdgcmaa.HeapL
attribute [local go_sem] Oper.semAt_some

set_option maxRecDepth 100000 in
set_option maxHeartbeats 4000000 in
theorem sorts_walk (W : World) (sv : Value) (zs : List (Int × Int)) (hR : Rd cv 2 W.heap.size W sv zs) (hL : zs.length ≤ maxLen) (_ : ∀ z ∈ zs, (Lit.int .i64 z.1).wf = true ∧ (Lit.int .i64 z.2).wf = true) (n : Int) (_ : (Lit.int .i64 n).wf = true) :
    Calls Try.prog 7 #[sv, .int .i64 n] W fun e w' => e = .returned (.bool true) ∧ Below W.heap.size W w' := by
  by_cases hl : zs.length ≤ 200
  · by_cases h0 : n < 0
    · exact sorts_neg W sv zs hR hL ‹_› n hl h0
    · by_cases h1 : n ≤ (zs.length : Int)
      · exact sorts_in W sv zs hR hL ‹_› n hl (by omega) h1
      · exact sorts_over W sv zs hR hL ‹_› n hl (by omega)
  · obtain ⟨a, cap, rfl, -⟩ := Rd.cells hR
    unfold maxLen at hL
    have hl' : (200 : Int) < (zs.length : Int) := by omega
    go_enter Try.func7, Try.ntmps7
    go_wp2_with fail
    refine (HeapI.alive_any W).mono ?_; rintro e w1 ⟨rfl, hB1⟩
    go_wp2_with fail
    go_ret
    exact ⟨rfl, hB1⟩

end Go.Proofs.Ytbhpokcnkdgcmaa.HeapP
