/- the document's answer of layer 13: Same, quietly. -/
import Derived.Test.YtbhpokcnkdgcmaaHeapRef2
set_option linter.unusedSimpArgs false
set_option linter.unusedVariables false
namespace Go.Proofs.Ytbhpokcnkdgcmaa.HeapP
open Go.RowKit Go.Shelf Go.Proofs.Ytbhpokcnkdgcmaa.HeapL
attribute [local go_sem] Oper.semAt_some

set_option maxRecDepth 100000 in
set_option maxHeartbeats 4000000 in
theorem same_q (W : World) (sv su : Value) (zs : List (Int × Int)) (hsm : zs.length < 1099511627776) (hR : Rd cv 2 W.heap.size W sv zs) (hU : Rd cv 2 W.heap.size W su zs) :
    Calls Try.prog 38 #[sv, su] W fun e w' => e = .returned (.bool true) ∧ ∃ m, w' = W.drewN m := by
  obtain ⟨a, cap, rfl, hc⟩ := Rd.cells hR
  obtain ⟨a', cap', rfl, hc'⟩ := Rd.cells hU
  clear hR hU
  go_enter Try.func38, Try.ntmps38
  go_wp2_with fail
  go_loopw [5] (fun i wr => ∃ j : Nat, j ≤ zs.length ∧ i = .int .i64 j ∧ ∃ m, wr = W.drewN m)
    (fun i _ => zs.length - (intOf i).toNat)
  case atStart => exact ⟨0, Nat.zero_le _, rfl, 0, rfl⟩
  case round =>
    obtain ⟨j, hj, rfl, m, rfl⟩ := hrel
    by_cases hjl : j < zs.length
    · obtain ⟨z, hz⟩ : ∃ z, zs[j] = z := ⟨_, rfl⟩
      obtain ⟨b, off, rfl, hlt, z0, z1⟩ := hc j z (by rw [List.getElem?_eq_getElem hjl, hz])
      obtain ⟨b', off', rfl, hlt2, z0', z1'⟩ := hc' j z (by rw [List.getElem?_eq_getElem hjl, hz])
      obtain ⟨zk, zv⟩ := z
      clear hc hc' hz
      have j0 : (0 : Int) ≤ (j : Int) := Int.natCast_nonneg _
      have j1 : (j : Int) < (zs.length : Int) := by omega
      have j3 : (j : Int) ≤ 9223372036854775807 := by omega
      go_wp2_with fail
      go_region
      go_wp2_with fail
      go_roundw
      case rel => exact ⟨j + 1, by omega, by simp, m + 1, rfl⟩
      case measure => simp [intOf]; omega
    · obtain rfl : j = zs.length := by omega
      clear hc hc'
      go_wp2_with fail
      go_ret
      exact ⟨rfl, m, rfl⟩


end Go.Proofs.Ytbhpokcnkdgcmaa.HeapP
