/- the document's answer of layer 13: Of, Same; before. -/
import Derived.Test.YtbhpokcnkdgcmaaHeapRef
set_option linter.unusedSimpArgs false
set_option linter.unusedVariables false
namespace Go.Proofs.Ytbhpokcnkdgcmaa.HeapP
open Go.RowKit Go.Shelf Go.Proofs.Ytbhpokcnkdgcmaa.HeapL
attribute [local go_sem] Oper.semAt_some

/-- a slice that is read, in the form that walks take -/
theorem Rd.cells {W : World} {n₀ : Nat} {sv : Value} {zs : List (Int × Int)} (hR : Rd cv 2 n₀ W sv zs) : ∃ a cap, sv = .slice a zs.length cap ∧ ∀ j x, zs[j]? = some x → ∃ b off, a = some ⟨b, off, none⟩ ∧ b < n₀ ∧ W.cell? ⟨b, off + j * 2, none⟩ = some (.int .i64 x.1) ∧ W.cell? ⟨b, off + j * 2 + 1, none⟩ = some (.int .i64 x.2) := by
  rcases hR with ⟨a, cap, rfl, rfl⟩ | ⟨b, off, cap, rfl, hlt, hc⟩
  · exact ⟨_, _, rfl, fun j x hx => by simp at hx⟩
  · exact ⟨_, _, rfl, fun j x hx => ⟨b, off, rfl, hlt, hc j x hx 0 _ rfl, hc j x hx 1 _ rfl⟩⟩

set_option maxRecDepth 100000 in
set_option maxHeartbeats 4000000 in
theorem of_ref (W : World) (sv : Value) (zs : List (Int × Int)) (hsm : zs.length < 1099511627776) (hR : Rd cv 2 W.heap.size W sv zs) :
    Calls Try.prog 39 #[sv] W fun e w' => ∃ u, e = .returned u ∧ w'.ownsRow W.heap.size 37 2 u (sortV ltP zs).length (cellsOf cv (sortV ltP zs)) ∧ Below W.heap.size W w' := by
  obtain ⟨a, cap, rfl, hc⟩ := Rd.cells hR
  clear hR
  go_enter Try.func39, Try.ntmps39
  go_wp2_with fail
  go_loopw [3, 4] (fun o i wr => ∃ j : Nat, j ≤ zs.length ∧ i = .int .i64 j ∧ wr.ownsRow W.heap.size 37 2 o (sortV ltP (zs.take j)).length (cellsOf cv (sortV ltP (zs.take j))) ∧ Below W.heap.size W wr)
    (fun _ i _ => zs.length - (intOf i).toNat)
  case atStart => exact ⟨0, Nat.zero_le _, rfl, World.ownsRow_lit (base := W.heap.size) (e := 37) (size := 2) W #[] 0 (by simp) (by decide) rfl, (Below.refl _ W).alloc (Nat.le_refl _) _⟩
  case round =>
    obtain ⟨j, hj, rfl, hO, hB⟩ := hrel
    obtain ⟨oa, oc, rfl⟩ := own_slice hO
    have hbs := hB.size
    by_cases hjl : j < zs.length
    · obtain ⟨z, hz⟩ : ∃ z, zs[j] = z := ⟨_, rfl⟩
      obtain ⟨b, off, rfl, hlt, z0, z1⟩ := hc j z (by rw [List.getElem?_eq_getElem hjl, hz])
      have hsv : sortV ltP (zs.take (j + 1)) = insV ltP z (sortV ltP (zs.take j)) := by rw [sortV_take ltP zs (0, 0) hjl]; simp [hjl, hz]
      obtain ⟨zk, zv⟩ := z
      clear hc
      have y0 := (hB.cell (p := ⟨b, off + j * 2, none⟩) hlt).trans z0
      have y1 := (hB.cell (p := ⟨b, off + j * 2 + 1, none⟩) hlt).trans z1
      have hlt' : b < wr.heap.size := Nat.lt_of_lt_of_le hlt hB.size
      clear z0 z1
      have j0 : (0 : Int) ≤ (j : Int) := Int.natCast_nonneg _
      have j1 : (j : Int) < (zs.length : Int) := by omega
      have j3 : (j : Int) ≤ 9223372036854775807 := by omega
      have hp := Lib.hid (put_ref wr (.slice oa (sortV ltP (zs.take j)).length oc) (sortV ltP (zs.take j)) zk zv (by rw [sortV_length, List.length_take]; omega) (Rd.of_own cv_length (0, 0) hO))
      rw [← hsv] at hp
      clear hsv hz
      go_wp2_with fail
      refine hp.out.mono ?_; rintro e w2 ⟨u, rfl, hO2, hB2⟩
      go_wp2_with fail
      go_roundw
      case rel => exact ⟨j + 1, by omega, by simp, own_le hO2 hbs, hB.trans (hB2.mono hbs)⟩
      case measure => simp [intOf]; omega
    · obtain rfl : j = zs.length := by omega
      rw [List.take_length] at hO ⊢
      clear hc
      go_wp2_with fail
      go_ret
      exact ⟨_, rfl, hO, hB⟩

set_option maxRecDepth 100000 in
set_option maxHeartbeats 4000000 in
theorem same_true (W : World) (sv su : Value) (zs : List (Int × Int)) (hsm : zs.length < 1099511627776) (hR : Rd cv 2 W.heap.size W sv zs) (hU : Rd cv 2 W.heap.size W su zs) :
    Calls Try.prog 38 #[sv, su] W fun e w' => e = .returned (.bool true) ∧ Below W.heap.size W w' := by
  obtain ⟨a, cap, rfl, hc⟩ := Rd.cells hR
  obtain ⟨a', cap', rfl, hc'⟩ := Rd.cells hU
  clear hR hU
  go_enter Try.func38, Try.ntmps38
  go_wp2_with fail
  go_loopw [5] (fun i wr => ∃ j : Nat, j ≤ zs.length ∧ i = .int .i64 j ∧ Below W.heap.size W wr)
    (fun i _ => zs.length - (intOf i).toNat)
  case atStart => exact ⟨0, Nat.zero_le _, rfl, Below.refl _ _⟩
  case round =>
    obtain ⟨j, hj, rfl, hB⟩ := hrel
    have hbs := hB.size
    by_cases hjl : j < zs.length
    · obtain ⟨z, hz⟩ : ∃ z, zs[j] = z := ⟨_, rfl⟩
      obtain ⟨b, off, rfl, hlt, z0, z1⟩ := hc j z (by rw [List.getElem?_eq_getElem hjl, hz])
      obtain ⟨b', off', rfl, hlt2, z0', z1'⟩ := hc' j z (by rw [List.getElem?_eq_getElem hjl, hz])
      obtain ⟨zk, zv⟩ := z
      clear hc hc' hz
      have y0 := (hB.cell (p := ⟨b, off + j * 2, none⟩) hlt).trans z0
      have y1 := (hB.cell (p := ⟨b, off + j * 2 + 1, none⟩) hlt).trans z1
      have x0 := (hB.cell (p := ⟨b', off' + j * 2, none⟩) hlt2).trans z0'
      have x1 := (hB.cell (p := ⟨b', off' + j * 2 + 1, none⟩) hlt2).trans z1'
      have hlt' : b < wr.heap.size := Nat.lt_of_lt_of_le hlt hB.size
      have hlt2' : b' < wr.heap.size := Nat.lt_of_lt_of_le hlt2 hB.size
      clear z0 z1 z0' z1'
      have j0 : (0 : Int) ≤ (j : Int) := Int.natCast_nonneg _
      have j1 : (j : Int) < (zs.length : Int) := by omega
      have j3 : (j : Int) ≤ 9223372036854775807 := by omega
      go_wp2_with fail
      go_region_held3 (fun w' => w'.cell? ⟨b, off + j * 2, none⟩ = some (.int .i64 zk) ∧ w'.cell? ⟨b, off + j * 2 + 1, none⟩ = some (.int .i64 zv) ∧ w'.cell? ⟨b', off' + j * 2, none⟩ = some (.int .i64 zk) ∧ w'.cell? ⟨b', off' + j * 2 + 1, none⟩ = some (.int .i64 zv)) (go_keep) (fail)
      go_wp2_with fail
      go_roundw
      case rel => exact ⟨j + 1, by omega, by simp, hB.drew⟩
      case measure => simp [intOf]; omega
    · obtain rfl : j = zs.length := by omega
      clear hc hc'
      go_wp2_with fail
      go_ret
      exact ⟨rfl, hB⟩

set_option maxHeartbeats 1000000 in
theorem before_bf (b p : Nat) (W : World) : BF ltP b p W 31 #[] := by
  refine ⟨enters_of Try.func31 (by kernel_rfl) rfl, fun x y W' _ => ?_⟩
  obtain ⟨xk, xv⟩ := x
  obtain ⟨yk, yv⟩ := y
  show Calls Try.prog 31 #[.agg #[.int .i64 xk, .int .i64 xv], .agg #[.int .i64 yk, .int .i64 yv]] W' _
  go_enter Try.func31, Try.ntmps31
  go_wp2_with fail
  go_ret
  exact ⟨rfl, bel_alloc2 _ _ _⟩

end Go.Proofs.Ytbhpokcnkdgcmaa.HeapP
