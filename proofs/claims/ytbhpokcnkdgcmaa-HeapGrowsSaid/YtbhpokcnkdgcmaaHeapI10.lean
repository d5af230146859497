/- slices.Values at the element type of heap I. -/
import Derived.Test.YtbhpokcnkdgcmaaHeapI9
import Derived.Test.YtbhpokcnkdgcmaaSeq
set_option linter.unusedSimpArgs false
set_option linter.unusedVariables false
namespace Go.Proofs.Ytbhpokcnkdgcmaa.HeapI
open Go.RowKit Go.Shelf Go.Proofs.Ytbhpokcnkdgcmaa.HeapL
attribute [local go_sem] Oper.semAt_some

def cv (x : Int) : List Value := [.int .i64 x]
theorem cv_length (x : Int) : (cv x).length = 1 := rfl

set_option maxHeartbeats 400000 in
theorem values_any (W : World) (a : Option Addr) (len cap : Nat) :
    Calls Try.prog 87 #[.slice a len cap] W fun e w' => e = .returned (.func (.func 117) #[] #[.pointer (some ⟨W.heap.size, 0, none⟩)]) ∧ w' = W.alloc (.cells #[.slice a len cap] 110) := by
  go_enter Try.func87, Try.ntmps87
  go_wp2_with fail
  go_ret
  exact ⟨rfl, rfl⟩

set_option maxRecDepth 100000 in
set_option maxHeartbeats 4000000 in
theorem values_gives (W0 : World) (B n₀ : Nat) (sv : Value) (zs : List Int) (hsm : zs.length < 9223372036854775807) (hB : B < n₀) (hbx : Boxed W0 B 110 sv) (hR : Rd cv 1 n₀ W0 sv zs) :
    Gives 117 #[.pointer (some ⟨B, 0, none⟩)] n₀ W0 ev zs (0 : Int) := by
  refine ⟨enters_of Try.func117 (by kernel_rfl) rfl, ?_⟩
  intro n Inv hI hA l Rc JX W1 hRc hJX hR0 hS0 hY
  refine callsIn_of_wp Try.func117 rfl trivial ?_ rfl
  simp only [Try.ntmps117, List.size_toArray, List.length_cons, List.length_nil, Nat.reduceAdd, Nat.reduceSub, Array.replicate_succ, Array.replicate_zero, List.push_toArray, List.append_toArray, List.nil_append, List.cons_append]
  have cb : W1.cell? ⟨B, 0, none⟩ = some sv := ((hI _ _ hS0).cell (p := ⟨B, 0, none⟩) hB).trans hbx.cell
  rcases hR with ⟨a, cap, rfl, rfl⟩ | ⟨b, off, cap, rfl, hlt, hc⟩
  · gi_wp2_with fail
    gi_loopw [7] (fun i wr => i = .int .i64 0 ∧ Rc wr ∧ Inv 0 wr) (fun _ _ => 0)
    case atStart => exact ⟨rfl, hR0, hS0⟩
    case round =>
      obtain ⟨rfl, hr, hi⟩ := hrel
      gi_wp2_with fail
      go_end0
      exact ⟨⟨_, rfl⟩, .inl ⟨hi, hr⟩⟩
  · gi_wp2_with fail
    gi_loopw [7] (fun i wr => ∃ k : Nat, k ≤ zs.length ∧ i = .int .i64 k ∧ Rc wr ∧ Inv k wr) (fun i _ => zs.length - (intOf i).toNat)
    case atStart => exact ⟨0, Nat.zero_le _, rfl, hR0, hS0⟩
    case round =>
      obtain ⟨k, hk, rfl, hr, hi⟩ := hrel
      have hb := hI _ _ hi
      have k0 : (0 : Int) ≤ (k : Int) := Int.natCast_nonneg _
      have k9 : (k : Int) ≤ 9223372036854775807 := by omega
      by_cases hlt2 : k < zs.length
      · have kl : (k : Int) < (zs.length : Int) := by omega
        obtain ⟨kx, hx⟩ : ∃ x, zs[k] = x := ⟨_, rfl⟩
        have hx2 : zs[k]? = some kx := by rw [List.getElem?_eq_getElem hlt2, hx]
        have hgd : zs.getD k (0 : Int) = kx := by rw [List.getD_eq_getElem?_getD, hx2]; rfl
        have a1 : ∀ c v, (cv kx)[c]? = some v → wr.cell? ⟨b, off + k * 1 + c, none⟩ = some v := fun c v hv => (hb.cell (p := ⟨b, off + k * 1 + c, none⟩) hlt).trans (hc k _ hx2 c v hv)
        have q1 : wr.cell? ⟨b, off + k * 1, none⟩ = some (.int .i64 kx) := a1 0 _ rfl
        rw [Nat.mul_one] at q1
        have hi2 := hi
        have hr2 := hr
        obtain ⟨fn, tmps, assign, body, hy, hRn⟩ := hY k _ ⟨hlt2, hi2⟩ hr2
        rw [hgd] at hy
        dsimp only [ev] at hy
        clear a1 hx hx2 hgd hc
        gi_wp2_with fail
        refine ⟨fun h => (by cases h), ?_⟩
        refine hRn.mono ?_
        rintro e W3 (⟨rfl, hi3, hr3⟩ | ⟨rfl, hJ⟩)
        · gi_wp2_with fail
          go_roundw
          case rel => exact ⟨k + 1, by omega, by simp, hr3, hi3⟩
          case measure => simp [intOf]; omega
        · gi_wp2_with fail
          refine bodyPost_ret (results_none rfl _ _ _) rfl ?_
          exact ⟨⟨_, rfl⟩, .inr hJ⟩
      · obtain rfl : k = zs.length := by omega
        gi_wp2_with fail
        go_end0
        exact ⟨⟨_, rfl⟩, .inl ⟨hi, hr⟩⟩

end Go.Proofs.Ytbhpokcnkdgcmaa.HeapI
