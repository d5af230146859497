/- HeapSorts. -/
import Derived.Test.YtbhpokcnkdgcmaaHeapRef2
import Derived.Test.YtbhpokcnkdgcmaaHeapAl
import Derived.Deep.RegionHeld3
set_option linter.unusedSimpArgs false
set_option linter.unusedVariables false
namespace Go.Proofs.Ytbhpokcnkdgcmaa.HeapP
open Go.RowKit Go.Shelf Go.Proofs.Ytbhpokcnkdgcmaa.HeapL
attribute [local go_sem] Oper.semAt_some

theorem own_cap {W : World} {base : Nat} {e : TypeId} {size n cap : Nat} {a : Option Addr} {xs : List Value} (h : W.ownsRow base e size (.slice a n cap) n xs) : n ≤ cap := by
  rcases h.2 with ⟨e, h0⟩ | ⟨g, c, cur, e, _, _, hc, _⟩
  · omega
  · injection e with _ _ e3
    subst e3
    exact hc
theorem gives_of {W W2 : World} {sv : Value} {zs : List (Int × Int)} (hsm : zs.length < 1099511627776) (hR : Rd cv 2 W.heap.size W sv zs) (hw : W2 = W.alloc (.cells #[sv] 39)) : Gives 98 #[.pointer (some ⟨W.heap.size, 0, none⟩)] W2.heap.size W2 ev zs (0, 0) := by
  have hz : W2.heap.size = W.heap.size + 1 := by rw [hw]; simp
  refine values_gives W2 W.heap.size W2.heap.size sv zs (by omega) (by omega) ?_ ?_
  · rw [hw]; exact Blk.new W [sv] _
  · have hb : Below W.heap.size W W2 := by rw [hw]; exact (Below.refl _ W).alloc (Nat.le_refl _) _
    exact (hR.below hb).mono (by omega)

theorem Rd.take {W : World} {n₀ : Nat} {a : Option Addr} {n cap k : Nat} {zs : List (Int × Int)} (hR : Rd cv 2 n₀ W (.slice a n cap) zs) (hk : k ≤ zs.length) : Rd cv 2 n₀ W (.slice a k cap) (zs.take k) := by
  have hl : (zs.take k).length = k := by rw [List.length_take]; omega
  rcases hR with ⟨a', cap', e, rfl⟩ | ⟨b, off, cap', e, hlt, hc⟩
  · have e0 : k = 0 := by simpa using hk
    subst e0
    injection e with e1 e2 e3
    subst e1; subst e3
    exact .inl ⟨_, _, rfl, rfl⟩
  · injection e with e1 e2 e3
    subst e1; subst e3
    refine .inr ⟨b, off, cap, by rw [hl], hlt, fun j x hx c v hv => hc j x ?_ c v hv⟩
    rw [List.getElem?_take] at hx
    split at hx
    · exact hx
    · cases hx


end Go.Proofs.Ytbhpokcnkdgcmaa.HeapP
