/- what a sequence hands out; a slice that is read. -/
import Derived.Test.YtmdacfgofilbdaaRange
import Derived.RangeFuncLeaves
import Derived.Shelf.Abstract
import Derived.Shelf.RegionOpen
import Derived.OwnWalkIn
import Derived.TacticsInMore
import Derived.LoopNIn
import Derived.LoopIn
import Derived.Test.YtmdacfgofilbdaaRows
namespace Go.Proofs.Ytmdacfgofilbdaa
open Go.RowKit

/-- called with a yield that serves it, whatever else turns but what lies below n₀: all of zs come, in order -/
def Gives (G : Nat) (lb : Array Value) (n₀ : Nat) (W0 : World) {α : Type} (ev : α → Value) (zs : List α) (d : α) : Prop :=
  (∀ args w, (callFunc G args).run Try.prog w = .ok (.enter G args) w) ∧
  ∀ (n : Nat) (Inv : Nat → World → Prop), (∀ k W, Inv k W → Below n₀ W0 W) → (∀ k W o, Inv k W → Inv k (W.alloc o)) →
    IterOk Fence.wide n Try.prog G lb (fun k : Nat => #[ev (zs.getD k d)]) (Inv 0) (fun k W => k < zs.length ∧ Inv k W) (fun k W => Inv (k + 1) W) (Inv zs.length)
theorem Gives.later {G : Nat} {lb : Array Value} {n₀ : Nat} {W0 W1 : World} {α : Type} {ev : α → Value} {zs : List α} {d : α} (h : Gives G lb n₀ W0 ev zs d) (hb : Below n₀ W0 W1) : Gives G lb n₀ W1 ev zs d :=
  ⟨h.1, fun n Inv h1 h2 => h.2 n Inv (fun k W hk => hb.trans (h1 k W hk)) h2⟩

/-- the slice value sv reads as zs, in a block below n₀; each element of n cells -/
def Rd {α : Type} (cv : α → List Value) (n n₀ : Nat) (W : World) (sv : Value) (zs : List α) : Prop :=
  (∃ a cap, sv = .slice a 0 cap ∧ zs = []) ∨ ∃ b off cap, sv = .slice (some ⟨b, off, none⟩) zs.length cap ∧ b < n₀ ∧ ∀ j x, zs[j]? = some x → ∀ c v, (cv x)[c]? = some v → W.cell? ⟨b, off + j * n + c, none⟩ = some v
theorem Rd.below {α : Type} {cv : α → List Value} {n n₀ : Nat} {A B : World} {sv : Value} {zs : List α} (h : Rd cv n n₀ A sv zs) (hb : Below n₀ A B) : Rd cv n n₀ B sv zs := by
  rcases h with e | ⟨b, off, cap, e, hlt, hc⟩
  · exact .inl e
  · exact .inr ⟨b, off, cap, e, hlt, fun j x hx c v hv => (hb.cell (p := ⟨b, off + j * n + c, none⟩) hlt).trans (hc j x hx c v hv)⟩
theorem Rd.mono {α : Type} {cv : α → List Value} {n n₀ n₁ : Nat} {A : World} {sv : Value} {zs : List α} (h : Rd cv n n₀ A sv zs) (hn : n₀ ≤ n₁) : Rd cv n n₁ A sv zs := by
  rcases h with e | ⟨b, off, cap, e, hlt, hc⟩
  · exact .inl e
  · exact .inr ⟨b, off, cap, e, Nat.lt_of_lt_of_le hlt hn, hc⟩
/-- a row of the call's own is read -/
theorem Rd.of_own {α : Type} {cv : α → List Value} {n base : Nat} {e : TypeId} {W : World} {sv : Value} {zs : List α} (hcv : ∀ x, (cv x).length = n) (d : α) (h : W.ownsRow base e n sv zs.length (cellsOf cv zs)) : Rd cv n W.heap.size W sv zs := by
  have h0 := h
  rcases h0.2 with ⟨rfl, hz⟩ | ⟨g, cap, cur, rfl, hb, hg, hc, _⟩
  · exact .inl ⟨none, 0, rfl, List.eq_nil_of_length_eq_zero hz⟩
  · refine .inr ⟨g, 0, cap, rfl, (Array.getElem?_eq_some_iff.1 hg).1, fun j x hx c v hv => ?_⟩
    have hj : j < zs.length := (List.getElem?_eq_some_iff.1 hx).1
    have hcl : c < n := by have := (List.getElem?_eq_some_iff.1 hv).1; rw [hcv] at this; exact this
    have hm : j * n + c < zs.length * n := by
      have := Nat.mul_le_mul_right n hj
      rw [Nat.succ_mul] at this
      omega
    rw [Nat.zero_add, h.cellAt (j * n + c) hm, cellsOf_at hcv zs d hj hcl]
    rw [List.getD_eq_getElem?_getD, hx]
    exact hv

end Go.Proofs.Ytmdacfgofilbdaa
