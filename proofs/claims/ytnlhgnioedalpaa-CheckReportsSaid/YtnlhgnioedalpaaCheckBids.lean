/- CheckBids: whether all bids may be, and which was the last one, is as the document says. -/
import Derived.Test.YtnlhgnioedalpaaChkAl
import Derived.Test.YtnlhgnioedalpaaChkD
import Derived.Test.YtnlhgnioedalpaaPCheckBidsx0
set_option linter.unusedSimpArgs false
set_option linter.unusedVariables false
namespace Go.Proofs.Ytnlhgnioedalpaa.Pri
open Go.RowKit Go.Proofs.YtnlhgnioedalpaaW.PrintWords Go.Proofs.Ytnlhgnioedalpaa.PPricePlays Go.Maps
attribute [local go_sem] Oper.semAt_some

/-- a store, and the document's entries, and what came in -/
structure CB (W : World) (p : Nat) (vx vb vn : Value) (P bs now : List En) (W' : World) : Prop where
  s : SR W' p P
  x : PE W' vx P
  b : PE W' vb bs
  n : PE W' vn now
  bel : Below W.heap.size W W'
theorem CB.below {W : World} {p : Nat} {vx vb vn : Value} {P bs now : List En} {A B : World} (h : CB W p vx vb vn P bs now A) (hb : Below A.heap.size A B) : CB W p vx vb vn P bs now B := ⟨h.s.below hb, h.x.below hb, h.b.below hb, h.n.below hb, h.bel.trans (hb.mono h.bel.size)⟩
/-- a slice of bids that came in -/
theorem pb_row {W : World} {z : List (Go.Proofs.Ytnlhgnioedalpaa.PCheckBids.S57)} {A : Option Addr} {c : Nat} (hc : z.length ≤ c) (hA : A = none → c = 0) (hC : Go.Proofs.Ytnlhgnioedalpaa.PCheckBids.k57.C W A z.length z) : PE W (.slice A z.length c) (z.map (fun x => (x.f0, x.f1))) := by
  refine ⟨A, c, by rw [List.length_map], by rw [List.length_map]; exact hc, hA, ?_⟩
  rw [List.length_map]
  refine ⟨by simp, hC.2.1, fun hpos => ?_⟩
  obtain ⟨a, rfl, hr⟩ := hC.2.2 hpos
  refine ⟨a, rfl, fun j x hx => ?_⟩
  rw [List.getElem?_map, List.getElem?_map] at hx
  cases hq : z[j]? with
  | none => rw [hq] at hx; simp at hx
  | some q =>
    rw [hq] at hx
    obtain ⟨cs, hl, hk, hcc⟩ := hr j q hq
    obtain rfl := Go.Proofs.Ytnlhgnioedalpaa.PCheckBids.k57_open hk
    obtain rfl : (⟨q.f0, q.f1⟩ : S41) = x := by simpa [toE] using hx
    exact ⟨_, hl, k41_mk W _, hcc⟩
theorem pb_row41 {W : World} {z : List (Go.Proofs.Ytnlhgnioedalpaa.PCheckBids.S41)} {A : Option Addr} {c : Nat} (hc : z.length ≤ c) (hA : A = none → c = 0) (hC : Go.Proofs.Ytnlhgnioedalpaa.PCheckBids.k41.C W A z.length z) : PE W (.slice A z.length c) (z.map (fun x => (x.f0, x.f1))) := by
  refine ⟨A, c, by rw [List.length_map], by rw [List.length_map]; exact hc, hA, ?_⟩
  rw [List.length_map]
  refine ⟨by simp, hC.2.1, fun hpos => ?_⟩
  obtain ⟨a, rfl, hr⟩ := hC.2.2 hpos
  refine ⟨a, rfl, fun j x hx => ?_⟩
  rw [List.getElem?_map, List.getElem?_map] at hx
  cases hq : z[j]? with
  | none => rw [hq] at hx; simp at hx
  | some q =>
    rw [hq] at hx
    obtain ⟨cs, hl, hk, hcc⟩ := hr j q hq
    obtain rfl := Go.Proofs.Ytnlhgnioedalpaa.PCheckBids.k41_open hk
    obtain rfl : (⟨q.f0, q.f1⟩ : S41) = x := by simpa [toE] using hx
    exact ⟨_, hl, k41_mk W _, hcc⟩
end Go.Proofs.Ytnlhgnioedalpaa.Pri
