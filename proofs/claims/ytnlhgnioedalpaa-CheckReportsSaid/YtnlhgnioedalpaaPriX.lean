/- price: the law's play: a store and the document's entries behind rows of puts and rises. -/
import Derived.Test.YtnlhgnioedalpaaPriR
import Derived.Test.YtnlhgnioedalpaaPriceGrows
import Derived.Deep.DeepCutAuto
set_option linter.unusedSimpArgs false
set_option linter.unusedVariables false
namespace Go.Proofs.Ytnlhgnioedalpaa.Pri
open Go.RowKit Go.Proofs.YtnlhgnioedalpaaW.PrintWords Go.Proofs.Ytnlhgnioedalpaa.PPricePlays
attribute [local go_sem] Oper.semAt_some

/-- the document's row, of the call's own -/
def RX (W : World) (b : Nat) (v : Value) (l : List En) : Prop := Kd.R k41 tE W b (fun k => v.ownBlock = some k) v (l.map toE)
theorem k41_flat {W : World} {b : Nat} {ok1 ok2 : Nat → Prop} {x : S41} {cs : List Value} (h : k41.M W b ok1 x cs) : k41.M W b ok2 x cs := by
  obtain ⟨_, _, rfl, rfl, rfl⟩ := h
  exact k41_mkM W b ok2 x
theorem RX.of {W : World} {b : Nat} {ok : Nat → Prop} {v : Value} {l : List En} (h : Kd.R k41 tE W b ok v (l.map toE)) : RX W b v l := Kd.R_flat k41_flat h (fun k hk _ => hk)
theorem RX.lt {W : World} {b : Nat} {v : Value} {l : List En} (h : RX W b v l) {k : Nat} (hk : v.ownBlock = some k) : k < W.heap.size := ((Kd.R_bound h).1 k hk).2.2.1
theorem RX.pe {W : World} {b : Nat} {v : Value} {l : List En} (h : RX W b v l) : PE W v l := pe_R h
theorem RX.nil (W : World) (b : Nat) (hb : b ≤ W.heap.size) : RX (W.alloc (.cells #[] tE)) b (.slice (some ⟨W.heap.size, 0, none⟩) 0 0) [] :=
  ⟨fun k hk => hk, [], World.ownsRow_lit (base := b) (e := tE) (size := 2) W #[] 0 hb (by decide) rfl, Reps.none _ _⟩
/-- a store that holds l and the document's row that holds m, apart -/
structure PX (W0 : World) (p : Nat) (l m : List En) (vx : Value) (W : World) : Prop where
  s : SR W p l
  x : RX W W0.heap.size vx m
  off : ∀ v, Blk W p tS [v] → ∀ k, v.ownBlock = some k → k < W.heap.size ∧ vx.ownBlock ≠ some k
  bel : Below W0.heap.size W0 W
  new : W0.heap.size ≤ p
theorem PX.below {W0 : World} {p : Nat} {l m : List En} {vx : Value} {A B : World} (h : PX W0 p l m vx A) (hb : Below A.heap.size A B) : PX W0 p l m vx B :=
  ⟨h.s.below hb, Kd.R_below h.x hb, fun v hv k hk => by
    have := h.off v ((hb.block p h.s.pr.lt).symm.trans hv) k hk
    exact ⟨Nat.lt_of_lt_of_le this.1 hb.size, this.2⟩, h.bel.trans (hb.mono h.bel.size), h.new⟩
theorem PX.store {W0 : World} {p : Nat} {l l' m : List En} {vx : Value} {A B : World} (h : PX W0 p l m vx A) (hs : SR B p l') (hg : A.grownBy B (some p)) (hn : NF A B p) : PX W0 p l' m vx B := by
  obtain ⟨v0, hb0, _⟩ := h.s.pr
  have hne : ∀ k, vx.ownBlock = some k → some k ≠ some p := fun k hk e => by
    injection e with e
    subst e
    exact Kd.R_ne h.x hb0 (by decide) hk.symm
  refine ⟨hs, Kd.R_grown h.x hg (fun k hk => hne k hk), fun v hv k hk => ?_, h.bel.grown hg h.bel.size (fun r e => by cases e; exact h.new), h.new⟩
  rcases hn v hv with h1 | h1
  · exact ⟨(h1 k hk).2, fun e => by have := h.x.lt e; have := (h1 k hk).1; omega⟩
  · have := h.off v h1 k hk
    exact ⟨Nat.lt_of_lt_of_le this.1 hg.size, this.2⟩
theorem PE.kept {A B : World} {v : Value} {l : List En} {P0 : Nat → Prop} (h : PE A v l) (hk : Kept A B P0) (hv : ∀ k, v.ownBlock = some k → ¬ P0 k) : PE B v l := by
  have hat := fun j q (hj : l[j]? = some q) => h.at hj
  obtain ⟨a, c, rfl, h1, h2, h3⟩ := h
  refine ⟨a, c, rfl, h1, h2, h3.1, h3.2.1, fun hpos => ?_⟩
  obtain ⟨a, rfl, hr⟩ := h3.2.2 hpos
  obtain ⟨b', off, c', e, hlt, _, _⟩ := hat 0 _ (List.getElem?_eq_getElem (by simpa using hpos))
  injection e with e _ _
  injection e with e
  subst e
  refine ⟨_, rfl, fun j q hq => ?_⟩
  obtain ⟨cs, hl, hkk, hc⟩ := hr j q hq
  obtain rfl := k41_open hkk
  refine ⟨_, hl, k41_mk B q, fun i u hu => ?_⟩
  have hcu := hc i u hu
  rw [addr_add] at hcu ⊢
  have e : B.cell? ⟨b', off + (j * k41.sz + i), none⟩ = A.cell? ⟨b', off + (j * k41.sz + i), none⟩ := by
    unfold World.cell?
    rw [hk.2 _ hlt (hv b' rfl)]
  rw [e]; exact hcu
end Go.Proofs.Ytnlhgnioedalpaa.Pri
