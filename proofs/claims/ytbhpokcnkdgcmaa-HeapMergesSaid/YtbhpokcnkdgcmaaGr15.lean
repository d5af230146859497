/- Kd, laid together. -/
import Derived.Test.YtbhpokcnkdgcmaaGr01
import Derived.Test.YtbhpokcnkdgcmaaWWords
import Derived.Laws.AppendOwnNone
import Derived.Maps.AppendAt

/- rows that are read, in the print's words: opened out of what came in; handed to what goes over them. -/
set_option linter.unusedVariables false
namespace Go.Proofs.Ytbhpokcnkdgcmaa
open Go.RowKit Go.ChangeShapes Go.WideShapes Go.Proofs.YtbhpokcnkdgcmaaW.PrintWords

/-- a kind whose cells are all told by the thing itself -/
def flat {α : Type} (cv : α → List Value) (n : Nat) (h : ∀ x, (cv x).length = n) (h1 : ∀ x, ∀ u ∈ cv x, u.oneCell' = true) : Kd α where
  sz := n
  E := []
  K := fun _ x cs => cs = cv x
  M := fun _ _ _ x cs => cs = cv x
  K_len := fun e => by rw [e]; exact h _
  K_one := fun e u hu => by rw [e] at hu; exact h1 _ u hu
  K_below := fun _ h => h
  K_of_M := fun h => h
  M_mono := fun _ h => h
  M_bound := fun h => h
  M_move := fun _ h => h
  M_lower := fun _ h => h

section
variable {H : Type} {enc : TypeId × Value → H} {P : Program} {w : World} {base : Nat} {spare : Nat → Bool} {held : Bool}

theorem open_kd {α : Type} (dflt : α) (k : Kd α) (good : α → Prop) {t e : TypeId} {fuel : Nat} {cs : List Value} {x : DataW H × List MemPlace} (ht : P.underlying t = some (.slice e)) (hn : P.cellsOf e = k.sz)
    (he : ∀ m cs y, DataW.trod enc P w base spare held m e cs = some y → ∃ x, k.K w x cs ∧ good x)
    (h : DataW.trod enc P w base spare held fuel t cs = some x) : ∃ (zs : List α) (A : Option Addr) (c : Nat), cs = [.slice A zs.length c] ∧ zs.length ≤ c ∧ (A = none → c = 0) ∧ k.C w A zs.length zs ∧ zs.length ≤ maxLen ∧ ∀ z ∈ zs, good z := by
  rcases Deep.open_slice ht h with ⟨hv, _⟩ | ⟨a, len, cap, m, n, D, Pl, hv, hb, hl, hm, hmm, rfl, hc⟩
  · subst hv
    exact ⟨[], none, 0, rfl, by simp, fun _ => rfl, Kd.C_nil k w, by simp, by simp⟩
  · subst hv
    have hle : len ≤ m := by rw [hmm]; split <;> omega
    haveI : Inhabited α := ⟨dflt⟩
    obtain ⟨f, hf⟩ := Deep.choose_lt (n := len) (p := fun i x => (∃ cs, w.cells? base (a.add (i * k.sz)) k.sz = some cs ∧ k.K w x cs) ∧ good x) (fun i hi => by
      obtain ⟨cs, h1, h2⟩ := hc i (Nat.lt_of_lt_of_le hi hle)
      obtain ⟨x, hx, hg⟩ := he _ _ _ h2
      rw [hn] at h1
      exact ⟨x, ⟨cs, h1, hx⟩, hg⟩)
    have hlen : ((List.range len).map f).length = len := by simp
    refine ⟨(List.range len).map f, some a, cap, by rw [hlen], by rw [hlen]; exact hl, (by simp), ⟨rfl, by rw [hlen]; unfold maxLen at hm; omega, fun hpos => ⟨a, rfl, fun j p hp => ?_⟩⟩, by rw [hlen]; omega, ?_⟩
    · have hj : j < len := by have := (List.getElem?_eq_some_iff.1 hp).1; simpa using this
      have e : p = f j := by
        rw [List.getElem?_map, List.getElem?_range hj] at hp
        simpa using hp.symm
      subst e
      obtain ⟨⟨cs, h1, h2⟩, _⟩ := hf j hj
      have hsz := k.K_len h2
      refine ⟨cs, hsz, h2, fun i u hu => ?_⟩
      obtain ⟨_, h3, h4⟩ := World.cells?_some h1
      have hi : i < k.sz := by have := (List.getElem?_eq_some_iff.1 hu).1; omega
      have := h4 i hi
      have hadd : a.add (j * k.sz + i) = (a.add (j * k.sz)).add i := by
        unfold Addr.add
        by_cases h5 : j * k.sz = 0 <;> by_cases h6 : i = 0 <;> simp [h5, h6, Nat.add_assoc]
      rw [hadd, this]
      exact hu
    · intro z hz
      obtain ⟨i, hi, rfl⟩ := List.mem_map.1 hz
      exact (hf i (List.mem_range.1 hi)).2
end

theorem bel_alloc2 (W : World) (o1 o2 : Obj) : Below W.heap.size W ((W.alloc o1).alloc o2) := ((Below.refl _ W).alloc (Nat.le_refl _) _).alloc (by simp) _
theorem C_spot {α : Type} {k : Kd α} {w : World} {A : Option Addr} {n : Nat} {xs : List α} (h : k.C w A n xs) (hn : 0 < n) (hs : 0 < k.sz) : ∃ b off, A = some ⟨b, off, none⟩ ∧ b < w.heap.size := by
  obtain ⟨ad, hA, hc⟩ := h.2.2 hn
  have hx : xs[0]? = some (xs[0]'(by have := h.1; omega)) := List.getElem?_eq_getElem _
  obtain ⟨cs, hl, _, hcell⟩ := hc 0 _ hx
  have h0 : cs[0]? = some (cs[0]'(by omega)) := List.getElem?_eq_getElem _
  have := hcell 0 _ h0
  rw [Nat.zero_mul, Nat.zero_add] at this
  have h2 := cell_spot (by simpa [Addr.add] using this)
  exact ⟨ad.block, ad.off, by rw [hA, ← h2.1], h2.2⟩
/-- what a call turns on an object of one row: the object (block p), the row that it had, what is new; which row it has then -/
structure RFr (p : Nat) (v v' : Value) (W W' : World) : Prop where
  os : W'.os = W.os
  tape : W'.tape = W.tape
  output : W'.output = W.output
  size : W.heap.size ≤ W'.heap.size
  keep : ∀ b, b < W.heap.size → b ≠ p → some b ≠ v.ownBlock → W'.heap[b]? = W.heap[b]?
  own : v'.ownBlock = v.ownBlock ∨ ∀ k, v'.ownBlock = some k → W.heap.size ≤ k
namespace RFr
variable {p : Nat} {v v1 v2 : Value} {W W1 W2 : World}
theorem refl (p : Nat) (v : Value) (W : World) : RFr p v v W W := ⟨rfl, rfl, rfl, Nat.le_refl _, fun _ _ _ _ => rfl, .inl rfl⟩
theorem trans (h : RFr p v v1 W W1) (k : RFr p v1 v2 W1 W2) : RFr p v v2 W W2 :=
  ⟨k.os.trans h.os, k.tape.trans h.tape, k.output.trans h.output, Nat.le_trans h.size k.size, fun b hb hp hv => (k.keep b (Nat.lt_of_lt_of_le hb h.size) hp (fun e => by
      rcases h.own with h1 | h1
      · exact hv (e.trans h1)
      · have := h1 b e.symm; omega)).trans (h.keep b hb hp hv),
    by
      rcases k.own with k1 | k1
      · rcases h.own with h1 | h1
        · exact .inl (k1.trans h1)
        · exact .inr (fun j e => h1 j (k1 ▸ e))
      · exact .inr (fun j e => Nat.le_trans h.size (k1 j e))⟩
theorem ofBelow (p : Nat) (v : Value) (h : Below W.heap.size W W1) : RFr p v v W W1 := ⟨h.os, h.tape, h.output, h.size, fun b hb _ _ => h.block b hb, .inl rfl⟩
theorem alloc (p : Nat) (v : Value) (W : World) (o : Obj) : RFr p v v W (W.alloc o) := ofBelow p v ((Below.refl _ W).alloc (Nat.le_refl _) o)
theorem drewN (h : RFr p v v1 W W1) (n : Nat) : RFr p v v1 W (W1.drewN n) := ⟨h.os, h.tape, h.output, h.size, h.keep, h.own⟩
theorem drew (h : RFr p v v1 W W1) : RFr p v v1 W W1.drew := ⟨h.os, h.tape, h.output, h.size, h.keep, h.own⟩
theorem setP (h : RFr p v v1 W W1) (i : Nat) (u : Value) : RFr p v v1 W (W1.setCell ⟨p, i, none⟩ u) :=
  ⟨h.os, h.tape, h.output, by simpa using h.size, fun b hb hp hv => (Below.heap_setCell W1 ⟨p, i, none⟩ u b hp).trans (h.keep b hb hp hv), h.own⟩
/-- the row has been written, or another one made -/
theorem grown (p : Nat) (hg : W.grownBy W1 v.ownBlock) (ho : v1.ownBlock = v.ownBlock ∨ v1.ownBlock = some W.heap.size) : RFr p v v1 W W1 :=
  ⟨hg.os, hg.tape, hg.output, hg.size, fun b hb _ hv => hg.block b hb hv, by
    rcases ho with h | h
    · exact .inl h
    · exact .inr (fun k e => by rw [h] at e; cases e; exact Nat.le_refl _)⟩
theorem below {B : Nat} (h : RFr p v v1 W W1) (hp : B ≤ p) (hv : ∀ k, v.ownBlock = some k → B ≤ k) (hB : B ≤ W.heap.size) : Below B W W1 :=
  ⟨h.os, h.tape, h.output, h.size, fun b hb => h.keep b (by omega) (by omega) (fun e => by have := hv b e.symm; omega)⟩
theorem fr {base n size : Nat} {T : TypeId} {xs : List Value} (h : RFr p v v1 W W1) (hp : base ≤ p) (ho : W.ownsRow base T size v n xs) (hB : base ≤ W.heap.size) : Fr base p T W W1 :=
  ⟨h.below hp (fun k e => (own_typ ho k e).1) hB, fun b hb hne hT => h.keep b hb hne (fun e => by
    obtain ⟨_, cs, fr, hc⟩ := own_typ ho b e.symm
    exact hT cs fr hc)⟩
theorem blk (h : RFr p v v1 W W1) {b : Nat} {t : TypeId} {l : List Value} (hb : Blk W b t l) (hp : b ≠ p) (hv : v.ownBlock ≠ some b) : Blk W1 b t l := (h.keep b hb.lt hp (Ne.symm hv)).trans hb
/-- another row -/
theorem row (h : RFr p v v1 W W1) {base n size : Nat} {T : TypeId} {u : Value} {xs : List Value} (ho : W.ownsRow base T size u n xs) (hp : u.ownBlock ≠ some p) (hv : u.ownBlock = none ∨ u.ownBlock ≠ v.ownBlock) : W1.ownsRow base T size u n xs :=
  own_move ho (fun k e => h.keep k (own_lt ho k e) (fun e' => hp (by rw [e, e'])) (fun e' => by
    rcases hv with hv | hv
    · rw [hv] at e; cases e
    · exact hv (e.trans e')))
end RFr
end Go.Proofs.Ytbhpokcnkdgcmaa
