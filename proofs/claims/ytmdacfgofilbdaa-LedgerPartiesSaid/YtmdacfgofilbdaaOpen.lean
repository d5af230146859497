/- slices that came in, opened: each element's cells. -/
import Derived.Test.YtmdacfgofilbdaaSeq
import Derived.Deep.Slices
import Derived.ChangeSame
import Derived.OpenShut
namespace Go.Proofs.Ytmdacfgofilbdaa
open Go.RowKit Go.ChangeShapes Go.WideShapes

theorem addr_add (b off i : Nat) : (⟨b, off, none⟩ : Addr).add i = ⟨b, off + i, none⟩ := by
  unfold Addr.add
  by_cases h : i = 0 <;> simp [h]
theorem cell_spot {w : World} {a : Addr} {v : Value} (h : w.cell? a = some v) : a = ⟨a.block, a.off, none⟩ ∧ a.block < w.heap.size := by
  unfold World.cell? at h
  cases hb : w.heap[a.block]? with
  | none => rw [hb] at h; simp at h
  | some o =>
    refine ⟨?_, (Array.getElem?_eq_some_iff.1 hb).1⟩
    rw [hb] at h
    obtain ⟨b, off, s⟩ := a
    cases s with
    | none => rfl
    | some s => cases o <;> simp at h

section
variable {H : Type} {enc : TypeId × Value → H} {P : Program} {w : World} {base : Nat} {spare : Nat → Bool} {held : Bool}

theorem open_rows {α : Type} (d : α) (cv : α → List Value) (n : Nat) (good : α → Prop) {t e : TypeId} {fuel : Nat} {v : Value} {x : DataW H × List MemPlace} (ht : P.underlying t = some (.slice e)) (hn : P.cellsOf e = n) (h0 : 0 < n) (hcv : ∀ x, (cv x).length = n)
    (he : ∀ m cs y, DataW.trod enc P w base spare held m e cs = some y → ∃ x, cs = cv x ∧ good x)
    (h : DataW.trod enc P w base spare held fuel t [v] = some x) : ∃ zs : List α, Rd cv n w.heap.size w v zs ∧ zs.length ≤ maxLen ∧ ∀ z ∈ zs, good z := by
  rcases Deep.open_slice ht h with ⟨hv, _⟩ | ⟨a, len, cap, m, k, D, Pl, hv, hb, hl, hm, hmm, rfl, hc⟩
  · simp at hv
    subst hv
    exact ⟨[], .inl ⟨none, 0, rfl, rfl⟩, by simp, by simp⟩
  · simp at hv
    subst hv
    have hle : len ≤ m := by rw [hmm]; split <;> omega
    rcases Nat.eq_zero_or_pos len with rfl | hpos
    · exact ⟨[], .inl ⟨_, _, rfl, rfl⟩, by simp, by simp⟩
    haveI : Inhabited α := ⟨d⟩
    obtain ⟨f, hf⟩ := Deep.choose_lt (n := len) (p := fun i x => w.cells? base (a.add (i * n)) n = some (cv x) ∧ good x) (fun i hi => by
      obtain ⟨cs, h1, h2⟩ := hc i (Nat.lt_of_lt_of_le hi hle)
      obtain ⟨x, rfl, hg⟩ := he _ _ _ h2
      rw [hn] at h1
      exact ⟨x, h1, hg⟩)
    have hcell : ∀ i, i < len → ∀ c v, (cv (f i))[c]? = some v → w.cell? ((a.add (i * n)).add c) = some v := fun i hi c v hv => by
      obtain ⟨_, h1, h2⟩ := World.cells?_some (hf i hi).1
      have hcl : c < n := by have := (List.getElem?_eq_some_iff.1 hv).1; rw [hcv] at this; exact this
      rw [h2 c hcl]
      exact hv
    have hsp : a = ⟨a.block, a.off, none⟩ ∧ a.block < w.heap.size := by
      obtain ⟨v0, hv0⟩ : ∃ v0, (cv (f 0))[0]? = some v0 := ⟨(cv (f 0))[0]'(by rw [hcv]; exact h0), List.getElem?_eq_getElem (by rw [hcv]; exact h0)⟩
      have := hcell 0 hpos 0 v0 hv0
      rw [Nat.zero_mul] at this
      exact cell_spot (by simpa [Addr.add] using this)
    refine ⟨(List.range len).map f, .inr ⟨a.block, a.off, cap, ?_, hsp.2, ?_⟩, ?_, ?_⟩
    · rw [← hsp.1]; simp
    · intro j x hx c v hv
      have hj : j < len := by have := (List.getElem?_eq_some_iff.1 hx).1; simpa using this
      have e : x = f j := by
        rw [List.getElem?_map, List.getElem?_range hj] at hx
        simpa using hx.symm
      subst e
      have := hcell j hj c v hv
      rw [hsp.1, addr_add, addr_add] at this
      exact this
    · simp; omega
    · intro z hz
      obtain ⟨i, hi, rfl⟩ := List.mem_map.1 hz
      exact (hf i (List.mem_range.1 hi)).2

theorem elem_int {q : IntKind} {e : TypeId} (he : P.underlying e = some (.int q)) : ∀ m cs (y : DataW H × List MemPlace), DataW.trod enc P w base spare held m e cs = some y → ∃ x : Int, cs = [.int q x] ∧ (Lit.int q x).wf = true := fun m cs y h => by
  obtain ⟨n, rfl, _, hw⟩ := DataW.trod_int he h
  exact ⟨n, rfl, hw⟩

theorem elem_str {e : TypeId} (he : P.underlying e = some .string) : ∀ m cs (y : DataW H × List MemPlace), DataW.trod enc P w base spare held m e cs = some y → ∃ x : ByteArray, cs = [.string x] ∧ x.size ≤ maxLen := fun m cs y h => by
  obtain ⟨s, rfl, _, hw⟩ := DataW.trod_string he h
  exact ⟨s, rfl, hw⟩
theorem elem_int2 {q0 q1 : IntKind} {e : TypeId} {f0 f1 : Field} (he : P.underlying e = some (.struct #[f0, f1])) (h0 : P.underlying f0.type = some (.int q0)) (h1 : P.underlying f1.type = some (.int q1)) (c : P.cellsOf e = 2) (c0 : P.cellsOf f0.type = 1) (c1 : P.cellsOf f1.type = 1) (o0 : f0.offset = 0) (o1 : f1.offset = 1) :
    ∀ m cs (y : DataW H × List MemPlace), DataW.trod enc P w base spare held m e cs = some y → ∃ x : Int × Int, cs = [.int q0 x.1, .int q1 x.2] ∧ (Lit.int q0 x.1).wf = true ∧ (Lit.int q1 x.2).wf = true := fun m cs y h => by
  obtain ⟨y0, y1, k, _, hl, e0, e1⟩ := trod_struct2 he h
  rw [c] at hl
  rw [c0, o0] at e0
  rw [c1, o1] at e1
  match cs, hl with
  | [u0, u1], _ =>
    obtain ⟨n0, h0', _, w0⟩ := DataW.trod_int h0 e0
    obtain ⟨n1, h1', _, w1⟩ := DataW.trod_int h1 e1
    simp at h0' h1'
    subst h0'; subst h1'
    exact ⟨(n0, n1), rfl, w0, w1⟩
theorem elem_int3 {q0 q1 q2 : IntKind} {e : TypeId} {f0 f1 f2 : Field} (he : P.underlying e = some (.struct #[f0, f1, f2])) (h0 : P.underlying f0.type = some (.int q0)) (h1 : P.underlying f1.type = some (.int q1)) (h2 : P.underlying f2.type = some (.int q2)) (c : P.cellsOf e = 3) (c0 : P.cellsOf f0.type = 1) (c1 : P.cellsOf f1.type = 1) (c2 : P.cellsOf f2.type = 1) (o0 : f0.offset = 0) (o1 : f1.offset = 1) (o2 : f2.offset = 2) :
    ∀ m cs (y : DataW H × List MemPlace), DataW.trod enc P w base spare held m e cs = some y → ∃ x : Int × Int × Int, cs = [.int q0 x.1, .int q1 x.2.1, .int q2 x.2.2] ∧ (Lit.int q0 x.1).wf = true ∧ (Lit.int q1 x.2.1).wf = true ∧ (Lit.int q2 x.2.2).wf = true := fun m cs y h => by
  obtain ⟨xs, n, _, rfl, hl, hlen, hf⟩ := DataW.trod_struct he h
  rw [c] at hl
  have e0 := hf 0 f0 rfl
  have e1 := hf 1 f1 rfl
  have e2 := hf 2 f2 rfl
  rw [c0, o0] at e0
  rw [c1, o1] at e1
  rw [c2, o2] at e2
  match cs, hl, xs, hlen with
  | [u0, u1, u2], _, [y0, y1, y2], _ =>
    obtain ⟨n0, h0', _, w0⟩ := DataW.trod_int h0 e0
    obtain ⟨n1, h1', _, w1⟩ := DataW.trod_int h1 e1
    obtain ⟨n2, h2', _, w2⟩ := DataW.trod_int h2 e2
    simp at h0' h1' h2'
    subst h0'; subst h1'; subst h2'
    exact ⟨(n0, n1, n2), rfl, w0, w1, w2⟩
end

end Go.Proofs.Ytmdacfgofilbdaa
