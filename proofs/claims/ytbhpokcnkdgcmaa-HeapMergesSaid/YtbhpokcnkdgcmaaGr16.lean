/- MgY, laid together. -/
import Derived.Test.YtbhpokcnkdgcmaaGr14
import Derived.Test.YtbhpokcnkdgcmaaGr15

/- HeapMerges: the row. -/
set_option linter.unusedSimpArgs false
set_option linter.unusedVariables false
namespace Go.Proofs.Ytbhpokcnkdgcmaa.Pri
open Go.RowKit Go.Proofs.YtbhpokcnkdgcmaaW.PrintWords
/-- slices that are read, a nil one of no capacity -/
def sliceZ {α : Type} (d : Kd α) : Kd (List α) where
  sz := 1
  E := []
  K := fun w xs cs => ∃ A c, cs = [.slice A xs.length c] ∧ xs.length ≤ c ∧ (A = none → c = 0) ∧ d.C w A xs.length xs
  M := fun _ _ _ _ _ => False
  K_len := by
    rintro w x cs ⟨A, c, rfl, _⟩
    rfl
  K_one := by
    rintro w x cs ⟨A, c, rfl, _⟩ u hu
    rw [List.mem_singleton.1 hu]
    rfl
  K_below := by
    rintro w w1 x cs hb ⟨A, c, rfl, hl, hn, hr⟩
    exact ⟨A, c, rfl, hl, hn, Kd.C_below hr hb⟩
  K_of_M := by
    intro w base ok x cs h
    exact h.elim
  M_mono := by
    intro w base ok ok' x cs hok h
    exact h
  M_bound := by
    intro w base ok x cs h
    exact h.elim
  M_move := by
    intro w w1 base ok x cs hm h
    exact h.elim
  M_lower := by
    intro w base base' ok x cs hb h
    exact h
end Go.Proofs.Ytbhpokcnkdgcmaa.Pri
namespace Go.Proofs.Ytbhpokcnkdgcmaa.MgK
open Go.RowKit Go.Proofs.YtbhpokcnkdgcmaaW.PrintWords Go.Proofs.Ytbhpokcnkdgcmaa.HeapM
structure S37 where
  f0 : Int
  f1 : Int
abbrev SP : Type := S37
def z37 : SP := ⟨(0 : Int), (0 : Int)⟩
def k37 : Kd SP := flat (fun x : SP => [.int .i64 x.f0, .int .i64 x.f1]) 2 (fun _ => rfl) (fun x u hu => by
  rcases List.mem_cons.1 hu with rfl | hu
  · rfl
  · rw [List.mem_singleton.1 hu]; rfl)
theorem k37_mk (w : World) (x : SP) : k37.K w x [.int .i64 x.f0, .int .i64 x.f1] := rfl
abbrev kP : Kd SP := k37
end Go.Proofs.Ytbhpokcnkdgcmaa.MgK
namespace Go.Proofs.Ytbhpokcnkdgcmaa.HeapM
open Go.RowKit Go.Proofs.YtbhpokcnkdgcmaaW.PrintWords Go.Proofs.Ytbhpokcnkdgcmaa.MgK
def gP (x : SP) : Pr := (x.f0, x.f1)
theorem pls_of {W : World} {z : List (List SP)} {A : Option Addr} {c : Nat} (hC : (Pri.sliceZ kP).C W A z.length z) : ∃ vals, PLS W (.slice A z.length c) vals (z.map (fun x => x.map gP)) := by
  have key : ∀ k, k < z.length → ∃ t : Nat × Nat × Nat, ∀ x, z[k]? = some x → ∃ g off A1 c1, A = some ⟨g, off, none⟩ ∧ g < W.heap.size ∧ W.cell? ⟨g, off + k, none⟩ = some (.slice A1 x.length c1) ∧ x.length ≤ c1 ∧
      (x ≠ [] → ∃ b o, A1 = some ⟨b, o, none⟩ ∧ t = (b, o, c1) ∧ b < W.heap.size ∧ ∀ (j : Nat) q, x[j]? = some q → W.cell? ⟨b, o + j * 2, none⟩ = some (.int .i64 q.f0) ∧ W.cell? ⟨b, o + j * 2 + 1, none⟩ = some (.int .i64 q.f1)) := fun k hk => by
    obtain ⟨x, hx⟩ : ∃ x, z[k]? = some x := ⟨_, List.getElem?_eq_getElem hk⟩
    obtain ⟨g, off, rfl, hg⟩ := C_spot hC (by omega) Nat.one_pos
    obtain ⟨a, e0, hr⟩ := hC.2.2 (by omega)
    obtain rfl := Option.some.inj e0
    obtain ⟨cs, hl1, ⟨A1, c1, rfl, h1, h2, h3⟩, hc⟩ := hr k x hx
    have hcell := hc 0 _ rfl
    rw [addr_add] at hcell
    have e : k * (Pri.sliceZ kP).sz + 0 = k := by show k * 1 + 0 = k; omega
    rw [e] at hcell
    by_cases hn : x = []
    · refine ⟨(0, 0, 0), fun y hy => ?_⟩
      rw [hx] at hy
      obtain rfl := Option.some.inj hy
      exact ⟨g, off, A1, c1, rfl, hg, hcell, h1, fun h => absurd hn h⟩
    · have hpos : 0 < x.length := Nat.pos_of_ne_zero (fun h => hn (List.eq_nil_of_length_eq_zero h))
      obtain ⟨b, o, rfl, hb⟩ := C_spot h3 hpos (show 0 < kP.sz by exact Nat.two_pos)
      obtain ⟨a2, e2, hr2⟩ := h3.2.2 hpos
      obtain rfl := Option.some.inj e2
      refine ⟨(b, o, c1), fun y hy => ?_⟩
      rw [hx] at hy
      obtain rfl := Option.some.inj hy
      refine ⟨g, off, _, c1, rfl, hg, hcell, h1, fun _ => ⟨b, o, rfl, rfl, hb, fun j q hq => ?_⟩⟩
      obtain ⟨cs2, _, hk2, hc2⟩ := hr2 j q hq
      have hk3 : cs2 = [.int .i64 q.f0, .int .i64 q.f1] := hk2
      subst hk3
      have d0 := hc2 0 _ rfl
      have d1 := hc2 1 _ rfl
      rw [addr_add] at d0 d1
      exact ⟨d0, d1⟩
  obtain ⟨f, hf⟩ := Deep.choose_lt (n := z.length) (p := fun k t => ∀ x, z[k]? = some x → ∃ g off A1 c1, A = some ⟨g, off, none⟩ ∧ g < W.heap.size ∧ W.cell? ⟨g, off + k, none⟩ = some (.slice A1 x.length c1) ∧ x.length ≤ c1 ∧
      (x ≠ [] → ∃ b o, A1 = some ⟨b, o, none⟩ ∧ t = (b, o, c1) ∧ b < W.heap.size ∧ ∀ (j : Nat) q, x[j]? = some q → W.cell? ⟨b, o + j * 2, none⟩ = some (.int .i64 q.f0) ∧ W.cell? ⟨b, o + j * 2 + 1, none⟩ = some (.int .i64 q.f1))) key
  refine ⟨(List.range z.length).map f, A, c, by rw [List.length_map], fun k l hl => ?_⟩
  rw [List.getElem?_map] at hl
  cases hq : z[k]? with
  | none => rw [hq] at hl; simp at hl
  | some x =>
    rw [hq] at hl
    obtain rfl : x.map gP = l := by simpa using hl
    have hk := (List.getElem?_eq_some_iff.1 hq).1
    obtain ⟨g, off, A1, c1, h1, h2, h3, h4, h5⟩ := hf k hk x hq
    refine ⟨g, off, A1, c1, h1, h2, by rw [List.length_map]; exact h3, by rw [List.length_map]; exact h4, fun hne => ?_⟩
    obtain ⟨b, o, e1, e2, e3, e4⟩ := h5 (fun h => hne (by rw [h]; rfl))
    refine ⟨b, o, e1, ?_, e3, fun j q hj => ?_⟩
    · rw [List.getElem?_map, List.getElem?_range hk, ← e2]; rfl
    · rw [List.getElem?_map] at hj
      cases hy : x[j]? with
      | none => rw [hy] at hj; simp at hj
      | some y =>
        rw [hy] at hj
        obtain rfl : gP y = q := by simpa using hj
        exact e4 j y hy
theorem merges_row (W : World) (z : List (List SP)) (A : Option Addr) (c : Nat) (_ : z.length ≤ c) (_ : A = none → c = 0) (hC : (Pri.sliceZ kP).C W A z.length z) (_ : z.length ≤ maxLen) (hG : ∀ x ∈ z, x.length ≤ maxLen ∧ ∀ y ∈ x, (Lit.int .i64 y.f0).wf = true ∧ (Lit.int .i64 y.f1).wf = true)
    (mo : Int) (hmo : (Lit.int .i64 mo).wf = true) :
    Calls Try.prog 12 #[.slice A z.length c, .int .i64 mo] W fun e w' => e = .returned (.bool true) ∧ Below W.heap.size W w' := by
  obtain ⟨vals, hP⟩ := pls_of (c := c) hC
  have h := merges_core W A c vals (z.map (fun x => x.map gP)) (by rw [List.length_map]; exact hP) mo hmo
  rw [List.length_map] at h
  exact h
end Go.Proofs.Ytbhpokcnkdgcmaa.HeapM
