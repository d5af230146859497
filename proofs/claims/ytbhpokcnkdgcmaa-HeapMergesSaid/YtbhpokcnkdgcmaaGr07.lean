/- MgM, laid together. -/
import Derived.Test.YtbhpokcnkdgcmaaGr06

/- heap: all of lists comes in order. -/
set_option linter.unusedSimpArgs false
set_option linter.unusedVariables false
namespace Go.Proofs.Ytbhpokcnkdgcmaa.HeapM
open Go.RowKit Go.Shelf Go.Proofs.Ytbhpokcnkdgcmaa.HeapL
attribute [local go_sem] Oper.semAt_some

abbrev tYf : TypeId := 125
abbrev tPs : TypeId := 39
abbrev tPss : TypeId := 97
abbrev FM : Nat := 109
/-- a slice is what is left of one of the lists -/
def rdV (vals : List (Nat × Nat × Nat)) (L : List (List Pr)) (a : Option Addr) (n c : Nat) (es : List Pr) : Prop :=
  n = es.length ∧ n ≤ c ∧ (es ≠ [] → ∃ (k d : Nat) (l : List Pr) (b off c1 : Nat), L[k]? = some l ∧ vals[k]? = some (b, off, c1) ∧ es = l.drop d ∧ a = some ⟨b, off + d * 2, none⟩)
/-- the lists in memory -/
def PLS (W : World) (v : Value) (vals : List (Nat × Nat × Nat)) (L : List (List Pr)) : Prop := ∃ A c, v = .slice A L.length c ∧ ∀ (k : Nat) l, L[k]? = some l → ∃ g off A1 c1, A = some ⟨g, off, none⟩ ∧ g < W.heap.size ∧ W.cell? ⟨g, off + k, none⟩ = some (.slice A1 l.length c1) ∧ l.length ≤ c1 ∧
  (l ≠ [] → ∃ b o, A1 = some ⟨b, o, none⟩ ∧ vals[k]? = some (b, o, c1) ∧ b < W.heap.size ∧ ∀ (j : Nat) q, l[j]? = some q → W.cell? ⟨b, o + j * 2, none⟩ = some (.int .i64 q.1) ∧ W.cell? ⟨b, o + j * 2 + 1, none⟩ = some (.int .i64 q.2))
theorem PLS.rd {W : World} {v : Value} {vals : List (Nat × Nat × Nat)} {L : List (List Pr)} (h : PLS W v vals L) {a : Option Addr} {n c : Nat} {q : Pr} {fs : List Pr} (hr : rdV vals L a n c (q :: fs)) :
    ∃ b off, a = some ⟨b, off, none⟩ ∧ b < W.heap.size ∧ W.cell? ⟨b, off, none⟩ = some (.int .i64 q.1) ∧ W.cell? ⟨b, off + 1, none⟩ = some (.int .i64 q.2) ∧ n = fs.length + 1 ∧ n ≤ c ∧ ∀ adr : Option Addr, (fs ≠ [] → adr = some ⟨b, off + 2, none⟩) → rdV vals L adr fs.length (c - 1) fs := by
  obtain ⟨A, cc, rfl, hq⟩ := h
  obtain ⟨hn, hc, hr⟩ := hr
  obtain ⟨k, d, l, b, off, c1, hl, hv, he, rfl⟩ := hr (by simp)
  obtain ⟨g, og, A1, c2, _, _, _, _, h2⟩ := hq k l hl
  have hld : l[d]? = some q := by
    have h3 : (l.drop d)[0]? = some q := by rw [← he]; rfl
    rw [List.getElem?_drop] at h3
    simpa using h3
  have hfs : fs = l.drop (d + 1) := by
    have h3 : (l.drop d).drop 1 = fs := by rw [← he]; rfl
    rw [List.drop_drop] at h3
    exact h3.symm
  obtain ⟨b', o', rfl, hv', hb, hc2⟩ := h2 (fun e => by rw [e] at hld; simp at hld)
  rw [hv] at hv'
  obtain ⟨rfl, rfl, rfl⟩ : b = b' ∧ off = o' ∧ c1 = c2 := by injection hv' with e; injection e with e1 e2; injection e2 with e2 e3; exact ⟨e1, e2, e3⟩
  obtain ⟨x0, x1⟩ := hc2 d q hld
  rw [List.length_cons] at hn
  exact ⟨b, off + d * 2, rfl, hb, x0, x1, hn, hc, fun adr ha => ⟨rfl, by omega, fun hne => ⟨k, d + 1, l, b, off, c1, hl, hv, hfs, by rw [ha hne, Nat.add_mul, Nat.one_mul, Nat.add_assoc]⟩⟩⟩
theorem PLS.first {W : World} {v : Value} {vals : List (Nat × Nat × Nat)} {L : List (List Pr)} (h : PLS W v vals L) {k : Nat} {q : Pr} {fs : List Pr} (hk : L[k]? = some (q :: fs)) :
    ∃ g og c b o c1, vals[k]? = some (b, o, c1) ∧ v = .slice (some ⟨g, og, none⟩) L.length c ∧ W.cell? ⟨g, og + k, none⟩ = some (.slice (some ⟨b, o, none⟩) (fs.length + 1) c1) ∧ fs.length + 1 ≤ c1 ∧ W.cell? ⟨b, o, none⟩ = some (.int .i64 q.1) ∧ W.cell? ⟨b, o + 1, none⟩ = some (.int .i64 q.2) ∧ ∀ adr : Option Addr, (fs ≠ [] → adr = some ⟨b, o + 2, none⟩) → rdV vals L adr fs.length (c1 - 1) fs := by
  obtain ⟨A, cc, rfl, hq⟩ := h
  obtain ⟨g, og, A1, c1, rfl, _, hcell, hlc, h2⟩ := hq k _ hk
  obtain ⟨b, o, rfl, hv, hb, hc⟩ := h2 (by simp)
  obtain ⟨x0, x1⟩ := hc 0 q rfl
  rw [Nat.zero_mul, Nat.add_zero] at x0 x1
  rw [List.length_cons] at hlc
  exact ⟨g, og, cc, b, o, c1, hv, rfl, hcell, hlc, x0, x1, fun adr ha => ⟨rfl, by omega, fun hne => ⟨k, 1, _, b, o, c1, hk, hv, rfl, by rw [ha hne]⟩⟩⟩
theorem PLS.at0 {W : World} {v : Value} {vals : List (Nat × Nat × Nat)} {L : List (List Pr)} (h : PLS W v vals L) {k : Nat} (hk : L[k]? = some []) :
    ∃ g og c A1 c1, v = .slice (some ⟨g, og, none⟩) L.length c ∧ W.cell? ⟨g, og + k, none⟩ = some (.slice A1 0 c1) := by
  obtain ⟨A, cc, rfl, hq⟩ := h
  obtain ⟨g, og, A1, c1, rfl, _, hcell, _, _⟩ := hq k _ hk
  exact ⟨g, og, cc, A1, c1, rfl, hcell⟩
theorem fr_ku {base p N : Nat} {T u : TypeId} {l : List Value} {A B : World} (h : Fr base p T A B) (hP : Blk A p u l) : KU N A B :=
  ⟨h.below.size, fun k o hk ha ho => (h.keep k (Array.getElem?_eq_some_iff.1 ha).1 (fun e => by
    subst e
    have hb : A.heap[k]? = _ := hP
    rw [hb] at ha; cases ha; simp [Obj.isCells] at ho) (fun cs fr e => by rw [ha] at e; cases e; simp [Obj.isCells] at ho)).trans ha⟩
theorem gbN {A B : World} (h : Below A.heap.size A B) : A.grownBy B none := ⟨h.os, h.tape, h.output, h.size, fun b hb _ => h.block b hb⟩
/-- the iterator's own memory, and the consumer's -/
structure MJ (vals : List (Nat × Nat × Nat)) (L : List (List Pr)) (Inv : List (List Pr) → World → Prop) (Rc : World → Prop) (B1 n1 l c0 : Nat) (R S : List (List Pr)) (xs : List MT) (W' : World) : Prop where
  hr : HR (rdV vals L) S xs
  inv : Inv R W'
  rc : Rc W'
  by_ : Blk W' n1 tYf [.func (.yield l) #[] #[]]
  bp : Blk W' (n1 + 2) tMP [.pointer (some ⟨n1 + 1, 0, none⟩)]
  hs : ∃ T, T ≤ c0 ∧ HS W' (n1 + 1) (n1 + 1) ltM FM #[.pointer (some ⟨B1, 0, none⟩)] xs T
def TsM (t : TypeId) : Prop := t = tYf ∨ t = tMP ∨ t = tMH ∨ t = tME ∨ t = tMt
theorem hs_kty {lt : MT → MT → Bool} {W W' : World} {base p F : Nat} {lb : Array Value} {xs : List MT} {T : Nat} (h : HS W base p lt F lb xs T) (k1 : KTy tMH W W') (k2 : KTy tME W W') : HS W' base p lt F lb xs T := by
  obtain ⟨es, s, ⟨h1, v, h2, h3⟩, r⟩ := h
  refine ⟨es, s, ⟨h1, v, k1.blk h2, h3.1, ?_⟩, r⟩
  rcases h3.2 with h4 | ⟨g, cap, cur, e, hb, hg, hr⟩
  · exact .inl h4
  · exact .inr ⟨g, cap, cur, e, hb, k2.2 g _ _ hg, hr⟩
theorem below_gb {N : Nat} {A B : World} {row : Option Nat} (hg : A.grownBy B row) (hr : ∀ r, row = some r → N ≤ r) (hs : N ≤ A.heap.size) : Below N A B :=
  ⟨hg.os, hg.tape, hg.output, hg.size, fun b hb => hg.block b (by omega) (fun e => by have := hr b e.symm; omega)⟩
theorem blk_nc {A B : World} {b : Nat} {t : TypeId} {l : List Value} {row : Option Nat} (h : Blk A b t l) (hg : A.grownBy B row) (hr : ∀ r, row = some r → ∃ o : Obj, A.heap[r]? = some o ∧ o.isCells = false) : Blk B b t l :=
  h.kept hg (fun e => by
    obtain ⟨o, ho, hc⟩ := hr b e.symm
    have hb : A.heap[b]? = _ := h
    rw [ho] at hb; cases hb; simp [Obj.isCells] at hc)
end Go.Proofs.Ytbhpokcnkdgcmaa.HeapM
