/- MgV, laid together. -/
import Derived.Test.YtbhpokcnkdgcmaaGr13
import Derived.BigRegionIn
import Derived.BigRegion

/- HeapMerges: the walk. -/
set_option linter.unusedSimpArgs false
set_option linter.unusedVariables false
namespace Go.Proofs.Ytbhpokcnkdgcmaa.HeapM
open Go.RowKit Go.Shelf Go.Proofs.Ytbhpokcnkdgcmaa.HeapL
attribute [local go_sem] Oper.semAt_some

/-- what is left of the copies -/
def LFx (Ao : Option Addr) (N : Nat) (R : List (List Pr)) (W' : World) : Prop := ∀ (k : Nat) l, R[k]? = some l → ∃ g cur A1 c1, Ao = some ⟨g, 0, none⟩ ∧ g < N ∧ Blk W' g tPs cur ∧ cur[k]? = some (.slice A1 l.length c1) ∧ l.length ≤ c1 ∧
  ∀ (j : Nat) q, l[j]? = some q → ∃ b o, A1 = some ⟨b, o, none⟩ ∧ b ≠ g ∧ b < N ∧ W'.cell? ⟨b, o + j * 2, none⟩ = some (.int .i64 q.1) ∧ W'.cell? ⟨b, o + j * 2 + 1, none⟩ = some (.int .i64 q.2)
theorem LFx.below {Ao : Option Addr} {N : Nat} {R : List (List Pr)} {X Y : World} (h : LFx Ao N R X) (hb : Below N X Y) : LFx Ao N R Y := fun k l hl => by
  obtain ⟨g, cur, A1, c1, h1, h2, h3, h4, h5, h6⟩ := h k l hl
  refine ⟨g, cur, A1, c1, h1, h2, h3.below hb h2, h4, h5, fun j q hq => ?_⟩
  obtain ⟨b, o, e1, e2, e3, e4, e5⟩ := h6 j q hq
  exact ⟨b, o, e1, e2, e3, (hb.cell (p := ⟨b, o + j * 2, none⟩) e3).trans e4, (hb.cell (p := ⟨b, o + j * 2 + 1, none⟩) e3).trans e5⟩
theorem LFx.mono {Ao : Option Addr} {N N' : Nat} {R : List (List Pr)} {X : World} (h : LFx Ao N R X) (hn : N ≤ N') : LFx Ao N' R X := fun k l hl => by
  obtain ⟨g, cur, A1, c1, h1, h2, h3, h4, h5, h6⟩ := h k l hl
  refine ⟨g, cur, A1, c1, h1, by omega, h3, h4, h5, fun j q hq => ?_⟩
  obtain ⟨b, o, e1, e2, e3, e4, e5⟩ := h6 j q hq
  exact ⟨b, o, e1, e2, by omega, e4, e5⟩
theorem own_row {W : World} {base n size : Nat} {e : TypeId} {v : Value} {xs : List Value} (h : W.ownsRow base e size v n xs) (hn : 0 < n) : ∃ g cap cur, v = .slice (some ⟨g, 0, none⟩) n cap ∧ Blk W g e cur ∧ n ≤ cap ∧ cur.take (n * size) = xs := by
  rcases h.2 with ⟨_, h0⟩ | ⟨g, cap, cur, hv, hb, hg, h3, h4, h5, h6⟩
  · omega
  · exact ⟨g, cap, cur.toList, hv, by unfold Blk; rw [Array.toArray_toList]; exact hg, h3, h6⟩
theorem LS.lf {W : World} {mo : Int} {B n : Nat} {L : List (List Pr)} {Ao : Option Addr} {co : Nat} {vs : List Value} {A : World} (h : LS W mo B L (.slice Ao n co) vs A) : LFx Ao A.heap.size L A := fun k l hl => by
  have hk := (List.getElem?_eq_some_iff.1 hl).1
  obtain ⟨g, cap, cur, e1, hb, hc, ht⟩ := own_row h.own (by omega)
  injection e1 with e1 e2 e3
  have hkv : k < vs.length := by rw [h.n]; exact hk
  have hv : vs[k]? = some vs[k] := List.getElem?_eq_getElem hkv
  have ho := h.each k _ l hv hl
  obtain ⟨A1, c1, e4⟩ := own_shape ho
  rw [e4] at ho hv
  have hcur : cur[k]? = some (.slice A1 l.length c1) := by
    rw [← hv, ← ht, List.getElem?_take, if_pos (by omega)]
  have hlc : l.length ≤ c1 := by
    rcases ho.2 with ⟨h1, h2⟩ | ⟨_, _, _, h1, _, _, h2, _⟩
    · omega
    · injection h1 with _ _ h1; omega
  refine ⟨g, cur, A1, c1, e1, hb.lt, hb, hcur, hlc, fun j q hq => ?_⟩
  have hj := (List.getElem?_eq_some_iff.1 hq).1
  obtain ⟨b, cap2, cur2, e5, hb2, _, ht2⟩ := own_row ho (by omega)
  injection e5 with e5 _ _
  refine ⟨b, 0, e5, fun e => ?_, hb2.lt, ?_, ?_⟩
  · subst e
    exact absurd (hb.inj hb2).1 (by decide)
  · refine hb2.cell ?_
    have h1 := cellsOf_at cP_length l (0, 0) hj (show 0 < 2 by omega)
    rw [← ht2, List.getElem?_take, if_pos (by omega)] at h1
    rw [Nat.zero_add]
    rw [show j * 2 = j * 2 + 0 by omega, h1, List.getD_eq_getElem?_getD, hq]
    rfl
  · refine hb2.cell ?_
    have h1 := cellsOf_at cP_length l (0, 0) hj (show 1 < 2 by omega)
    rw [← ht2, List.getElem?_take, if_pos (by omega)] at h1
    rw [Nat.zero_add]
    rw [h1, List.getD_eq_getElem?_getD, hq]
    rfl
/-- the first of a list is taken away -/
theorem LFx.set {g N : Nat} {R : List (List Pr)} {X : World} (h : LFx (some ⟨g, 0, none⟩) N R X) {k : Nat} {p : Pr} {es : List Pr} (hk : R[k]? = some (p :: es)) {A1 : Option Addr} {c1 : Nat} (hc : es.length ≤ c1)
    (hes : ∀ (j : Nat) q, es[j]? = some q → ∃ b o, A1 = some ⟨b, o, none⟩ ∧ b ≠ g ∧ b < N ∧ X.cell? ⟨b, o + j * 2, none⟩ = some (.int .i64 q.1) ∧ X.cell? ⟨b, o + j * 2 + 1, none⟩ = some (.int .i64 q.2)) :
    LFx (some ⟨g, 0, none⟩) N (R.set k es) (X.setCell ⟨g, k, none⟩ (.slice A1 es.length c1)) := fun j l hl => by
  have hkl := (List.getElem?_eq_some_iff.1 hk).1
  have hoc : ∀ (b o : Nat), b ≠ g → (X.setCell ⟨g, k, none⟩ (.slice A1 es.length c1)).cell? ⟨b, o, none⟩ = X.cell? ⟨b, o, none⟩ := fun b o hb => World.cell?_of_block (Below.heap_setCell X ⟨g, k, none⟩ _ b hb)
  by_cases hjk : j = k
  · subst hjk
    rw [List.getElem?_set_self hkl] at hl
    obtain rfl : es = l := by simpa using hl
    obtain ⟨g', cur, A2, c2, e1, h2, h3, h4, h5, h6⟩ := h j _ hk
    obtain rfl : g = g' := by injection e1 with e1; injection e1
    refine ⟨g, _, A1, c1, rfl, h2, h3.set j _, ?_, hc, fun i q hq => ?_⟩
    · rw [List.getElem?_set_self (List.getElem?_eq_some_iff.1 h4).1]
    · obtain ⟨b, o, q1, q2, q3, q4, q5⟩ := hes i q hq
      exact ⟨b, o, q1, q2, q3, (hoc _ _ q2).trans q4, (hoc _ _ q2).trans q5⟩
  · rw [List.getElem?_set_ne (fun e => hjk e.symm)] at hl
    obtain ⟨g', cur, A2, c2, e1, h2, h3, h4, h5, h6⟩ := h j _ hl
    obtain rfl : g = g' := by injection e1 with e1; injection e1
    refine ⟨g, _, A2, c2, rfl, h2, h3.set k _, ?_, h5, fun i q hq => ?_⟩
    · rw [List.getElem?_set_ne (fun e => hjk e.symm)]; exact h4
    · obtain ⟨b, o, q1, q2, q3, q4, q5⟩ := h6 i q hq
      exact ⟨b, o, q1, q2, q3, (hoc _ _ q2).trans q4, (hoc _ _ q2).trans q5⟩
theorem blk_at {W : World} {b : Nat} {t : TypeId} {l : List Value} (h : Blk W b t l) {i : Nat} {v : Value} (hc : W.cell? ⟨b, i, none⟩ = some v) : i < l.length := by
  have hb : W.heap[b]? = _ := h
  unfold World.cell? at hc
  rw [hb] at hc
  simp at hc
  exact (List.getElem?_eq_some_iff.1 hc).1
theorem LFx.other {Ao : Option Addr} {N : Nat} {R : List (List Pr)} {X : World} (h : LFx Ao N R X) {b0 : Nat} {t : TypeId} {x : Value} (hb : Blk X b0 t [x]) (ht : t ≠ tPs) (i : Nat) (v : Value) : LFx Ao N R (X.setCell ⟨b0, i, none⟩ v) := fun k l hl => by
  obtain ⟨g, cur, A1, c1, h1, h2, h3, h4, h5, h6⟩ := h k l hl
  refine ⟨g, cur, A1, c1, h1, h2, h3.other (show _ ≠ _ from fun e => by have e' : g = b0 := e; subst e'; exact ht (hb.inj h3).1) v, h4, h5, fun j q hq => ?_⟩
  obtain ⟨b, o, e1, e2, e3, e4, e5⟩ := h6 j q hq
  have hne : b ≠ b0 := fun e => by subst e; have := blk_at hb e5; simp at this
  exact ⟨b, o, e1, e2, e3, (World.cell?_of_block (Below.heap_setCell X ⟨b0, i, none⟩ v b hne)).trans e4, (World.cell?_of_block (Below.heap_setCell X ⟨b0, i, none⟩ v b hne)).trans e5⟩
theorem KTy.setAt {t u : TypeId} {W : World} {b : Nat} {l : List Value} (hb : Blk W b u l) (ht : t ≠ u) (i : Nat) (v : Value) : KTy t W (W.setCell ⟨b, i, none⟩ v) :=
  ⟨by simp [World.setCell], fun c cs fr hc => (Below.heap_setCell W ⟨b, i, none⟩ v c (fun e => by
    have hb' : W.heap[b]? = _ := hb
    have e' : c = b := e
    subst e'
    rw [hb'] at hc
    simp at hc
    exact ht hc.2.1.symm)).trans hc⟩
/-- the law's memory while the things come -/
structure MI (W : World) (B N z9 B1 B2 : Nat) (A : Option Addr) (c : Nat) (L : List (List Pr)) (Ao : Option Addr) (co : Nat) (n0 M : Nat) (R : List (List Pr)) (W' : World) : Prop where
  bel : Below W.heap.size W W'
  b0 : Blk W' W.heap.size 3 [.int .i64 (M : Int)]
  b1 : Blk W' (W.heap.size + 1) 4 [.bool false]
  bl : Blk W' (B + 1) tPss [.slice Ao L.length co]
  lf : LFx Ao N R W'
  bi : Blk W' z9 3 [.int .i64 ((n0 - totR R : Nat) : Int)]
  rl : R.length = L.length
  c1 : totR R ≤ n0
  c2 : n0 - totR R < M
  x1 : Blk W' B1 tBf [.func (.func 31) #[] #[]]
  x2 : Blk W' B2 tPss [.slice A L.length c]
  lt : W.heap.size + 1 < B ∧ B + 1 < z9 ∧ z9 < N ∧ B1 < N ∧ B2 < N
  sz : N ≤ W'.heap.size
  gw : ∀ g, Ao = some ⟨g, 0, none⟩ → W.heap.size ≤ g
section
variable {W : World} {B N z9 B1 B2 : Nat} {A : Option Addr} {c : Nat} {L : List (List Pr)} {Ao : Option Addr} {co : Nat} {n0 M : Nat} {R : List (List Pr)} {X Y : World}
theorem MI.below (h : MI W B N z9 B1 B2 A c L Ao co n0 M R X) (hb : Below N X Y) : MI W B N z9 B1 B2 A c L Ao co n0 M R Y := by
  obtain ⟨l1, l2, l3, l4, l5⟩ := h.lt
  exact ⟨h.bel.trans (hb.mono (by omega)), h.b0.below hb (by omega), h.b1.below hb (by omega), h.bl.below hb (by omega), h.lf.below hb, h.bi.below hb (by omega), h.rl, h.c1, h.c2, h.x1.below hb (by omega), h.x2.below hb (by omega), h.lt, Nat.le_trans h.sz hb.size, h.gw⟩
theorem MI.belowS (h : MI W B N z9 B1 B2 A c L Ao co n0 M R X) (hb : Below X.heap.size X Y) : MI W B N z9 B1 B2 A c L Ao co n0 M R Y := h.below (hb.mono h.sz)
theorem MI.ownF (W : World) (B N z9 B1 B2 : Nat) (A : Option Addr) (c : Nat) (L : List (List Pr)) (Ao : Option Addr) (co n0 M : Nat) (R : List (List Pr)) {b : Nat} (hb : N ≤ b) : OwnFrom b (fun (_ : Unit) W' => MI W B N z9 B1 B2 A c L Ao co n0 M R W') := fun s X Y row h hg hr =>
  MI.below h (below_gb hg (fun r e => by have := (hr r e).1; omega) h.sz)
/-- the cell of the list at k -/
theorem MI.at (h : MI W B N z9 B1 B2 A c L Ao co n0 M R X) {k : Nat} {l : List Pr} (hk : R[k]? = some l) : ∃ g A1 c1, Ao = some ⟨g, 0, none⟩ ∧ X.cell? ⟨g, k, none⟩ = some (.slice A1 l.length c1) ∧ X.frozen? ⟨g, k, none⟩ = false ∧ l.length ≤ c1 ∧
    ∀ (j : Nat) q, l[j]? = some q → ∃ b o, A1 = some ⟨b, o, none⟩ ∧ b ≠ g ∧ b < N ∧ X.cell? ⟨b, o + j * 2, none⟩ = some (.int .i64 q.1) ∧ X.cell? ⟨b, o + j * 2 + 1, none⟩ = some (.int .i64 q.2) := by
  obtain ⟨g, cur, A1, c1, h1, h2, h3, h4, h5, h6⟩ := h.lf k l hk
  exact ⟨g, A1, c1, h1, h3.cell h4, h3.frozen k, h5, h6⟩
theorem MI.first (h : MI W B N z9 B1 B2 A c L Ao co n0 M R X) {k : Nat} {p : Pr} {es : List Pr} (hk : R[k]? = some (p :: es)) : ∃ g b o c1, Ao = some ⟨g, 0, none⟩ ∧ X.cell? ⟨g, k, none⟩ = some (.slice (some ⟨b, o, none⟩) (es.length + 1) c1) ∧ X.frozen? ⟨g, k, none⟩ = false ∧ es.length + 1 ≤ c1 ∧
    X.cell? ⟨b, o, none⟩ = some (.int .i64 p.1) ∧ X.cell? ⟨b, o + 1, none⟩ = some (.int .i64 p.2) ∧ b ≠ g ∧ b < N ∧
    ∀ (j : Nat) q, es[j]? = some q → X.cell? ⟨b, o + 2 + j * 2, none⟩ = some (.int .i64 q.1) ∧ X.cell? ⟨b, o + 2 + j * 2 + 1, none⟩ = some (.int .i64 q.2) := by
  obtain ⟨g, A1, c1, h1, h2, h3, h4, h5⟩ := h.at hk
  obtain ⟨b, o, rfl, q1, q2, q3, q4⟩ := h5 0 p rfl
  refine ⟨g, b, o, c1, h1, h2, h3, h4, by simpa using q3, by simpa using q4, q1, q2, fun j q hq => ?_⟩
  obtain ⟨b', o', e1, _, _, q5, q6⟩ := h5 (j + 1) q (by simpa using hq)
  obtain ⟨rfl, rfl⟩ : b = b' ∧ o = o' := by injection e1 with e1; injection e1 with e1 e2; exact ⟨e1, e2⟩
  rw [show o + (j + 1) * 2 = o + 2 + j * 2 by omega] at q5 q6
  exact ⟨q5, q6⟩
/-- where it was left -/
structure MX (W : World) (z9 n0 M : Nat) (X : World) : Prop where
  bel : Below W.heap.size W X
  b0 : Blk X W.heap.size 3 [.int .i64 (M : Int)]
  b1 : Blk X (W.heap.size + 1) 4 [.bool false]
  bi : Blk X z9 3 [.int .i64 (M : Int)]
  le : M ≤ n0
  lt : W.heap.size + 1 < z9 ∧ z9 < X.heap.size
theorem MX.ownF {b : Nat} {row : Option Nat} (h : MX W z9 n0 M X) (hb : z9 < b) (hg : X.grownBy Y row) (hr : ∀ r, row = some r → b ≤ r ∧ ∃ o : Obj, X.heap[r]? = some o ∧ o.isCells = false) : MX W z9 n0 M Y := by
  obtain ⟨l1, l2⟩ := h.lt
  have hb2 : Below (z9 + 1) X Y := below_gb hg (fun r e => by have := (hr r e).1; omega) (by omega)
  exact ⟨h.bel.trans (hb2.mono (by omega)), h.b0.below hb2 (by omega), h.b1.below hb2 (by omega), h.bi.below hb2 (by omega), h.le, l1, by have := hg.size; omega⟩
/-- one has come and is counted -/
theorem MI.step {g k : Nat} {p : Pr} {es : List Pr} {A1 : Option Addr} {c1 : Nat} (h : MI W B N z9 B1 B2 A c L (some ⟨g, 0, none⟩) co n0 M R X) (hk : R[k]? = some (p :: es)) (hc : es.length ≤ c1)
    (hes : ∀ (j : Nat) q, es[j]? = some q → ∃ b o, A1 = some ⟨b, o, none⟩ ∧ b ≠ g ∧ b < N ∧ X.cell? ⟨b, o + j * 2, none⟩ = some (.int .i64 q.1) ∧ X.cell? ⟨b, o + j * 2 + 1, none⟩ = some (.int .i64 q.2)) (v : Int) (hv : v = ((n0 - totR R : Nat) : Int) + 1) :
    (v ≠ (M : Int) → MI W B N z9 B1 B2 A c L (some ⟨g, 0, none⟩) co n0 M (R.set k es) ((X.setCell ⟨g, k, none⟩ (.slice A1 es.length c1)).setCell ⟨z9, 0, none⟩ (.int .i64 v))) ∧
    (v = (M : Int) → MX W z9 n0 M ((X.setCell ⟨g, k, none⟩ (.slice A1 es.length c1)).setCell ⟨z9, 0, none⟩ (.int .i64 v))) ∧
    KeepsOthers X ((X.setCell ⟨g, k, none⟩ (.slice A1 es.length c1)).setCell ⟨z9, 0, none⟩ (.int .i64 v)) ∧ (∀ t, TsM t → KTy t X ((X.setCell ⟨g, k, none⟩ (.slice A1 es.length c1)).setCell ⟨z9, 0, none⟩ (.int .i64 v))) := by
  obtain ⟨l1, l2, l3, l4, l5⟩ := h.lt
  have htot := totR_set R k p es hk
  have hcn := h.c1
  have hcm := h.c2
  obtain ⟨g', cur, A2, c2, e1, hg, hbg, h4, h5, h6⟩ := h.lf k _ hk
  obtain rfl : g = g' := by injection e1 with e1; injection e1
  have hg0 : W.heap.size ≠ g := fun e => by subst e; exact absurd (h.b0.inj hbg).1 (by decide)
  have hg1 : W.heap.size + 1 ≠ g := fun e => by subst e; exact absurd (h.b1.inj hbg).1 (by decide)
  have hgl : B + 1 ≠ g := fun e => by subst e; exact absurd (h.bl.inj hbg).1 (by decide)
  have hgi : z9 ≠ g := fun e => by subst e; exact absurd (h.bi.inj hbg).1 (by decide)
  have hgx : B1 ≠ g := fun e => by subst e; exact absurd (h.x1.inj hbg).1 (by decide)
  have hgy : B2 ≠ g := fun e => by subst e; exact absurd (h.x2.inj hbg).1 (by decide)
  have hix : B1 ≠ z9 := fun e => by subst e; exact absurd (h.x1.inj h.bi).1 (by decide)
  have hiy : B2 ≠ z9 := fun e => by subst e; exact absurd (h.x2.inj h.bi).1 (by decide)
  obtain ⟨s, hs⟩ : ∃ s, Value.slice A1 es.length c1 = s := ⟨_, rfl⟩
  have hgw : W.heap.size ≤ g := h.gw g rfl
  have hb0 := (h.b0.other (p := ⟨g, k, none⟩) hg0 s).other (p := ⟨z9, 0, none⟩) (show W.heap.size ≠ z9 by omega) (.int .i64 v)
  have hb1 := (h.b1.other (p := ⟨g, k, none⟩) hg1 s).other (p := ⟨z9, 0, none⟩) (show W.heap.size + 1 ≠ z9 by omega) (.int .i64 v)
  have hi1 := h.bi.other (p := ⟨g, k, none⟩) hgi s
  have hbel := (h.bel.setCell (p := ⟨g, k, none⟩) hgw s).setCell (p := ⟨z9, 0, none⟩) (show W.heap.size ≤ z9 by omega) (.int .i64 v)
  have hlf := (h.lf.set hk hc hes).other (by rw [hs]; exact hi1) (by decide) 0 (.int .i64 v)
  rw [hs] at hlf ⊢
  have hsz : ((X.setCell ⟨g, k, none⟩ s).setCell ⟨z9, 0, none⟩ (.int .i64 v)).heap.size = X.heap.size := by simp [World.setCell]
  have hXz := h.sz
  refine ⟨fun hne => ⟨hbel, hb0, hb1, (h.bl.other (p := ⟨g, k, none⟩) hgl s).other (p := ⟨z9, 0, none⟩) (show B + 1 ≠ z9 by omega) _, hlf, ?_, by rw [List.length_set]; exact h.rl, by omega, by omega, (h.x1.other (p := ⟨g, k, none⟩) hgx s).other (p := ⟨z9, 0, none⟩) hix _, (h.x2.other (p := ⟨g, k, none⟩) hgy s).other (p := ⟨z9, 0, none⟩) hiy _, h.lt, by rw [hsz]; exact h.sz, h.gw⟩, fun he => ⟨hbel, hb0, hb1, ?_, by omega, by omega, by rw [hsz]; omega⟩, (KeepsOthers.setCell _ _ _).trans (KeepsOthers.setCell _ _ _), fun t ht => (KTy.setAt hbg (by rcases ht with rfl | rfl | rfl | rfl | rfl <;> decide) k s).trans (KTy.setAt hi1 (by rcases ht with rfl | rfl | rfl | rfl | rfl <;> decide) 0 _)⟩
  · have h1 := hi1.set 0 (.int .i64 v)
    rw [hv, show ((n0 - totR R : Nat) : Int) + 1 = ((n0 - totR (R.set k es) : Nat) : Int) by omega] at h1
    rw [hv, show ((n0 - totR R : Nat) : Int) + 1 = ((n0 - totR (R.set k es) : Nat) : Int) by omega]
    exact h1
  · rw [← he]; exact hi1.set 0 (.int .i64 v)
end
theorem i64_and255 (b : Int) : 0 ≤ bits .and .i64 b 255 ∧ bits .and .i64 b 255 ≤ 255 := by
  show 0 ≤ IntKind.i64.wrap ((BitVec.ofInt 64 b &&& BitVec.ofInt 64 255).toNat : Nat) ∧ IntKind.i64.wrap ((BitVec.ofInt 64 b &&& BitVec.ofInt 64 255).toNat : Nat) ≤ 255
  rw [BitVec.toNat_and, show (BitVec.ofInt 64 255).toNat = 2 ^ 8 - 1 from by decide, Nat.and_two_pow_sub_one_eq_mod, IntKind.wrap_i64]
  omega
theorem merge_any (W : World) (A : Option Addr) (n c : Nat) : Calls Try.prog 72 #[.func (.func 31) #[] #[], .slice A n c] W fun e w' => e = .returned (.func (.func 107) #[] #[.pointer (some ⟨W.heap.size, 0, none⟩), .pointer (some ⟨W.heap.size + 1, 0, none⟩)]) ∧ w' = (W.alloc (.cells #[.func (.func 31) #[] #[]] tBf)).alloc (.cells #[.slice A n c] tPss) := by
  go_enter Try.func72, Try.ntmps72
  go_wp2_with fail
  go_ret
  exact ⟨rfl, rfl⟩
set_option maxRecDepth 100000 in
set_option maxHeartbeats 8000000 in
theorem merges_core (W : World) (A : Option Addr) (c : Nat) (vals : List (Nat × Nat × Nat)) (L : List (List Pr)) (hP : PLS W (.slice A L.length c) vals L) (mo : Int) (hmo : (Lit.int .i64 mo).wf = true) :
    Calls Try.prog 12 #[.slice A L.length c, .int .i64 mo] W fun e w' => e = .returned (.bool true) ∧ Below W.heap.size W w' := by
  have HP := Lib.hid hP
  clear hP
  obtain ⟨i0, hi0, hiz0, hiz1, hiz2⟩ := info_parts' infoP
  obtain ⟨j0, hj0, hjz0, hjz1, hjz2⟩ := info_parts' infoPs
  refine (callsIn_wide (n := 4)).1 ?_
  refine callsIn_of_wp_marks Try.func12 rfl trivial ?_ rfl
  refine wpIn_wide.2 ?_
  simp only [Try.ntmps12, List.size_toArray, List.length_cons, List.length_nil, Nat.reduceAdd, Nat.reduceSub, Array.replicate_succ, Array.replicate_zero, List.push_toArray, List.append_toArray, List.nil_append, List.cons_append]
  have hq0 : Q0 W mo ((W.alloc (.cells #[.int .i64 mo] 3)).alloc (.cells #[.bool false] 4)) :=
    ⟨(Blk.new W [.int .i64 mo] 3).alloc _, Blk.new2 W _ [.bool false] 4, ((Below.refl _ W).alloc (Nat.le_refl _) _).alloc (by simp) _⟩
  have HQ0 := Lib.hid hq0
  clear hq0
  go_wp2_with fail
  refine (HeapI.alive_any _).mono ?_; rintro e w1 ⟨rfl, hb1⟩
  have HQ1 := Lib.hid (HQ0.out.below hb1)
  clear hb1
  have c6 := HQ1.out.b6.cell (i := 0) rfl
  have f6 := HQ1.out.b6.frozen 0
  by_cases hlong : 8 < L.length
  · have hfin := HQ1.out.b6.set 0 (.bool true)
    have HB := Lib.hid (HQ1.out.bel.setCell (p := ⟨W.heap.size + 1, 0, none⟩) (by simp) (.bool true))
    have c7 := hfin.cell (i := 0) rfl
    clear hfin
    have g1 : (8 : Int) < (L.length : Int) := by omega
    go_wp2_with fail
    refine ⟨.bool true, (results_cell1 rfl _ _ _).trans ?_, rfl, HB.out⟩
    go_simp
  have g1 : ¬ (8 : Int) < (L.length : Int) := by omega
  clear c6 f6
  obtain ⟨B, hBB⟩ : ∃ B, w1.heap.size = B := ⟨_, rfl⟩
  have hWB : W.heap.size + 1 < B := by rw [← hBB]; exact HQ1.out.b6.lt
  obtain ⟨w2, hw2⟩ : ∃ w2, ((w1.alloc (.cells #[] tPs)).alloc (.cells #[.slice (some ⟨B, 0, none⟩) 0 0] tPss)) = w2 := ⟨_, rfl⟩
  have hal : Below w1.heap.size w1 w2 := by rw [← hw2]; exact ((Below.refl _ w1).alloc (Nat.le_refl _) _).alloc (by simp) _
  have hls : LS W mo B [] (.slice (some ⟨B, 0, none⟩) 0 0) [] w2 := by
    refine ⟨HQ1.out.below hal, ?_, rfl, ?_, fun i v l a b => by simp at a, by omega⟩
    · rw [← hw2, ← hBB]
      exact Blk.new2 w1 _ [.slice (some ⟨w1.heap.size, 0, none⟩) 0 0] tPss
    · have h1 := own_bel (World.ownsRow_lit (base := w1.heap.size) (e := tPs) (size := 1) w1 #[] 0 (Nat.le_refl _) (by decide) rfl) (show Below (w1.alloc (.cells #[] tPs)).heap.size (w1.alloc (.cells #[] tPs)) w2 by rw [← hw2]; exact (Below.refl _ _).alloc (Nat.le_refl _) _)
      rw [hBB] at h1
      exact h1
  have HLS := Lib.hid hls; have HW2 := Lib.hid hw2; have HBB := Lib.hid hBB
  clear hal hls hw2 hBB
  go_wp2_with fail
  simp only [HBB.out]
  rw [HW2.out]
  go_loopw [6, 22] (fun n i wr => ∃ (k : Nat) (o : Value) (vs : List Value), k ≤ L.length ∧ i = .int .i64 (k : Int) ∧ n = .int .i64 (totR (L.take k) : Int) ∧ (∀ l ∈ L.take k, l.length ≤ 30) ∧ totR (L.take k) ≤ 30 * k ∧ LS W mo B (L.take k) o vs wr) (fun _ i _ => L.length - (intOf i).toNat)
  case atStart => exact ⟨0, _, [], Nat.zero_le _, rfl, rfl, by simp, by simp [totR], HLS.out⟩
  case round =>
    obtain ⟨k, o, vs, hk, rfl, rfl, h30, htot, hS⟩ := hrel
    by_cases hlt : k < L.length
    · obtain ⟨lk, hx⟩ : ∃ x, L[k] = x := ⟨_, rfl⟩
      have hx2 : L[k]? = some lk := by rw [List.getElem?_eq_getElem hlt, hx]
      have htk : L.take (k + 1) = L.take k ++ [lk] := by rw [List.take_succ_eq_append_getElem hlt, hx]
      have hlk : (L.take k).length = k := by rw [List.length_take]; omega
      have kl : (k : Int) < (L.length : Int) := by omega
      have hp : PLS wr (.slice A L.length c) vals L := HP.out.below hS.q.bel
      obtain ⟨g, og, A1, c1, rfl, hgl, r0, hc1, hrd⟩ := hp.get hx2
      by_cases hl30 : 30 < lk.length
      · have c6 := hS.q.b6.cell (i := 0) rfl
        have f6 := hS.q.b6.frozen 0
        have hfin := hS.q.b6.set 0 (.bool true)
        have HB := Lib.hid (hS.q.bel.setCell (p := ⟨W.heap.size + 1, 0, none⟩) (by simp) (.bool true))
        have c7 := hfin.cell (i := 0) rfl
        have g2 : (30 : Int) < (lk.length : Int) := by omega
        clear hfin hx hx2 htk hp hrd hS h30
        go_wp2_with fail
        refine ⟨.bool true, (results_cell1 rfl _ _ _).trans ?_, rfl, HB.out⟩
        go_simp
      have g2 : ¬ (30 : Int) < (lk.length : Int) := by omega
      have htot2 : totR (L.take (k + 1)) = totR (L.take k) + lk.length := by rw [htk, totR_snoc]
      have h302 : ∀ l ∈ L.take (k + 1), l.length ≤ 30 := fun l hl => by
        rw [htk] at hl
        rcases List.mem_append.1 hl with h | h
        · exact h30 l h
        · rw [List.mem_singleton.1 h]; omega
      obtain ⟨m, hm⟩ : ∃ m, totR (L.take k) = m := ⟨_, rfl⟩
      rw [hm] at htot htot2 ⊢
      have hsum : IntKind.i64.wrap ((m : Int) + (lk.length : Int)) = (m : Int) + (lk.length : Int) := by rw [IntKind.wrap_i64]; omega
      have HS := Lib.hid hS; have HRD := Lib.hid hrd; have HTK := Lib.hid htk; have H30 := Lib.hid h302; have HLK := Lib.hid hlk; have HT2 := Lib.hid htot2
      have b5 := hS.bl.cell (i := 0) rfl
      have f5 := hS.bl.frozen 0
      have b5a := (hS.bl.alloc (.cells #[] tP)).cell (i := 0) rfl
      clear hx hx2 htk hp hrd hS h30 hm h302 hlk htot2
      go_wp2_with fail
      have hlit : ((wr.alloc (.cells #[] tP)).drew).ownsRow wr.heap.size tP 2 (.slice (some ⟨wr.heap.size, 0, none⟩) 0 0) 0 [] := own_bel (World.ownsRow_lit (base := wr.heap.size) (e := tP) (size := 2) wr #[] 0 (Nat.le_refl _) (by decide) rfl) (Below.refl _ _).drew
      have hala : Below wr.heap.size wr ((wr.alloc (.cells #[] tP)).drew) := ((Below.refl _ wr).alloc (Nat.le_refl _) _).drew
      have hrda : 0 < lk.length → ∃ ad, A1 = some ad ∧ ∀ j u, (cellsOf cP lk)[j]? = some u → ((wr.alloc (.cells #[] tP)).drew).cell? (ad.add j) = some u := fun h => by
        obtain ⟨ad, h1, h2, h3⟩ := HRD.out h
        refine ⟨ad, h1, fun j u hu => ?_⟩
        have h4 := h3 j u hu
        have h5 := cell_spot h4
        rw [← h4]
        rw [h5.1]
        exact hala.cell (p := ⟨(ad.add j).block, (ad.add j).off, none⟩) h5.2
      have honec : ∀ u ∈ cellsOf cP lk, u.oneCell' = true := fun u hu => by
        obtain ⟨x, _, h⟩ := List.mem_flatMap.1 hu
        simp only [cP, List.mem_cons, List.not_mem_nil, or_false] at h
        rcases h with rfl | rfl <;> rfl
      obtain ⟨za, hza⟩ : ∃ za, wr.heap.size = za := ⟨_, rfl⟩
      obtain ⟨wa, hwa⟩ : ∃ wa, (wr.alloc (.cells #[] tP)).drew = wa := ⟨_, rfl⟩
      have hzwa : wa.heap.size = za + 1 := by rw [← hwa, ← hza]; simp [World.drew]
      have HLIT := Lib.hid hlit; have HALA := Lib.hid hala; have HRDA := Lib.hid hrda; have HONE := Lib.hid honec; have HZA := Lib.hid hza; have HWA := Lib.hid hwa; have HZWA := Lib.hid hzwa
      clear hlit hala hrda honec hza hwa hzwa
      go_cut [] from 23 to 38 (fun wx => ∃ o' vs', LS W mo B (L.take (k + 1)) o' vs' wx)
      case first =>
        refine wp_region_noPanic ?_
        go_region_law ((first
        | (refine step_append_lies _ (by rfl) _ _ _ (by rfl) B tPs j0 _ 1 24 Try.underlying97 hj0 hjz0 hjz1 hjz2 rfl (by decide) o (L.take k).length vs (by rfl) (own_bel HSb.own ((Below.refl _ _).alloc (Nat.le_refl _) _)) ⟨wb.heap.size, 0, none⟩ 1 1 [.slice A3 lk.length c3] (by rfl) (by rfl) (news_blk (Blk.new wb [.slice A3 lk.length c3] tPs)) (by simp [Value.oneCell']) (by omega) (by unfold maxLen; have := HLK.out; omega) (by have := HLK.out; omega) (by have := HSb.bl.lt; simp; omega) (wb.heap.size + 1) (by simp) ?_; intro g5 cap5 wd hown5 hg5 hat5 hlt5; have hbd := (HSb.bl.alloc (.cells #[.slice A3 lk.length c3] tPs)).kept hg5 (fun e => own_apart HSb.bl HSb.own (by decide) e.symm); have d5 := hbd.cell (i := 0) rfl; have g5 := hbd.frozen 0)
        | (refine step_append_all (by rfl) _ _ _ (by rfl) wr.heap.size tP i0 _ 2 16 Try.underlying39 hi0 hiz0 hiz1 hiz2 rfl (by decide) (some ⟨wr.heap.size, 0, none⟩) 0 0 [] (by rfl) (Nat.le_refl _) HLIT.out A1 lk.length c1 (cellsOf cP lk) (by rfl) (cellsOf_length cP_length lk) HRDA.out HONE.out (by unfold maxLen; omega) (by omega) (by simp [World.drew]) ?_; intro v3 wb hown3 hg3; rw [Nat.zero_add, List.nil_append] at hown3; obtain ⟨A3, c3, rfl⟩ := own_shape hown3; have hbb := HALA.out.grown hg3 (by simp [World.drew]) (fun r e => by simp [Value.ownBlock] at e; omega); have HSb := HS.out.below hbb; have c5b := HSb.bl.cell (i := 0) rfl; have c5c := (HSb.bl.alloc (.cells #[.slice A3 lk.length c3] tPs)).cell (i := 0) rfl)))
        all_goals
          refine NoPanic.normal ?_
          go_wp2_with fail
          go_meet
          rw [HTK.out]
          have hbc : Below wb.heap.size wb (wb.alloc (.cells #[.slice A3 lk.length c3] tPs)) := (Below.refl _ _).alloc (Nat.le_refl _) _
          have hsn := LS.snoc (HSb.below hbc) (own_lo (own_bel hown3 hbc) (by have := HS.out.bl.lt; omega)) hown5 hg5
          rw [HLK.out] at hsn
          exact ⟨_, _, hsn⟩
      case rest =>
        obtain ⟨o', vs', hS'⟩ := hcut
        clear HLIT HALA HRDA HONE HZA HWA HZWA
        go_wp2_with fail
        go_roundw
        case rel => exact ⟨k + 1, o', vs', by omega, by simp, by rw [HT2.out]; simp, H30.out, by have := HT2.out; omega, hS'⟩
        case measure => simp [intOf]; omega
    · obtain rfl : k = L.length := by omega
      rw [List.take_length] at hS htot h30 ⊢
      have f0 : totR L ≤ 240 := by omega
      obtain ⟨Ao, co, rfl⟩ := own_shape hS.own
      have hm := i64_and255 mo
      obtain ⟨m, hmd⟩ : ∃ m, bits .and .i64 mo 255 = m := ⟨_, rfl⟩
      rw [hmd] at hm
      obtain ⟨M, hM⟩ : ∃ M : Nat, 1 + m = (M : Int) := ⟨(1 + m).toNat, by omega⟩
      have hM1 : 1 ≤ M := by omega
      have hM16 : M ≤ 256 := by omega
      obtain ⟨hm0, hm15⟩ := hm
      have c5 := hS.q.b5.cell (i := 0) rfl
      have f5 := hS.q.b5.frozen 0
      obtain ⟨w0, hw0⟩ : ∃ w0, wr.setCell ⟨W.heap.size, 0, none⟩ (.int .i64 (M : Int)) = w0 := ⟨_, rfl⟩
      have hgs := grownBy_setAt wr W.heap.size 0 (.int .i64 (M : Int))
      rw [hw0] at hgs
      have b3 : Blk w0 W.heap.size 3 [.int .i64 (M : Int)] := by rw [← hw0]; exact hS.q.b5.set 0 _
      have b4 : Blk w0 (W.heap.size + 1) 4 [.bool false] := hS.q.b6.kept hgs (by simp)
      have hBz := hS.sz
      have b5 : Blk w0 (B + 1) tPss [.slice Ao L.length co] := hS.bl.kept hgs (by simp; omega)
      have hz0 : w0.heap.size = wr.heap.size := by rw [← hw0]; simp [World.setCell]
      have hb0 : Below W.heap.size W w0 := by rw [← hw0]; exact hS.q.bel.setCell (p := ⟨W.heap.size, 0, none⟩) (Nat.le_refl _) _
      have hlf0 : LFx Ao wr.heap.size L w0 := by rw [← hw0]; exact hS.lf.other hS.q.b5 (by decide) 0 _
      have hgw : ∀ g, Ao = some ⟨g, 0, none⟩ → W.heap.size ≤ g := fun g e => by
        subst e
        have := (own_typ hS.own g rfl).1
        omega
      have hzl : B + 1 < wr.heap.size := hS.bl.lt
      have HB3 := Lib.hid b3; have HB4 := Lib.hid b4; have HB5 := Lib.hid b5; have HB0 := Lib.hid hb0; have HW0 := Lib.hid hw0; have HZ0 := Lib.hid hz0; have HLF := Lib.hid hlf0; have HGW := Lib.hid hgw
      clear hS h30 htot hgs b3 b4 b5 hz0 hb0 hw0 hlf0 hgw
      go_wp2_with fail
      refine (merge_any _ _ _ _).mono ?_; rintro e w7 ⟨rfl, hw7⟩
      rw [HW0.out] at hw7
      obtain ⟨z, hz⟩ : ∃ z, wr.heap.size = z := ⟨_, rfl⟩
      have hz0z : w0.heap.size = z := by rw [HZ0.out]; exact hz
      simp only [World.size_alloc, HW0.out, hz0z, hz] at hw7 ⊢
      rw [hz] at hzl HLF
      have hal : Below w0.heap.size w0 w7 := by rw [hw7]; exact (((Below.refl _ w0).alloc (Nat.le_refl _) _).alloc (by simp) _).alloc (by simp; omega) _
      have hMI : MI W B (z + 3) z (z + 1) (z + 1 + 1) A c L Ao co (totR L) M L w7 := by
        refine ⟨HB0.out.trans (hal.mono HB0.out.size), HB3.out.belowS hal, HB4.out.belowS hal, HB5.out.belowS hal, (HLF.out.below (by rw [← hz0z]; exact hal)).mono (by omega), ?_, rfl, Nat.le_refl _, by omega, ?_, ?_, by omega, ?_, HGW.out⟩
        · rw [hw7, ← hz0z, Nat.sub_self]
          exact ((Blk.new w0 [.int .i64 0] 3).alloc _).alloc _
        · rw [hw7]
          have h1 := (Blk.new2 w0 (.cells #[.int .i64 0] 3) [.func (.func 31) #[] #[]] tBf).alloc (.cells #[.slice A L.length c] tPss)
          rw [hz0z] at h1
          exact h1
        · rw [hw7]
          have h1 := Blk.new2 (w0.alloc (.cells #[.int .i64 0] 3)) (.cells #[.func (.func 31) #[] #[]] tBf) [.slice A L.length c] tPss
          rw [World.size_alloc, hz0z] at h1
          exact h1
        · rw [hw7]; simp; omega
      have hz7 : w7.heap.size = z + 3 := by rw [hw7]; simp; omega
      have HMI := Lib.hid hMI; have HZ7 := Lib.hid hz7
      clear hMI hal hw7 hz hz0z HLF HGW HB3 HB4 HB5 HB0 HW0 HZ0 HLS
      have IT := merge_iter 3 (z + 1) (z + 1 + 1) (z + 3) (.slice A L.length c) vals L (by omega) (by omega) (fun R W' => MI W B (z + 3) z (z + 1) (z + 1 + 1) A c L Ao co (totR L) M R W') (by omega)
        (fun R W' h => ⟨h.x1, h.x2, HP.out.below h.bel⟩) (fun R X Y h hb => h.below hb)
      have hMO : ∀ R, OwnFrom w7.heap.size (fun (_ : Unit) W' => MI W B (z + 3) z (z + 1) (z + 1 + 1) A c L Ao co (totR L) M R W') := fun R => MI.ownF _ _ _ _ _ _ _ _ _ _ _ _ _ _ (by omega)
      go_wp2_with fail
      refine wpIn_wide.1 (range_gen3 (F := Fence.wide) (n := 4) rfl (by omega) (gf := 107) (lb := #[.pointer (some ⟨z + 1, 0, none⟩), .pointer (some ⟨z + 1 + 1, 0, none⟩)]) rfl trivial (enters_of Try.func107 (by kernel_rfl) rfl) (encs := fun x : List (List Pr) × Nat × Pr × List Pr => #[.agg #[.int .i64 x.2.2.1.1, .int .i64 x.2.2.1.2]]) (fun _ => rfl) TsM
        (fun W' => z + 3 ≤ W'.heap.size ∧ MI W B (z + 3) z (z + 1) (z + 1 + 1) A c L Ao co (totR L) M L W')
        (fun x W' => x.1[x.2.1]? = some (x.2.2.1 :: x.2.2.2) ∧ (∀ (j : Nat) q fs, x.1[j]? = some (q :: fs) → x.2.2.1.1 ≤ q.1 ∧ (j < x.2.1 → x.2.2.1.1 < q.1)) ∧ MI W B (z + 3) z (z + 1) (z + 1 + 1) A c L Ao co (totR L) M x.1 W')
        (fun x W' => MI W B (z + 3) z (z + 1) (z + 1 + 1) A c L Ao co (totR L) M (x.1.set x.2.1 x.2.2.2) W')
        (fun c' W' => c' = .exit 2 ∧ MX W z (totR L) M W')
        (fun W' => ∃ R, (∀ l ∈ R, l = []) ∧ MI W B (z + 3) z (z + 1) (z + 1 + 1) A c L Ao co (totR L) M R W')
        (fun x a' W' => ∃ b7, a' = { tmps := #[.slice A L.length c, .int .i64 mo, undef, .pointer (some ⟨W.heap.size, 0, none⟩), .pointer (some ⟨W.heap.size + 1, 0, none⟩), .pointer (some ⟨B + 1, 0, none⟩), .int .i64 (totR L : Int), undef, u8, .pointer (some ⟨z, 0, none⟩), .pointer (some ⟨b7, 0, none⟩), undef, undef, undef, .bool true, .bool false, .slice A L.length c, .int .i64 (L.length : Int), .bool (decide ((8 : Int) < (L.length : Int))), .slice (some ⟨B, 0, none⟩) 0 0, .slice A L.length c, .int .i64 (L.length : Int), .int .i64 (L.length : Int), .bool false, u24, u25, u26, u27, u28, u29, u30, u31, u32, u33, u34, u35, u36, u37, u38, u39, .int .i64 mo, .int .i64 m, .int .i64 (M : Int), .slice A L.length c, .func (.func 107) #[] #[.pointer (some ⟨z + 1, 0, none⟩), .pointer (some ⟨z + 1 + 1, 0, none⟩)], .agg #[.int .i64 x.2.2.1.1, .int .i64 x.2.2.1.2], undef, undef, undef, undef, undef, undef, undef, undef, undef, undef, undef, undef, undef, undef, undef, undef, undef, undef, undef, undef, undef, undef, undef, undef, undef, undef, undef, undef, undef, undef, undef, undef, undef, undef, undef, undef, undef, undef, undef, undef, undef, undef, undef, undef, undef, undef, undef, undef, undef, undef, undef, undef, undef, undef, undef, undef, undef, undef, undef, undef], defers := [] } ∧ x.1[x.2.1]? = some (x.2.2.1 :: x.2.2.2) ∧ (∀ (j : Nat) q fs, x.1[j]? = some (q :: fs) → x.2.2.1.1 ≤ q.1 ∧ (j < x.2.1 → x.2.2.1.1 < q.1)) ∧ Blk W' b7 tP [.int .i64 x.2.2.1.1, .int .i64 x.2.2.1.2] ∧ MI W B (z + 3) z (z + 1) (z + 1 + 1) A c L Ao co (totR L) M x.1 W')
        (fun s X Y row h hg hr => ⟨Nat.le_trans h.1 hg.size, hMO _ () X Y row h.2 hg hr⟩)
        (fun x => hMO _)
        (fun c' s X Y row h hg hr => ⟨h.1, h.2.ownF (by have := HZ7.out; omega) hg hr⟩)
        (fun s X Y row h hg hr => by
          obtain ⟨R, h1, h2⟩ := h
          exact ⟨R, h1, hMO R () X Y row h2 hg hr⟩)
        (fun x a' s X Y row h hg hr => by
          obtain ⟨b7, h1, h2, h3, h4, h5⟩ := h
          exact ⟨b7, h1, h2, h3, blk_nc h4 hg (fun r e => (hr r e).2), hMO _ () X Y row h5 hg hr⟩)
        ⟨by have := HZ7.out; omega, HMI.out⟩ IT ?assign ?body ?done ?stop)
      case assign =>
        clear IT hMO
        rintro l x W' K ⟨h1, h2, h3⟩ hK
        obtain ⟨R, k, ⟨pk, pv⟩, es⟩ := x
        dsimp only at h1 h2 h3 hK
        have hal : Below W'.heap.size W' (W'.alloc (.cells #[.int .i64 pk, .int .i64 pv] tP)) := (Below.refl _ W').alloc (Nat.le_refl _) _
        have HK := Lib.hid (fun a' ha' => hK a' (W'.alloc (.cells #[.int .i64 pk, .int .i64 pv] tP)) (KeepsFrom.of_grownBy (World.grownBy_alloc W' _ none) (fun j e => by cases e)) (fun t _ => KTy.below hal) ⟨W'.heap.size, ha', h1, h2, Blk.new W' [.int .i64 pk, .int .i64 pv] tP, h3.belowS hal⟩)
        clear hK h1 h2 h3 hal
        gi_wp2
        exact HK.out _ rfl
      case body =>
        clear IT hMO
        rintro l x a' W' hl hr ⟨b7, rfl, hRk, hmin, hb7, hM⟩
        obtain ⟨R, k, ⟨pk, pv⟩, es⟩ := x
        dsimp only at hRk hmin hb7 hM ⊢
        have hrl := hM.rl
        have c5 := hM.bl.cell (i := 0) rfl
        have HRK := Lib.hid hRk; have HMIN := Lib.hid hmin; have HB7 := Lib.hid hb7; have HM := Lib.hid hM
        clear hRk hmin hb7 hM
        gi_wp2_with fail
        clear c5
        gi_loopw [11, 48] (fun a i ws => ∃ (q : Nat) (av : Int), q ≤ L.length ∧ i = .int .i64 (q : Int) ∧ a = .int .i64 av ∧ sel R q av ∧ Below W'.heap.size W' ws) (fun _ i _ => L.length - (intOf i).toNat)
        case atStart => exact ⟨0, -1, Nat.zero_le _, rfl, rfl, .inl ⟨rfl, fun j hj => absurd hj (Nat.not_lt_zero _)⟩, Below.refl _ W'⟩
        case round =>
          obtain ⟨q, av, hq, rfl, rfl, hsel, hB⟩ := hrel
          have hMr := HM.out.belowS hB
          have c5 := hMr.bl.cell (i := 0) rfl
          have q0 : (0 : Int) ≤ (q : Int) := Int.natCast_nonneg _
          have HBr := Lib.hid hB
          clear hB
          by_cases hql : q < L.length
          · have ql : (q : Int) < (L.length : Int) := by omega
            obtain ⟨lq, hx⟩ : ∃ l, R[q]? = some l := ⟨_, List.getElem?_eq_getElem (by omega)⟩
            cases lq with
            | nil =>
              obtain ⟨g, A1, c1, rfl, r0, -⟩ := hMr.at hx
              have HSEL := Lib.hid (sel_none hsel hx)
              simp only [List.length_nil] at r0
              clear hMr hsel hx
              gi_wp2_with fail
              refine region_quiet_round (F := Fence.wide) l rfl (by kernel_rfl) (by kernel_rfl) (by kernel_rfl) ?_
              repeat (gi_big_quiet_step (fail))
              refine wpQuietIn_nil ?_
              intro _ hw'
              obtain ⟨nq, hw''⟩ := hw'
              subst hw'' 
              gi_wp2_with fail
              go_roundw
              case rel => exact ⟨q + 1, _, by omega, by simp, rfl, HSEL.out, below_drewN HBr.out nq⟩
              case measure => simp [intOf]; omega
            | cons p1 es1 =>
              obtain ⟨g, b, o1, c1, rfl, r0, -, hc1, r1, r2, -⟩ := hMr.first hx
              obtain ⟨p1k, p1v⟩ := p1
              dsimp only at r1 r2
              have hn1 : (0 : Int) < (es1.length : Int) + 1 := by omega
              have hn2 : (0 : Int) ≤ (es1.length : Int) := by omega
              by_cases hav : av = -1
              · subst hav
                have HSEL := Lib.hid (sel_first hsel hx)
                clear hMr hsel hx r2 hc1
                gi_wp2_with fail
                refine region_quiet_round (F := Fence.wide) l rfl (by kernel_rfl) (by kernel_rfl) (by kernel_rfl) ?_
                repeat (gi_big_quiet_step (fail))
                refine wpQuietIn_nil ?_
                intro _ hw'
                obtain ⟨nq, hw''⟩ := hw'
                subst hw'' 
                gi_wp2_with fail
                go_roundw
                case rel => exact ⟨q + 1, _, by omega, by simp, rfl, HSEL.out, below_drewN HBr.out nq⟩
                case measure => simp [intOf]; omega
              · obtain ⟨j, ⟨p2k, p2v⟩, es2, hj, hR2⟩ : ∃ (j : Nat) (p2 : Pr) (es2 : List Pr), av = (j : Int) ∧ R[j]? = some (p2 :: es2) := by
                  rcases hsel with ⟨h1, _⟩ | ⟨j, p2, es2, h1, _, h3, _⟩
                  · exact absurd h1 hav
                  · exact ⟨j, p2, es2, h1, h3⟩
                subst hj
                obtain ⟨g', b2, o2, c2, e1, s0, -, hc2, s1, s2, -⟩ := hMr.first hR2
                obtain rfl : g = g' := by injection e1 with e1; injection e1
                dsimp only at s1 s2
                have hjl : j < L.length := by rw [← hrl]; exact (List.getElem?_eq_some_iff.1 hR2).1
                have jl : (j : Int) < (L.length : Int) := by omega
                have j0 : (0 : Int) ≤ (j : Int) := Int.natCast_nonneg _
                have j1 : ¬ (j : Int) < 0 := by omega
                have jd : decide ((j : Int) < 0) = false := decide_eq_false j1
                have hn3 : (0 : Int) < (es2.length : Int) + 1 := by omega
                have hn4 : (0 : Int) ≤ (es2.length : Int) := by omega
                by_cases hlt : p1k < p2k
                · have HSEL := Lib.hid (sel_less hsel hR2 hx hlt)
                  clear hMr hsel hx hR2 hav e1 hc1 hc2 r2 s2
                  gi_wp2_with fail
                  refine region_quiet_round (F := Fence.wide) l rfl (by kernel_rfl) (by kernel_rfl) (by kernel_rfl) ?_
                  repeat (gi_big_quiet_step (fail))
                  refine wpQuietIn_nil ?_
                  intro _ hw'
                  obtain ⟨nq, hw''⟩ := hw'
                  subst hw'' 
                  gi_wp2_with fail
                  go_roundw
                  case rel => exact ⟨q + 1, _, by omega, by simp, rfl, HSEL.out, below_drewN HBr.out nq⟩
                  case measure => simp [intOf]; omega
                · have HSEL := Lib.hid (sel_more hsel hR2 hx hlt)
                  clear hMr hsel hx hR2 hav e1 hc1 hc2 r2 s2
                  gi_wp2_with fail
                  refine region_quiet_round (F := Fence.wide) l rfl (by kernel_rfl) (by kernel_rfl) (by kernel_rfl) ?_
                  repeat (gi_big_quiet_step (fail))
                  refine wpQuietIn_nil ?_
                  intro _ hw'
                  obtain ⟨nq, hw''⟩ := hw'
                  subst hw'' 
                  gi_wp2_with fail
                  go_roundw
                  case rel => exact ⟨q + 1, _, by omega, by simp, rfl, HSEL.out, below_drewN HBr.out nq⟩
                  case measure => simp [intOf]; omega
          · obtain rfl : q = L.length := by omega
            rw [← hrl] at hsel
            obtain rfl := sel_eq hsel HRK.out HMIN.out
            obtain ⟨g, b, o1, c1, rfl, r0, f0', hc1, r1, r2, hbg, hbn, htl⟩ := hMr.first HRK.out
            dsimp only at r1 r2
            have m0 := (HB7.out.belowS HBr.out).cell (i := 0) rfl
            have m1 := (HB7.out.belowS HBr.out).cell (i := 1) rfl
            have hkl : k < L.length := by rw [← hrl]; exact (List.getElem?_eq_some_iff.1 HRK.out).1
            have kl : (k : Int) < (L.length : Int) := by omega
            have k0 : (0 : Int) ≤ (k : Int) := Int.natCast_nonneg _
            have k1 : ¬ (k : Int) < 0 := by omega
            have kd : decide ((k : Int) < 0) = false := decide_eq_false k1
            have hn3 : (0 : Int) < (es.length : Int) + 1 := by omega
            have hn4 : (0 : Int) ≤ (es.length : Int) := by omega
            have HMR := Lib.hid hMr; have HTL := Lib.hid htl
            clear hMr hsel htl q0 hq hql
            gi_wp2_with fail
            refine region_quiet_round (F := Fence.wide) l rfl (by kernel_rfl) (by kernel_rfl) (by kernel_rfl) ?_
            repeat (gi_big_quiet_step (fail))
            refine wpQuietIn_nil ?_
            intro _ hw'
            obtain ⟨nq, hw''⟩ := hw'
            subst hw'' 
            have hMx := HMR.out.belowS (below_drewN (Below.refl _ wr) nq)
            have hBx := below_drewN HBr.out nq
            obtain ⟨g', b', o1', c1', e1, t0, f0, hc1', t1, t2, hbg', hbn', htl'⟩ := hMx.first HRK.out
            obtain rfl : g = g' := by injection e1 with e1; injection e1
            obtain ⟨wx, hwx⟩ : ∃ wx, wr.drewN nq = wx := ⟨_, rfl⟩
            rw [hwx] at hMx hBx t0 f0 t1 t2 htl' ⊢
            have d5 := hMx.bl.cell (i := 0) rfl
            have hMd := hMx.belowS (Below.refl _ wx).drew
            have HMX := Lib.hid hMx; have HMD := Lib.hid hMd; have HBX := Lib.hid hBx; have HTX := Lib.hid htl'
            have hl1 : (1 : Int) ≤ (es.length : Int) + 1 := by omega
            have hcI : ((es.length : Int) + 1) ≤ (c1' : Int) := by omega
            clear hMx hBx hwx r0 r1 r2 htl' e1 m0 m1 c5 f0' HMR HTL HBr hMd hc1 hbg hbn
            have t0d : wx.drew.cell? ⟨g, k, none⟩ = some (.slice (some ⟨b', o1', none⟩) (es.length + 1) c1') := t0
            have f0d : wx.drew.frozen? ⟨g, k, none⟩ = false := f0
            have hgl : B + 1 ≠ g := fun e => by
              obtain ⟨g2, cur, A2, c2, e1, _, hbg, _⟩ := HMX.out.lf k _ HRK.out
              obtain rfl : g = g2 := by injection e1 with e1; injection e1
              subst e
              exact absurd (HMX.out.bl.inj hbg).1 (by decide)
            have hgi : z ≠ g := fun e => by
              obtain ⟨g2, cur, A2, c2, e1, _, hbg, _⟩ := HMX.out.lf k _ HRK.out
              obtain rfl : g = g2 := by injection e1 with e1; injection e1
              subst e
              exact absurd (HMX.out.bi.inj hbg).1 (by decide)
            have hg0 : W.heap.size ≠ g := fun e => by
              obtain ⟨g2, cur, A2, c2, e1, _, hbg, _⟩ := HMX.out.lf k _ HRK.out
              obtain rfl : g = g2 := by injection e1 with e1; injection e1
              subst e
              exact absurd (HMX.out.b0.inj hbg).1 (by decide)
            have hwz : W.heap.size ≠ z := by have := HMX.out.lt; omega
            have hST : ∀ v, (wx.drew.setCell ⟨g, k, none⟩ v).cell? ⟨B + 1, 0, none⟩ = some (.slice (some ⟨g, 0, none⟩) L.length co) := fun v => (HMD.out.bl.other (p := ⟨g, k, none⟩) hgl v).cell (i := 0) rfl
            by_cases hc0 : c1' = 1
            · subst hc0
              have hfn : es.length = 0 := by omega
              gi_wp2_with fail
              refine wpIn_held_round (S := fun w' => w'.cell? ⟨B + 1, 0, none⟩ = some (.slice (some ⟨g, 0, none⟩) L.length co)) l (by kernel_rfl) (by kernel_rfl) (by rintro ⟨a, w, h⟩; exact h) d5 (fun hHeld => ?_)
              refine wpAnyH_take (i := 0) (v := ?_) rfl (by kernel_rfl) (by kernel_rfl) (by kernel_rfl) (fun _ _ _ h => h) (Or.inl ⟨by rfl, ?_⟩) (by assumption) ?_
              rotate_left
              · (intro w hSw; (try dsimp only at hSw); go_simp) <;> with_reducible rfl
              try simp only [Act.put, List.setIfInBounds_toArray, List.set_cons_zero, List.set_cons_succ]
              refine wpAnyH_take (i := 1) (v := ?_) rfl (by kernel_rfl) (by kernel_rfl) (by kernel_rfl) (fun _ _ _ h => h) (Or.inl ⟨by rfl, ?_⟩) (by assumption) ?_
              rotate_left
              · (intro w hSw; (try dsimp only at hSw); go_simp) <;> with_reducible rfl
              try simp only [Act.put, List.setIfInBounds_toArray, List.set_cons_zero, List.set_cons_succ]
              refine wpAnyH_take (i := 2) (v := ?_) rfl (by kernel_rfl) (by kernel_rfl) (by kernel_rfl) (fun _ _ _ h => h) (Or.inl ⟨by rfl, ?_⟩) (by assumption) ?_
              rotate_left
              · (intro w hSw; (try dsimp only at hSw); go_simp) <;> with_reducible rfl
              try simp only [Act.put, List.setIfInBounds_toArray, List.set_cons_zero, List.set_cons_succ]
              refine wpAnyH_take (i := 3) (v := ?_) rfl (by kernel_rfl) (by kernel_rfl) (by kernel_rfl) (fun _ _ _ h => h) (Or.inl ⟨by rfl, ?_⟩) (by assumption) ?_
              rotate_left
              · (intro w hSw; (try dsimp only at hSw); go_simp) <;> with_reducible rfl
              try simp only [Act.put, List.setIfInBounds_toArray, List.set_cons_zero, List.set_cons_succ]
              refine wpAnyH_take (i := 4) (v := ?_) rfl (by kernel_rfl) (by kernel_rfl) (by kernel_rfl) (fun _ _ _ h => h) (Or.inl ⟨by rfl, ?_⟩) (by assumption) ?_
              rotate_left
              · (intro w hSw; (try dsimp only at hSw); go_simp) <;> with_reducible rfl
              try simp only [Act.put, List.setIfInBounds_toArray, List.set_cons_zero, List.set_cons_succ]
              refine wpAnyH_ready (rs := [5]) (by kernel_rfl) (by simp) ?_
              refine AllReadyH.cons rfl (fun K hK => ?_) AllReadyH.nil
              go_simp
              refine hK.out _ _ (hHeld) (fun hHeld => ?_)
              clear hK K
              try simp only [Act.put, List.setIfInBounds_toArray, List.set_cons_zero, List.set_cons_succ]
              refine wpAnyH_take (i := 6) (v := ?_) rfl (by kernel_rfl) (by kernel_rfl) (by kernel_rfl) (fun _ _ _ h => h) (Or.inl ⟨by rfl, ?_⟩) (by assumption) ?_
              rotate_left
              · (intro w hSw; (try dsimp only at hSw); go_simp) <;> with_reducible rfl
              try simp only [Act.put, List.setIfInBounds_toArray, List.set_cons_zero, List.set_cons_succ]
              refine wpAnyH_take (i := 7) (v := ?_) rfl (by kernel_rfl) (by kernel_rfl) (by kernel_rfl) (fun _ _ _ h => h) (Or.inl ⟨by rfl, ?_⟩) (by assumption) ?_
              rotate_left
              · (intro w hSw; (try dsimp only at hSw); go_simp) <;> with_reducible rfl
              try simp only [Act.put, List.setIfInBounds_toArray, List.set_cons_zero, List.set_cons_succ]
              refine wpAnyH_ready (rs := [8]) (by kernel_rfl) (by simp) ?_
              refine AllReadyH.cons rfl (fun K hK => ?_) AllReadyH.nil
              go_simp
              refine hK.out _ _ (hST _) (fun hHeld => ?_)
              clear hK K
              try simp only [Act.put, List.setIfInBounds_toArray, List.set_cons_zero, List.set_cons_succ]
              refine wpAnyH_done (by kernel_rfl) ?_ _
              have hSt := HMD.out.step HRK.out (A1 := some ⟨b', o1', none⟩) (c1 := 0) (by omega) (fun j q hq => by rw [List.eq_nil_of_length_eq_zero hfn] at hq; simp at hq) (((totR L - totR R : Nat) : Int) + 1) rfl
              rw [hfn] at hSt
              have hbi := HMD.out.bi.other (p := ⟨g, k, none⟩) hgi (.slice (some ⟨b', o1', none⟩) 0 0)
              have hb0 := HMD.out.b0.other (p := ⟨g, k, none⟩) hg0 (.slice (some ⟨b', o1', none⟩) 0 0)
              obtain ⟨wy, hwy⟩ : ∃ wy, (wx.setCell ⟨g, k, none⟩ (.slice (some ⟨b', o1', none⟩) 0 0)).drew = wy := ⟨_, rfl⟩
              have hwy2 : wx.drew.setCell ⟨g, k, none⟩ (.slice (some ⟨b', o1', none⟩) 0 0) = wy := hwy
              rw [hwy2] at hSt hbi hb0
              rw [hwy]
              obtain ⟨iN, hiN⟩ : ∃ iN, totR L - totR R = iN := ⟨_, rfl⟩
              rw [hiN] at hSt hbi
              have ci := hbi.cell (i := 0) rfl
              have fi := hbi.frozen 0
              have c3 := hb0.cell (i := 0) rfl
              have c3s := (hb0.other (p := ⟨z, 0, none⟩) hwz (.int .i64 ((iN : Int) + 1))).cell (i := 0) rfl
              have cis := (hbi.set 0 (.int .i64 ((iN : Int) + 1))).cell (i := 0) rfl
              have hiN0 : (0 : Int) ≤ (iN : Int) := Int.natCast_nonneg _
              have hiN1 : (iN : Int) + 1 ≤ 1000 := by omega
              obtain ⟨hS1, hS2, hS3, hS4⟩ := hSt
              have HKO := Lib.hid (((belowOthers HBX.out).trans (belowOthers (Below.refl _ wx).drew)).trans hS3)
              have HKT := Lib.hid (fun t ht => ((KTy.below (t := t) HBX.out).trans (KTy.below (Below.refl _ wx).drew)).trans (hS4 t ht))
              clear hS3 hS4 hwy hwy2 hbi hb0 hiN t0 t0d t1 t2 f0 f0d d5 hST HMX HMD HBX HTX hHeld
              by_cases hv : (iN : Int) + 1 = (M : Int)
              · have HS2 := Lib.hid (hS2 hv)
                have h1 := HKO.out
                have h2 := HKT.out
                have h3 := HS2.out
                rw [hv] at h1 h2 h3
                have HK1 := Lib.hid h1; have HK2 := Lib.hid h2; have HK3 := Lib.hid h3
                clear hS1 hS2 h1 h2 h3
                gi_wp2_with fail
                exact ⟨HK1.out.from _, HK2.out, rfl, HK3.out⟩
              · have HS1 := Lib.hid (hS1 hv)
                have hvb : ((iN : Int) + 1 == (M : Int)) = false := by simpa using hv
                clear hS1 hS2
                gi_wp2_with fail
                exact ⟨HKO.out.from _, HKT.out, HS1.out⟩
            · have hc2 : ¬ (c1' = 1) := hc0
              gi_wp2_with fail
              refine wpIn_held_round (S := fun w' => w'.cell? ⟨B + 1, 0, none⟩ = some (.slice (some ⟨g, 0, none⟩) L.length co)) l (by kernel_rfl) (by kernel_rfl) (by rintro ⟨a, w, h⟩; exact h) d5 (fun hHeld => ?_)
              refine wpAnyH_take (i := 0) (v := ?_) rfl (by kernel_rfl) (by kernel_rfl) (by kernel_rfl) (fun _ _ _ h => h) (Or.inl ⟨by rfl, ?_⟩) (by assumption) ?_
              rotate_left
              · (intro w hSw; (try dsimp only at hSw); go_simp) <;> with_reducible rfl
              try simp only [Act.put, List.setIfInBounds_toArray, List.set_cons_zero, List.set_cons_succ]
              refine wpAnyH_take (i := 1) (v := ?_) rfl (by kernel_rfl) (by kernel_rfl) (by kernel_rfl) (fun _ _ _ h => h) (Or.inl ⟨by rfl, ?_⟩) (by assumption) ?_
              rotate_left
              · (intro w hSw; (try dsimp only at hSw); go_simp) <;> with_reducible rfl
              try simp only [Act.put, List.setIfInBounds_toArray, List.set_cons_zero, List.set_cons_succ]
              refine wpAnyH_take (i := 2) (v := ?_) rfl (by kernel_rfl) (by kernel_rfl) (by kernel_rfl) (fun _ _ _ h => h) (Or.inl ⟨by rfl, ?_⟩) (by assumption) ?_
              rotate_left
              · (intro w hSw; (try dsimp only at hSw); go_simp) <;> with_reducible rfl
              try simp only [Act.put, List.setIfInBounds_toArray, List.set_cons_zero, List.set_cons_succ]
              refine wpAnyH_take (i := 3) (v := ?_) rfl (by kernel_rfl) (by kernel_rfl) (by kernel_rfl) (fun _ _ _ h => h) (Or.inl ⟨by rfl, ?_⟩) (by assumption) ?_
              rotate_left
              · (intro w hSw; (try dsimp only at hSw); go_simp) <;> with_reducible rfl
              try simp only [Act.put, List.setIfInBounds_toArray, List.set_cons_zero, List.set_cons_succ]
              refine wpAnyH_take (i := 4) (v := ?_) rfl (by kernel_rfl) (by kernel_rfl) (by kernel_rfl) (fun _ _ _ h => h) (Or.inl ⟨by rfl, ?_⟩) (by assumption) ?_
              rotate_left
              · (intro w hSw; (try dsimp only at hSw); go_simp) <;> with_reducible rfl
              try simp only [Act.put, List.setIfInBounds_toArray, List.set_cons_zero, List.set_cons_succ]
              refine wpAnyH_ready (rs := [5]) (by kernel_rfl) (by simp) ?_
              refine AllReadyH.cons rfl (fun K hK => ?_) AllReadyH.nil
              go_simp
              refine hK.out _ _ (hHeld) (fun hHeld => ?_)
              clear hK K
              try simp only [Act.put, List.setIfInBounds_toArray, List.set_cons_zero, List.set_cons_succ]
              refine wpAnyH_take (i := 6) (v := ?_) rfl (by kernel_rfl) (by kernel_rfl) (by kernel_rfl) (fun _ _ _ h => h) (Or.inl ⟨by rfl, ?_⟩) (by assumption) ?_
              rotate_left
              · (intro w hSw; (try dsimp only at hSw); go_simp) <;> with_reducible rfl
              try simp only [Act.put, List.setIfInBounds_toArray, List.set_cons_zero, List.set_cons_succ]
              refine wpAnyH_take (i := 7) (v := ?_) rfl (by kernel_rfl) (by kernel_rfl) (by kernel_rfl) (fun _ _ _ h => h) (Or.inl ⟨by rfl, ?_⟩) (by assumption) ?_
              rotate_left
              · (intro w hSw; (try dsimp only at hSw); go_simp) <;> with_reducible rfl
              try simp only [Act.put, List.setIfInBounds_toArray, List.set_cons_zero, List.set_cons_succ]
              refine wpAnyH_ready (rs := [8]) (by kernel_rfl) (by simp) ?_
              refine AllReadyH.cons rfl (fun K hK => ?_) AllReadyH.nil
              go_simp
              refine hK.out _ _ (hST _) (fun hHeld => ?_)
              clear hK K
              try simp only [Act.put, List.setIfInBounds_toArray, List.set_cons_zero, List.set_cons_succ]
              refine wpAnyH_done (by kernel_rfl) ?_ _
              have hSt := HMD.out.step HRK.out (A1 := some ⟨b', o1' + 2, none⟩) (c1 := c1' - 1) (by omega) (fun j q hq => ⟨b', o1' + 2, rfl, hbg', hbn', HTX.out j q hq⟩) (((totR L - totR R : Nat) : Int) + 1) rfl
              have hbi := HMD.out.bi.other (p := ⟨g, k, none⟩) hgi (.slice (some ⟨b', o1' + 2, none⟩) es.length (c1' - 1))
              have hb0 := HMD.out.b0.other (p := ⟨g, k, none⟩) hg0 (.slice (some ⟨b', o1' + 2, none⟩) es.length (c1' - 1))
              obtain ⟨wy, hwy⟩ : ∃ wy, (wx.setCell ⟨g, k, none⟩ (.slice (some ⟨b', o1' + 2, none⟩) es.length (c1' - 1))).drew = wy := ⟨_, rfl⟩
              have hwy2 : wx.drew.setCell ⟨g, k, none⟩ (.slice (some ⟨b', o1' + 2, none⟩) es.length (c1' - 1)) = wy := hwy
              rw [hwy2] at hSt hbi hb0
              rw [hwy]
              obtain ⟨iN, hiN⟩ : ∃ iN, totR L - totR R = iN := ⟨_, rfl⟩
              rw [hiN] at hSt hbi
              have ci := hbi.cell (i := 0) rfl
              have fi := hbi.frozen 0
              have c3 := hb0.cell (i := 0) rfl
              have c3s := (hb0.other (p := ⟨z, 0, none⟩) hwz (.int .i64 ((iN : Int) + 1))).cell (i := 0) rfl
              have cis := (hbi.set 0 (.int .i64 ((iN : Int) + 1))).cell (i := 0) rfl
              have hiN0 : (0 : Int) ≤ (iN : Int) := Int.natCast_nonneg _
              have hiN1 : (iN : Int) + 1 ≤ 1000 := by omega
              obtain ⟨hS1, hS2, hS3, hS4⟩ := hSt
              have HKO := Lib.hid (((belowOthers HBX.out).trans (belowOthers (Below.refl _ wx).drew)).trans hS3)
              have HKT := Lib.hid (fun t ht => ((KTy.below (t := t) HBX.out).trans (KTy.below (Below.refl _ wx).drew)).trans (hS4 t ht))
              clear hS3 hS4 hwy hwy2 hbi hb0 hiN t0 t0d t1 t2 f0 f0d d5 hST HMX HMD HBX HTX hHeld
              by_cases hv : (iN : Int) + 1 = (M : Int)
              · have HS2 := Lib.hid (hS2 hv)
                have h1 := HKO.out
                have h2 := HKT.out
                have h3 := HS2.out
                rw [hv] at h1 h2 h3
                have HK1 := Lib.hid h1; have HK2 := Lib.hid h2; have HK3 := Lib.hid h3
                clear hS1 hS2 h1 h2 h3
                gi_wp2_with fail
                exact ⟨HK1.out.from _, HK2.out, rfl, HK3.out⟩
              · have HS1 := Lib.hid (hS1 hv)
                have hvb : ((iN : Int) + 1 == (M : Int)) = false := by simpa using hv
                clear hS1 hS2
                gi_wp2_with fail
                exact ⟨HKO.out.from _, HKT.out, HS1.out⟩
      case done =>
        clear IT hMO
        rintro D W' hD ⟨R, hnil, hM⟩ hK
        have ht0 := totR_zero hnil
        have hbi := hM.bi
        have hcm := hM.c2
        rw [ht0, Nat.sub_zero] at hbi hcm
        have hb0 := hM.b0
        have hb1 := hM.b1
        have hbw := hM.bel
        clear hM hnil ht0
        have c9 := hbi.cell (i := 0) rfl
        have c3 := hb0.cell (i := 0) rfl
        have c4 := hb1.cell (i := 0) rfl
        have f4 := hb1.frozen 0
        have hWD : W.heap.size + 1 < D := by have := HMI.out.lt; have := HZ7.out; omega
        have hws : W.heap.size < W'.heap.size := hb0.lt
        have HK := Lib.hid hK; have HBW := Lib.hid hbw; have HB4' := Lib.hid hb1
        clear hbi hb0 hb1 hbw hK
        go_wp2_with fail
        have hkd := (Below.heap_setCell W' ⟨W.heap.size + 1, 0, none⟩ (.bool true) D (by simp; omega)).trans HK.out
        have hgp := grownBy_putObj' (W'.setCell ⟨W.heap.size + 1, 0, none⟩ (.bool true)) D (.deferred none)
        have hbb := HBW.out.setCell (p := ⟨W.heap.size + 1, 0, none⟩) (by simp) (.bool true)
        have c6f := ((HB4'.out.set 0 (.bool true)).kept hgp (by simp; omega)).cell (i := 0) rfl
        have HBB' := Lib.hid (hbb.grown hgp hbb.size (fun r e => by cases e; omega)); have HHD := Lib.hid hkd
        clear hkd hgp hbb
        refine ⟨by simp, .inl ⟨_, _, rfl, run_takeDeferred HHD.out, ?_⟩⟩
        refine ⟨.bool true, (results_cell1 rfl _ _ _).trans ?_, rfl, HBB'.out⟩
        go_simp
      case stop =>
        clear IT hMO
        rintro D c' W' hD ⟨rfl, hX⟩ hK
        have hbi := hX.bi
        have hle := hX.le
        have hb0 := hX.b0
        have hb1 := hX.b1
        have hbw := hX.bel
        clear hX
        have c9 := hbi.cell (i := 0) rfl
        have c3 := hb0.cell (i := 0) rfl
        have c4 := hb1.cell (i := 0) rfl
        have f4 := hb1.frozen 0
        have hWD : W.heap.size + 1 < D := by have := HMI.out.lt; have := HZ7.out; omega
        have hws : W.heap.size < W'.heap.size := hb0.lt
        have HK := Lib.hid hK; have HBW := Lib.hid hbw; have HB4' := Lib.hid hb1
        clear hbi hb0 hb1 hbw hK
        gi_wp2
        go_wp2_with fail
        have hkd := (Below.heap_setCell W' ⟨W.heap.size + 1, 0, none⟩ (.bool true) D (by simp; omega)).trans HK.out
        have hgp := grownBy_putObj' (W'.setCell ⟨W.heap.size + 1, 0, none⟩ (.bool true)) D (.deferred none)
        have hbb := HBW.out.setCell (p := ⟨W.heap.size + 1, 0, none⟩) (by simp) (.bool true)
        have c6f := ((HB4'.out.set 0 (.bool true)).kept hgp (by simp; omega)).cell (i := 0) rfl
        have HBB' := Lib.hid (hbb.grown hgp hbb.size (fun r e => by cases e; omega)); have HHD := Lib.hid hkd
        clear hkd hgp hbb
        refine ⟨by simp, .inl ⟨_, _, rfl, run_takeDeferred HHD.out, ?_⟩⟩
        refine ⟨.bool true, (results_cell1 rfl _ _ _).trans ?_, rfl, HBB'.out⟩
        go_simp
end Go.Proofs.Ytbhpokcnkdgcmaa.HeapM
