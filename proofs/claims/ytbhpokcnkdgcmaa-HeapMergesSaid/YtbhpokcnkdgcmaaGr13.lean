/- HeapAl, MgS, MgT, laid together. -/
import Derived.Test.YtbhpokcnkdgcmaaGr12
import Derived.Test.YtbhpokcnkdgcmaaGr08
import Derived.Sort.QuietIn
import Derived.BigQuiet
import Derived.Laws.Bits128
import Derived.Deep.AppendLies
import Derived.Deep.Upon
import Derived.Deep.RegionHeld3

/- the heap laws' own functions: comparisons, the document's example. -/
set_option linter.unusedSimpArgs false
set_option linter.unusedVariables false
namespace Go.Proofs.Ytbhpokcnkdgcmaa.HeapI
open Go.RowKit Go.Shelf Go.Proofs.Ytbhpokcnkdgcmaa.HeapL
attribute [local go_sem] Oper.semAt_some

def ltI (x y : Int) : Bool := decide (x < y)
def gtI (x y : Int) : Bool := decide (y < x)
theorem ltI_ord : Ord ltI where
  asym x y h := by simp [ltI] at *; omega
  tr x y z h1 h2 := by simp [ltI] at *; omega
theorem gtI_ord : Ord gtI where
  asym x y h := by simp [gtI] at *; omega
  tr x y z h1 h2 := by simp [gtI] at *; omega

set_option maxHeartbeats 400000 in
theorem bf1 (b p : Nat) (W : World) : BF ltI b p W 79 #[] := by
  refine ⟨enters_of Try.func79 (by kernel_rfl) rfl, fun x y W' _ => ?_⟩
  show Calls Try.prog 79 #[.int .i64 x, .int .i64 y] W' _
  go_enter Try.func79, Try.ntmps79
  go_wp2_with fail
  go_ret
  exact ⟨rfl, Below.refl _ _⟩
set_option maxHeartbeats 400000 in
theorem bf2 (b p : Nat) (W : World) : BF gtI b p W 86 #[] := by
  refine ⟨enters_of Try.func86 (by kernel_rfl) rfl, fun x y W' _ => ?_⟩
  show Calls Try.prog 86 #[.int .i64 x, .int .i64 y] W' _
  go_enter Try.func86, Try.ntmps86
  go_wp2_with fail
  go_ret
  exact ⟨rfl, Below.refl _ _⟩
set_option maxHeartbeats 400000 in
theorem bf3 (b p : Nat) (W : World) : BF ltI b p W 89 #[] := by
  refine ⟨enters_of Try.func89 (by kernel_rfl) rfl, fun x y W' _ => ?_⟩
  show Calls Try.prog 89 #[.int .i64 x, .int .i64 y] W' _
  go_enter Try.func89, Try.ntmps89
  go_wp2_with fail
  go_ret
  exact ⟨rfl, Below.refl _ _⟩
set_option maxHeartbeats 400000 in
theorem bf4 (b p : Nat) (W : World) : BF ltI b p W 91 #[] := by
  refine ⟨enters_of Try.func91 (by kernel_rfl) rfl, fun x y W' _ => ?_⟩
  show Calls Try.prog 91 #[.int .i64 x, .int .i64 y] W' _
  go_enter Try.func91, Try.ntmps91
  go_wp2_with fail
  go_ret
  exact ⟨rfl, Below.refl _ _⟩

theorem gives2 {W W2 : World} {a b : Int} {arr : TypeId} (hw : W2 = (W.alloc (.cells #[.int .i64 a, .int .i64 b] arr)).alloc (.cells #[.slice (some ⟨W.heap.size, 0, none⟩) 2 2] 110)) : Gives 117 #[.pointer (some ⟨W.heap.size + 1, 0, none⟩)] W2.heap.size W2 ev [a, b] 0 := by
  have h2 := Blk.new2 W (.cells #[.int .i64 a, .int .i64 b] arr) [.slice (some ⟨W.heap.size, 0, none⟩) 2 2] 110
  have h1 := (Blk.new W [.int .i64 a, .int .i64 b] arr).alloc (.cells #[.slice (some ⟨W.heap.size, 0, none⟩) 2 2] 110)
  have hz : W2.heap.size = W.heap.size + 2 := by rw [hw]; simp
  rw [hz, hw]
  refine values_gives _ _ _ (.slice (some ⟨W.heap.size, 0, none⟩) 2 2) [a, b] (by simp) (by omega) h2 (.inr ⟨W.heap.size, 0, 2, rfl, by omega, fun j x hx c v hv => ?_⟩)
  have hc : c = 0 := by have := (List.getElem?_eq_some_iff.1 hv).1; simp [cv] at this; omega
  subst hc
  rcases j with _ | _ | j
  · simp at hx; subst hx; exact h1.cell (i := 0) (by simpa [cv] using hv)
  · simp at hx; subst hx; exact h1.cell (i := 1) (by simpa [cv] using hv)
  · simp at hx

set_option maxRecDepth 100000 in
set_option maxHeartbeats 4000000 in
theorem alive_any (W : World) : Calls Try.prog 29 #[] W fun e w' => e = .returned (.bool true) ∧ Below W.heap.size W w' := by
  go_enter Try.func29, Try.ntmps29
  go_wp2_with fail
  refine (new_hs ltI W 79 #[]).mono ?_; rintro e w1 ⟨rfl, hS1, hw1⟩
  have hB1 : Below W.heap.size W w1 := by rw [hw1]; exact (Below.refl _ W).alloc (Nat.le_refl _) _
  clear hw1
  obtain ⟨p, hp⟩ : ∃ p, W.heap.size = p := ⟨_, rfl⟩
  rw [hp] at hS1 hB1 ⊢
  go_wp2_with fail
  refine (put_hs ltI ltI_ord w1 p p _ #[] [] 0 3 (by omega) (by simp) hS1 (bf1 _ _ _)).mono ?_; rintro e w2 ⟨rfl, hS2, hF2⟩
  go_wp2_with fail
  refine (put_hs ltI ltI_ord w2 p p _ #[] _ 1 1 (by omega) (by simp [insV]) hS2 (bf1 _ _ _)).mono ?_; rintro e w3 ⟨rfl, hS3, hF3⟩
  go_wp2_with fail
  refine (put_hs ltI ltI_ord w3 p p _ #[] _ 2 2 (by omega) (by simp [insV]; decide) hS3 (bf1 _ _ _)).mono ?_; rintro e w4 ⟨rfl, hS4, hF4⟩
  have hS4' : HS w4 p p ltI 79 #[] [1, 2, 3] 3 := hS4
  have hB4 := hB1.trans (hF2.below.trans (hF3.below.trans hF4.below))
  clear hS1 hS2 hS3 hS4 hB1 hF2 hF3 hF4
  go_wp2_with fail
  refine (top_hs ltI ltI_ord w4 p p _ #[] _ _ hS4').mono ?_; rintro e w5 ⟨rfl, hb5⟩
  have hS5 := hS4'.below hb5
  unfold ev
  go_wp2_with fail
  refine (drain_any w5 _).mono ?_; rintro e w6 ⟨rfl, hw6⟩
  have hx6 : Boxed w6 w5.heap.size 104 (.pointer (some ⟨p, 0, none⟩)) := by rw [hw6]; exact Boxed.new _ _ _
  have hb6 : Below w5.heap.size w5 w6 := by rw [hw6]; exact (Below.refl _ _).alloc (Nat.le_refl _) _
  have hS6 := hS5.below hb6
  clear hw6
  go_wp2_with fail
  refine (collect_any ltI ltI_ord w6 p p _ _ _ #[] [1, 2, 3] (by simp) (fun W' => bf1 _ _ _) (Nat.le_refl _) hS6 hx6).mono ?_; rintro e w7 ⟨v7, rfl, hO7, hS7, hf7⟩
  go_wp2_with fail
  refine (pop_hs_nil ltI w7 p p _ #[] _ hS7).mono ?_; rintro e w8 ⟨rfl, hb8⟩
  have hz6 : p ≤ w6.heap.size := by have := hS6.lt'; omega
  have hB8 : Below p W w8 := hB4.trans ((hb5.mono (by have := hS4'.lt'; omega)).trans ((hb6.mono (by have := hS5.lt'; omega)).trans (hf7.below.trans (hb8.mono (by have := hS7.lt'; omega)))))
  have hS8 := hS7.below hb8
  obtain ⟨g7, c7, rfl⟩ := ownsRow_succ (k := 2) hO7
  have g7c : w8.cell? ⟨g7, 2, none⟩ = some (.int .i64 3) := by
    have h7 : g7 < w7.heap.size := by obtain ⟨_, cs, fr, hc⟩ := own_typ hO7 g7 rfl; exact (Array.getElem?_eq_some_iff.1 hc).1
    rw [(bcell hb8).1 _ _ h7]
    exact hO7.cellAt 2 (by simp)
  have g7l : g7 < w8.heap.size := by
    have h7 : g7 < w7.heap.size := by obtain ⟨_, cs, fr, hc⟩ := own_typ hO7 g7 rfl; exact (Array.getElem?_eq_some_iff.1 hc).1
    have := hb8.size
    omega
  clear hO7 hS7 hf7 hb8 hS6 hx6 hb6 hS5 hb5 hS4' hB4 hz6
  unfold ev
  go_wp2_with fail
  refine (values_any _ _ _ _).mono ?_; rintro e w9 ⟨rfl, hw9⟩
  have hb9 : Below w8.heap.size w8 w9 := by rw [hw9]; exact bel_alloc2 _ _ _
  have hg9 := gives2 hw9
  simp only [World.size_alloc] at ⊢
  clear hw9
  go_wp2_with fail
  refine (from_any gtI gtI_ord w9 _ #[] _ _ [1, 2] (by simp) (fun W' _ => bf2 _ _ _) hg9).mono ?_; rintro e w10 ⟨rfl, hS10, hb10⟩
  have hS10' : HS w10 w9.heap.size w9.heap.size gtI 86 #[] [2, 1] 2 := hS10
  clear hS10 hg9
  go_wp2_with fail
  refine (pop_hs_cons gtI gtI_ord w10 _ _ _ #[] 2 [1] _ (by simp) hS10' (bf2 _ _ _)).mono ?_; rintro e w11 ⟨rfl, hS11, hF11⟩
  obtain ⟨q, hq⟩ : ∃ q, w9.heap.size = q := ⟨_, rfl⟩
  have hz9 := hb9.size
  have hz10 := hb10.size
  have hz11 := hF11.size
  have hB11 : Below w8.heap.size w8 w11 := hb9.trans ((hb10.mono hz9).trans (hF11.below.mono hz9))
  rw [hq] at hS11 hz9 hz10 ⊢
  clear hS10' hF11 hb10 hb9 hq
  unfold ev
  go_wp2_with fail
  refine (values_any _ _ _ _).mono ?_; rintro e w12 ⟨rfl, hw12⟩
  have hb12 : Below w11.heap.size w11 w12 := by rw [hw12]; exact bel_alloc2 _ _ _
  have hg12 := gives2 hw12
  simp only [World.size_alloc] at ⊢
  clear hw12
  go_wp2_with fail
  refine (sorted_any ltI ltI_ord w12 _ #[] _ _ [2, 1] (by simp) (fun b p W' _ _ _ => bf3 _ _ _) hg12).mono ?_; rintro e w13 ⟨v13, rfl, hO13, hb13⟩
  have hO13' : w13.ownsRow w12.heap.size 3 1 v13 2 [.int .i64 1, .int .i64 2] := hO13
  obtain ⟨g13, c13, rfl⟩ := ownsRow_succ (k := 1) hO13'
  have k13 : w13.cell? ⟨g13, 0, none⟩ = some (.int .i64 1) := hO13'.cellAt 0 (by simp)
  have l13 : g13 < w13.heap.size := by obtain ⟨_, cs, fr, hc⟩ := own_typ hO13' g13 rfl; exact (Array.getElem?_eq_some_iff.1 hc).1
  clear hO13 hO13' hg12
  go_wp2_with fail
  refine (values_any _ _ _ _).mono ?_; rintro e w14 ⟨rfl, hw14⟩
  have hb14 : Below w13.heap.size w13 w14 := by rw [hw14]; exact bel_alloc2 _ _ _
  have hg14 := gives2 hw14
  simp only [World.size_alloc] at ⊢
  clear hw14
  go_wp2_with fail
  refine (firsts_any ltI ltI_ord w14 1 _ #[] _ _ [2, 1] (by simp) (fun W' _ => bf4 _ _ _) hg14).mono ?_; rintro e w15 ⟨v15, rfl, hO15, hb15⟩
  have hO15' : w15.ownsRow w14.heap.size 3 1 v15 1 [.int .i64 1] := hO15
  obtain ⟨g15, c15, rfl⟩ := ownsRow_succ (k := 0) hO15'
  have k15 : w15.cell? ⟨g15, 0, none⟩ = some (.int .i64 1) := hO15'.cellAt 0 (by simp)
  clear hO15 hO15' hg14
  have hBx : Below w11.heap.size w11 w13 := hb12.trans (hb13.mono hb12.size)
  have hB15 : Below w13.heap.size w13 w15 := hb14.trans (hb15.mono hb14.size)
  have hBy : Below w11.heap.size w11 w15 := hBx.trans (hB15.mono hBx.size)
  have hBz : Below w8.heap.size w8 w15 := hB11.trans (hBy.mono hB11.size)
  have m13 : w15.cell? ⟨g13, 0, none⟩ = some (.int .i64 1) := by rw [(bcell hB15).1 _ _ l13]; exact k13
  have m7 : w15.cell? ⟨g7, 2, none⟩ = some (.int .i64 3) := by rw [(bcell hBz).1 _ _ g7l]; exact g7c
  have hSa := hS8.below hBz
  have hSb := hS11.below hBy
  have hBf : Below p W w15 := hB8.trans (hBz.mono (by have := hB8.size; omega))
  clear k13 g7c hS8 hS11 hBx hB15 hBy hBz hB8 hB11 hb12 hb13 hb14 hb15
  go_wp2_with fail
  refine (len_hs ltI w15 p p _ #[] [] _ hSa).mono ?_; rintro e w16 ⟨rfl, rfl⟩
  go_wp2_with fail
  refine (len_hs gtI w15 q q _ #[] [1] _ hSb).mono ?_; rintro e w17 ⟨rfl, rfl⟩
  go_wp2_with fail
  go_ret
  exact ⟨rfl, by rw [hp]; exact hBf⟩

end Go.Proofs.Ytbhpokcnkdgcmaa.HeapI

/- HeapMerges: what the law holds; a region that only reads, within a round. -/
set_option linter.unusedSimpArgs false
set_option linter.unusedVariables false
namespace Go.Proofs.Ytbhpokcnkdgcmaa.HeapM
open Go.RowKit Go.Shelf Go.Proofs.Ytbhpokcnkdgcmaa.HeapL
attribute [local go_sem] Oper.semAt_some

/-- a region that only reads, within a round -/
theorem region_quiet_round {F : Fence} {n : Nat} {P : Program} {id : Nat} {Q : Exit → Act → World → Prop} {a : Act} {w : World} {l : List Oper} (r : Nat) (hro : F.round = none) (hm : P.follows .mixedOrders = true) (hB : Region.lexB .any l.toArray = true) (hnd : noDefer l.toArray = true)
    (h : wpQuietIn F n P l.toArray (fun w' => ∃ n, w' = w.drewN n) (fun a' => ∀ w', (∃ n, w' = w.drewN n) → Q .normal a' w') l a) : (Code.region id l.toArray true).wpIn (F.inRound r) n P Q a w := by
  simp only [Region.lexB, Bool.and_eq_true] at hB
  refine wpIn_region_any hm (wpAnyIn_inRound r hro hnd (wpAnyIn_of_quiet (C := fun w' => ∃ n, w' = w.drewN n) (Q := fun a' => ∀ w', (∃ n, w' = w.drewN n) → Q .normal a' w') hro (fun _ w' hw' h => h w' hw') _ _ _ _ ⟨1, rfl⟩ ?_))
  have := wpAnyQIn_lex (F := F) (n := n) (C := fun w' => ∃ n, w' = w.drewN n) (md := .any) hB.1 l 0 (Array.replicate l.toArray.size false) a (by simp) (by simpa using hB.2) h
  simpa using this
theorem results_cell1 {fn : Func} {p : Tmp} {ty : TypeId} (h : fn.results = #[.cell p ty]) (tmps : Array Value) (P : Program) (w : World) :
    (results fn tmps).run P w = ((asAddr (tmps.getD p undef)).run P w).andThen fun a w₁ => (loadVar ty a).run P w₁ := by
  simp only [results, h]
  simp [Sem.run_bind]
/-- the function's own cells -/
structure Q0 (W : World) (mo : Int) (W' : World) : Prop where
  b5 : Blk W' W.heap.size 3 [.int .i64 mo]
  b6 : Blk W' (W.heap.size + 1) 4 [.bool false]
  bel : Below W.heap.size W W'
theorem Q0.below {W : World} {mo : Int} {A B : World} (h : Q0 W mo A) (hb : Below A.heap.size A B) : Q0 W mo B := ⟨h.b5.belowS hb, h.b6.belowS hb, h.bel.trans (hb.mono h.bel.size)⟩
theorem PLS.below {W W' : World} {v : Value} {vals : List (Nat × Nat × Nat)} {L : List (List Pr)} (h : PLS W v vals L) (hb : Below W.heap.size W W') : PLS W' v vals L := by
  obtain ⟨A, c, rfl, hq⟩ := h
  refine ⟨A, c, rfl, fun k l hl => ?_⟩
  obtain ⟨g, off, A1, c1, h1, h2, h3, h4, h5⟩ := hq k l hl
  refine ⟨g, off, A1, c1, h1, Nat.lt_of_lt_of_le h2 hb.size, (hb.cell (p := ⟨g, off + k, none⟩) h2).trans h3, h4, fun hne => ?_⟩
  obtain ⟨b, o, e1, e2, e3, e4⟩ := h5 hne
  exact ⟨b, o, e1, e2, Nat.lt_of_lt_of_le e3 hb.size, fun j q hj => ⟨(hb.cell (p := ⟨b, o + j * 2, none⟩) e3).trans (e4 j q hj).1, (hb.cell (p := ⟨b, o + j * 2 + 1, none⟩) e3).trans (e4 j q hj).2⟩⟩
/-- what is left of the lists, in a row of slices at gL -/
def LF (gL N : Nat) (R : List (List Pr)) (W' : World) : Prop := ∀ (k : Nat) l, R[k]? = some l → ∃ A1 c1, W'.cell? ⟨gL, k, none⟩ = some (.slice A1 l.length c1) ∧ l.length ≤ c1 ∧ ∀ (j : Nat) q, l[j]? = some q → ∃ b o, A1 = some ⟨b, o, none⟩ ∧ b ≠ gL ∧ b < N ∧ W'.cell? ⟨b, o + j * 2, none⟩ = some (.int .i64 q.1) ∧ W'.cell? ⟨b, o + j * 2 + 1, none⟩ = some (.int .i64 q.2)
theorem LF.below {gL N : Nat} {R : List (List Pr)} {A C : World} (h : LF gL N R A) (hg : gL < N) (hb : Below N A C) : LF gL N R C := fun k l hl => by
  obtain ⟨A1, c1, h1, h2, h3⟩ := h k l hl
  refine ⟨A1, c1, (hb.cell (p := ⟨gL, k, none⟩) hg).trans h1, h2, fun j q hq => ?_⟩
  obtain ⟨b, o, e1, e2, e3, e4, e5⟩ := h3 j q hq
  exact ⟨b, o, e1, e2, e3, (hb.cell (p := ⟨b, o + j * 2, none⟩) e3).trans e4, (hb.cell (p := ⟨b, o + j * 2 + 1, none⟩) e3).trans e5⟩
/-- what the law chooses among the first k lists -/
def sel (R : List (List Pr)) (k : Nat) (a : Int) : Prop := (a = -1 ∧ ∀ j, j < k → R.getD j [] = []) ∨ ∃ (j : Nat) (p : Pr) (es : List Pr), a = (j : Int) ∧ j < k ∧ R[j]? = some (p :: es) ∧ ∀ (i : Nat) q fs, i < k → R[i]? = some (q :: fs) → p.1 ≤ q.1 ∧ (i < j → p.1 < q.1)
theorem sel_none {R : List (List Pr)} {k : Nat} {a : Int} (h : sel R k a) (hk : R[k]? = some []) : sel R (k + 1) a := by
  have hx : ∀ i, i < k + 1 → ∀ q fs, R[i]? = some (q :: fs) → i < k := fun i hi q fs hq => by
    by_cases e : i = k
    · subst e; rw [hk] at hq; cases hq
    · omega
  rcases h with ⟨h1, h2⟩ | ⟨j, p, es, h1, h2, h3, h4⟩
  · refine .inl ⟨h1, fun j hj => ?_⟩
    by_cases e : j = k
    · subst e; rw [List.getD_eq_getElem?_getD, hk]; rfl
    · exact h2 j (by omega)
  · exact .inr ⟨j, p, es, h1, by omega, h3, fun i q fs hi hq => h4 i q fs (hx i hi q fs hq) hq⟩
theorem sel_first {R : List (List Pr)} {k : Nat} (h : sel R k (-1)) {p : Pr} {es : List Pr} (hk : R[k]? = some (p :: es)) : sel R (k + 1) (k : Int) := by
  rcases h with ⟨_, h2⟩ | ⟨j, _, _, h1, _⟩
  · refine .inr ⟨k, p, es, rfl, by omega, hk, fun i q fs hi hq => ?_⟩
    by_cases e : i = k
    · subst e
      rw [hk] at hq
      injection hq with hq
      injection hq with hq _
      subst hq
      exact ⟨Int.le_refl _, fun h => by omega⟩
    · have := h2 i (by omega)
      rw [List.getD_eq_getElem?_getD, hq] at this
      cases this
  · omega
theorem sel_less {R : List (List Pr)} {k j : Nat} (h : sel R k (j : Int)) {p q : Pr} {es fs : List Pr} (hj : R[j]? = some (p :: es)) (hk : R[k]? = some (q :: fs)) (hl : q.1 < p.1) : sel R (k + 1) (k : Int) := by
  rcases h with ⟨h1, _⟩ | ⟨j', p', es', h1, h2, h3, h4⟩
  · omega
  · obtain rfl : j' = j := by omega
    rw [hj] at h3
    injection h3 with h3
    injection h3 with h3 h5
    subst h3
    refine .inr ⟨k, q, fs, rfl, by omega, hk, fun i r gs hi hr => ?_⟩
    by_cases e : i = k
    · subst e
      rw [hk] at hr
      injection hr with hr
      injection hr with hr _
      subst hr
      exact ⟨Int.le_refl _, fun h => by omega⟩
    · have := (h4 i r gs (by omega) hr).1
      exact ⟨by omega, fun _ => by omega⟩
theorem sel_more {R : List (List Pr)} {k j : Nat} (h : sel R k (j : Int)) {p q : Pr} {es fs : List Pr} (hj : R[j]? = some (p :: es)) (hk : R[k]? = some (q :: fs)) (hl : ¬ q.1 < p.1) : sel R (k + 1) (j : Int) := by
  rcases h with ⟨h1, _⟩ | ⟨j', p', es', h1, h2, h3, h4⟩
  · omega
  · obtain rfl : j' = j := by omega
    rw [hj] at h3
    injection h3 with h3
    injection h3 with h3 h5
    subst h3
    refine .inr ⟨j', p, es', rfl, by omega, by rw [hj, h5], fun i r gs hi hr => ?_⟩
    by_cases e : i = k
    · subst e
      rw [hk] at hr
      injection hr with hr
      injection hr with hr _
      subst hr
      exact ⟨by omega, fun h => by omega⟩
    · exact h4 i r gs (by omega) hr
/-- it is the list that comes -/
theorem sel_eq {R : List (List Pr)} {a : Int} (h : sel R R.length a) {k : Nat} {p : Pr} {es : List Pr} (hk : R[k]? = some (p :: es)) (hm : ∀ (j : Nat) q fs, R[j]? = some (q :: fs) → p.1 ≤ q.1 ∧ (j < k → p.1 < q.1)) : a = (k : Int) := by
  have hkl := (List.getElem?_eq_some_iff.1 hk).1
  rcases h with ⟨_, h2⟩ | ⟨j, p', es', h1, h2, h3, h4⟩
  · have := h2 k hkl
    rw [List.getD_eq_getElem?_getD, hk] at this
    cases this
  · have g1 := hm j p' es' h3
    have g2 := h4 k p es hkl hk
    by_cases e : j = k
    · rw [h1, e]
    · rcases Nat.lt_or_gt_of_ne e with h5 | h5
      · have := g1.2 h5; omega
      · have := g2.2 h5; omega
end Go.Proofs.Ytbhpokcnkdgcmaa.HeapM

/- HeapMerges: the lists are copied. -/
set_option linter.unusedSimpArgs false
set_option linter.unusedVariables false
namespace Go.Proofs.Ytbhpokcnkdgcmaa.HeapM
open Go.RowKit Go.Shelf Go.Proofs.Ytbhpokcnkdgcmaa.HeapL
attribute [local go_sem] Oper.semAt_some

abbrev tP : TypeId := 37
def cP (x : Pr) : List Value := [.int .i64 x.1, .int .i64 x.2]
theorem cP_length (x : Pr) : (cP x).length = 2 := rfl
theorem info_parts' {o : Option TypeInfo} {z : Option Value} {n m : Nat} (h : o.map (fun i => (i.zero, i.size, i.bytes)) = some (z, n, m)) : ∃ i, o = some i ∧ i.zero = z ∧ i.size = n ∧ i.bytes = m := by
  cases o with
  | none => simp at h
  | some i => simp at h; exact ⟨i, rfl, h.1, h.2.1, h.2.2⟩
theorem own_lo {b b' size n : Nat} {e : TypeId} {w : World} {v : Value} {xs : List Value} (h : w.ownsRow b e size v n xs) (hb : b' ≤ b) : w.ownsRow b' e size v n xs := by
  refine ⟨h.1, ?_⟩
  rcases h.2 with h2 | ⟨g, cap, cur, h1, h2, h3⟩
  · exact .inl h2
  · exact .inr ⟨g, cap, cur, h1, by omega, h3⟩
theorem own_nq {w : World} {b b' n n' size size' : Nat} {e e' : TypeId} {v v' : Value} {xs xs' : List Value} (h : w.ownsRow b e size v n xs) (h' : w.ownsRow b' e' size' v' n' xs') (ht : e ≠ e') : ∀ k, v'.ownBlock = some k → v.ownBlock ≠ some k := by
  intro k hk hk2
  obtain ⟨_, c1, f1, g1⟩ := own_typ h k hk2
  obtain ⟨_, c2, f2, g2⟩ := own_typ h' k hk
  rw [g1] at g2
  simp at g2
  exact ht g2.2.1
theorem own_keep {w w' : World} {b b' n n' size size' : Nat} {e e' : TypeId} {v v' : Value} {xs xs' : List Value} (h : w.ownsRow b e size v n xs) (h' : w.ownsRow b' e' size' v' n' xs') (ht : e ≠ e') (hg : w.grownBy w' v'.ownBlock) : w'.ownsRow b e size v n xs := by
  refine h.kept hg ?_
  cases hv : v'.ownBlock with
  | none =>
    cases hv2 : v.ownBlock with
    | none => exact .inl rfl
    | some k => exact .inr (by simp)
  | some k => exact .inr (own_nq h h' ht k hv)
theorem own_bel {w w' : World} {b n size : Nat} {e : TypeId} {v : Value} {xs : List Value} (h : w.ownsRow b e size v n xs) (hb : Below w.heap.size w w') : w'.ownsRow b e size v n xs := by
  refine ⟨h.1, ?_⟩
  rcases h.2 with h2 | ⟨g, cap, cur, h1, h2, h3, h4⟩
  · exact .inl h2
  · exact .inr ⟨g, cap, cur, h1, h2, (hb.block g (Array.getElem?_eq_some_iff.1 h3).1).trans h3, h4⟩
theorem own_shape {w : World} {b n size : Nat} {e : TypeId} {v : Value} {xs : List Value} (h : w.ownsRow b e size v n xs) : ∃ A c, v = .slice A n c := by
  rcases h.2 with ⟨h2, h3⟩ | ⟨g, cap, cur, h1, h2⟩
  · subst h3; exact ⟨_, _, h2⟩
  · exact ⟨_, _, h1⟩
/-- any list is appended, nothing too -/
theorem step_append_all {P : Program} {ops : Array Oper} {o : Oper} {a : Act} {w : World} {K : Act → World → Prop} {Q : Exit → Act → World → Prop} {E : Prop} (hgd : o.guard = none) (s x : Operand) (t : TypeId)
    (ho : o.op = .call { callee := .builtin .append, args := #[s, x], argTypes := #[t, t] })
    (base : Nat) (e : TypeId) (i : TypeInfo) (z : Value) (size bytes : Nat) (ht : P.underlying t = some (.slice e)) (hi : P.info? e = some i) (hz : i.zero = some z)
    (hsize : i.size = size) (hby : i.bytes = bytes) (hzs : z.cells.size = size) (hsz : 0 < size)
    (A0 : Option Addr) (n c0 : Nat) (xs : List Value) (hs : a.eval s = .slice A0 n c0) (hnc : n ≤ c0) (hown : w.ownsRow base e size (.slice A0 n c0) n xs)
    (A1 : Option Addr) (m c : Nat) (news : List Value) (hx : a.eval x = .slice A1 m c) (hl : news.length = m * size) (hnews : 0 < m → ∃ ad, A1 = some ad ∧ ∀ j u, news[j]? = some u → w.cell? (ad.add j) = some u) (h1 : ∀ u ∈ news, u.oneCell' = true)
    (h63 : n + m ≤ maxLen) (hbytes : (n + m) * bytes ≤ 140737488355328) (hbase : base ≤ w.heap.size)
    (h : ∀ v' w', w'.ownsRow base e size v' (n + m) (xs ++ news) → w.grownBy w' (Value.ownBlock (.slice A0 n c0)) → K (a.put o.dst v') w') :
    if Region.wanted o (yielded ops a.tmps) = true then Oper.wp P o a w K Q else E := by
  have hw : Region.wanted o (yielded ops a.tmps) = true := by simp [Region.wanted, hgd]
  rw [if_pos hw]
  unfold Oper.wp execOp
  by_cases h0 : m = 0
  · subst h0
    obtain rfl : news = [] := List.eq_nil_of_length_eq_zero (by omega)
    have hr := run_append_nothing (P := P) w t t o.type e i ht hi A0 n c0 hnc (.slice A1 0 c) ⟨.inl ⟨e, ht⟩, fun _ => rfl, by cases A1 <;> simp [Builtin.firstCells, go_sem], by cases A1 <;> simp [Builtin.firstCells, go_sem], by simp, by simp⟩
    simp only [ho, resolve, invoke, builtin, Sem.run_bind, Sem.run_pure, Result.andThen_ok, List.map_toArray, List.map_cons, List.map_nil, hs, hx, hr]
    exact h _ _ (by simpa using hown) ⟨rfl, rfl, rfl, Nat.le_refl _, fun _ _ _ => rfl⟩
  · obtain ⟨ad, rfl, hn⟩ := hnews (by omega)
    obtain ⟨v', w', hr, h2, h3, _, h5⟩ := run_append_own_at (P := P) w base t o.type e i z size bytes ht hi hz hsize hby hzs hsz _ n xs hown ad m c news hl hn h1 h63 hbytes hbase
    simp only [ho, resolve, invoke, builtin, Sem.run_bind, Sem.run_pure, Result.andThen_ok, List.map_toArray, List.map_cons, List.map_nil, hs, hx, hr]
    exact h v' w' h2 h3
/-- the copies -/
structure LS (W : World) (mo : Int) (B : Nat) (ls : List (List Pr)) (o : Value) (vs : List Value) (A : World) : Prop where
  q : Q0 W mo A
  bl : Blk A (B + 1) tPss [o]
  n : vs.length = ls.length
  own : A.ownsRow B tPs 1 o ls.length vs
  each : ∀ (i : Nat) v l, vs[i]? = some v → ls[i]? = some l → A.ownsRow B tP 2 v l.length (cellsOf cP l)
  sz : W.heap.size + 2 ≤ B
theorem LS.below {W : World} {mo : Int} {B : Nat} {ls : List (List Pr)} {o : Value} {vs : List Value} {A C : World} (h : LS W mo B ls o vs A) (hb : Below A.heap.size A C) : LS W mo B ls o vs C :=
  ⟨h.q.below hb, h.bl.belowS hb, h.n, own_bel h.own hb, fun i v l a b => own_bel (h.each i v l a b) hb, h.sz⟩
theorem Q0.bel2 {W : World} {mo : Int} {A C : World} {N : Nat} (h : Q0 W mo A) (hN : W.heap.size + 2 ≤ N) (hb : Below N A C) : Q0 W mo C := ⟨h.b5.below hb (by omega), h.b6.below hb (by omega), h.bel.trans (hb.mono (by omega))⟩
theorem LS.snoc {W : World} {mo : Int} {B : Nat} {ls : List (List Pr)} {o o' : Value} {vs : List Value} {A C : World} {v : Value} {l : List Pr} (h : LS W mo B ls o vs A) (hv : A.ownsRow B tP 2 v l.length (cellsOf cP l)) (ho : C.ownsRow B tPs 1 o' (ls.length + 1) (vs ++ [v])) (hg : A.grownBy C o.ownBlock) : LS W mo B (ls ++ [l]) o' (vs ++ [v]) (C.setCell ⟨B + 1, 0, none⟩ o') := by
  have hnb : o.ownBlock ≠ some (B + 1) := own_apart h.bl h.own (by decide)
  have hbl : Blk C (B + 1) tPss [o] := h.bl.kept hg (fun e => hnb e.symm)
  have hbe : Below B A C := by
    have hAs := h.bl.lt
    exact below_gb hg (fun r e => (own_typ h.own r e).1) (by omega)
  have hq := h.q.bel2 h.sz hbe
  have hsz := h.sz
  refine ⟨⟨hq.b5.other (show _ ≠ _ by show _ ≠ B + 1; omega) _, hq.b6.other (show _ ≠ _ by show _ ≠ B + 1; omega) _, hq.bel.trans ((Below.refl _ C).setCell (by show W.heap.size ≤ B + 1; omega) _)⟩, hbl.set 0 o', by simp [h.n], ?_, ?_, h.sz⟩
  · rw [List.length_append]
    exact own_setCell ho (own_apart hbl ho (by decide)) 0 _
  · intro i u k hu hk
    have hu2 : A.ownsRow B tP 2 u k.length (cellsOf cP k) := by
      by_cases hi : i < ls.length
      · rw [List.getElem?_append_left hi] at hk
        rw [List.getElem?_append_left (by rw [h.n]; exact hi)] at hu
        exact h.each i u k hu hk
      · rw [List.getElem?_append_right (by omega)] at hk
        rw [List.getElem?_append_right (by rw [h.n]; omega), h.n] at hu
        by_cases h0 : i - ls.length = 0
        · rw [h0] at hu hk
          simp at hu hk
          subst hu; subst hk
          exact hv
        · rw [List.getElem?_eq_none (by simp; omega)] at hk; cases hk
    have hu3 := own_keep hu2 h.own (by decide) hg
    exact own_setCell hu3 (own_apart hbl hu3 (by decide)) 0 _
theorem infoP : (Try.prog.info? tP).map (fun i => (i.zero, i.size, i.bytes)) = some (some (.agg #[.int .i64 0, .int .i64 0]), 2, 16) := by kernel_rfl
theorem infoPs : (Try.prog.info? tPs).map (fun i => (i.zero, i.size, i.bytes)) = some (some (.slice none 0 0), 1, 24) := by kernel_rfl
theorem PLS.get {W : World} {A : Option Addr} {c : Nat} {vals : List (Nat × Nat × Nat)} {L : List (List Pr)} (h : PLS W (.slice A L.length c) vals L) {k : Nat} {l : List Pr} (hk : L[k]? = some l) :
    ∃ g og A1 c1, A = some ⟨g, og, none⟩ ∧ g < W.heap.size ∧ W.cell? ⟨g, og + k, none⟩ = some (.slice A1 l.length c1) ∧ l.length ≤ c1 ∧ (0 < l.length → ∃ ad, A1 = some ad ∧ ad.block < W.heap.size ∧ ∀ j u, (cellsOf cP l)[j]? = some u → W.cell? (ad.add j) = some u) := by
  obtain ⟨A', c', e, hq⟩ := h
  obtain ⟨rfl, rfl⟩ : A = A' ∧ c = c' := by injection e with e1 e2 e3; exact ⟨e1, e3⟩
  obtain ⟨g, og, A1, c1, rfl, hg, hcell, hlc, h2⟩ := hq k l hk
  refine ⟨g, og, A1, c1, rfl, hg, hcell, hlc, fun h0 => ?_⟩
  obtain ⟨b, off, rfl, _, hb, h3⟩ := h2 (fun e => by subst e; simp at h0)
  refine ⟨_, rfl, hb, fun j u hu => ?_⟩
  have hj : j < l.length * 2 := by have := (List.getElem?_eq_some_iff.1 hu).1; rw [cellsOf_length cP_length] at this; exact this
  have hj2 : j / 2 < l.length := by omega
  obtain ⟨x, hx⟩ : ∃ x, l[j / 2]? = some x := ⟨_, List.getElem?_eq_getElem hj2⟩
  obtain ⟨y0, y1⟩ := h3 _ x hx
  have hx2 : l.getD (j / 2) (0, 0) = x := by rw [List.getD_eq_getElem?_getD, hx]; rfl
  have e1 := cellsOf_at cP_length l (0, 0) hj2 (show j % 2 < 2 by omega)
  rw [hx2, show j / 2 * 2 + j % 2 = j by omega, hu] at e1
  rw [addr_add]
  rcases (show j % 2 = 0 ∨ j % 2 = 1 by omega) with h | h
  · rw [h] at e1
    have e2 : u = .int .i64 x.1 := by simpa [cP] using e1
    rw [show off + j = off + j / 2 * 2 by omega, y0, e2]
  · rw [h] at e1
    have e2 : u = .int .i64 x.2 := by simpa [cP] using e1
    rw [show off + j = off + j / 2 * 2 + 1 by omega, y1, e2]
end Go.Proofs.Ytbhpokcnkdgcmaa.HeapM
