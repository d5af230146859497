/- HeapM8, MgL, laid together. -/
import Derived.Test.YtbhpokcnkdgcmaaGr04
import Derived.Test.YtbhpokcnkdgcmaaGr01
import Derived.RangeFuncLeaves
import Derived.Shelf.Abstract
import Derived.Shelf.RegionOpen
import Derived.OwnWalkIn
import Derived.TacticsInMore
import Derived.LoopNIn
import Derived.LoopIn

/- heap M: what a heap holds, in order; it is drained. -/
set_option linter.unusedSimpArgs false
set_option linter.unusedVariables false
namespace Go.Proofs.Ytbhpokcnkdgcmaa.HeapM
open Go.RowKit Go.Proofs.Ytbhpokcnkdgcmaa.HeapL

/-- a list in order with one more: behind those that do not stand behind it -/
def insV {α : Type} (lt : α → α → Bool) (x : α) : List α → List α
  | [] => [x]
  | y :: ys => if lt x y = true then x :: y :: ys else y :: insV lt x ys
theorem insV_length {α : Type} (lt : α → α → Bool) (x : α) (l : List α) : (insV lt x l).length = l.length + 1 := by
  induction l with
  | nil => rfl
  | cons y ys ih => unfold insV; split <;> simp [ih]
/-- entries likewise -/
def insE (lt : (Int × Int × Int × Option Addr × Nat × Nat) → (Int × Int × Int × Option Addr × Nat × Nat) → Bool) (e : El) : List El → List El
  | [] => [e]
  | y :: ys => if lt e.1 y.1 = true then e :: y :: ys else y :: insE lt e ys
theorem insE_map (lt : (Int × Int × Int × Option Addr × Nat × Nat) → (Int × Int × Int × Option Addr × Nat × Nat) → Bool) (e : El) (l : List El) : (insE lt e l).map (·.1) = insV lt e.1 (l.map (·.1)) := by
  induction l with
  | nil => rfl
  | cons y ys ih =>
    simp only [insE, insV, List.map_cons]
    split <;> simp [ih]
theorem insE_perm (lt : (Int × Int × Int × Option Addr × Nat × Nat) → (Int × Int × Int × Option Addr × Nat × Nat) → Bool) (e : El) (l : List El) : (insE lt e l).Perm (l ++ [e]) := by
  induction l with
  | nil => exact List.Perm.refl _
  | cons y ys ih =>
    unfold insE
    split
    · exact (List.perm_append_singleton e (y :: ys)).symm
    · exact List.Perm.cons _ ih
theorem insE_mem (lt : (Int × Int × Int × Option Addr × Nat × Nat) → (Int × Int × Int × Option Addr × Nat × Nat) → Bool) (e : El) (l : List El) {y : El} (h : y ∈ insE lt e l) : y = e ∨ y ∈ l := by
  have := (insE_perm lt e l).mem_iff.1 h
  simp at this
  exact this.symm
theorem insE_sorted {lt : (Int × Int × Int × Option Addr × Nat × Nat) → (Int × Int × Int × Option Addr × Nat × Nat) → Bool} (ho : Ord lt) (e : El) (l : List El) (hs : l.Pairwise (fun a b => fst lt a b = true)) (ht : ∀ y ∈ l, y.2 < e.2) : (insE lt e l).Pairwise (fun a b => fst lt a b = true) := by
  induction l with
  | nil => simp [insE]
  | cons y ys ih =>
    rw [List.pairwise_cons] at hs
    unfold insE
    split
    · rename_i h
      refine List.pairwise_cons.2 ⟨fun z hz => ?_, List.pairwise_cons.2 hs⟩
      rcases List.mem_cons.1 hz with rfl | hz
      · unfold fst; rw [h]; rfl
      · have hyz := hs.1 z hz
        have h2 : lt e.1 z.1 = true := by
          cases hq : lt e.1 z.1
          · have h3 : lt z.1 y.1 = false := by
              unfold fst at hyz
              cases h4 : lt y.1 z.1
              · rw [h4] at hyz; simp at hyz; exact hyz.1
              · exact ho.asym _ _ h4
            have := ho.tr y.1 z.1 e.1 h3 hq
            rw [h] at this; cases this
          · rfl
        unfold fst; rw [h2]; rfl
    · rename_i h
      refine List.pairwise_cons.2 ⟨fun z hz => ?_, ih hs.2 (fun y hy => ht y (List.mem_cons_of_mem _ hy))⟩
      rcases insE_mem lt e ys hz with rfl | hz
      · have h1 : lt z.1 y.1 = false := by simpa using h
        unfold fst
        rw [h1]
        have := ht y List.mem_cons_self
        simp
        omega
      · exact hs.1 z hz

/-- a heap that holds xs, in order -/
def HS (W : World) (base p : Nat) (lt : (Int × Int × Int × Option Addr × Nat × Nat) → (Int × Int × Int × Option Addr × Nat × Nat) → Bool) (F : Nat) (lb : Array Value) (xs : List (Int × Int × Int × Option Addr × Nat × Nat)) (T : Nat) : Prop :=
  ∃ es s, HM W base p (.func (.func F) #[] lb) es T ∧ Heap (fst lt) zE es ∧ es.Perm s ∧ s.Pairwise (fun a b => fst lt a b = true) ∧ s.map (·.1) = xs ∧ ∀ y ∈ s, y.2 < T
theorem HS.lt' {W : World} {base p : Nat} {lt : (Int × Int × Int × Option Addr × Nat × Nat) → (Int × Int × Int × Option Addr × Nat × Nat) → Bool} {F : Nat} {lb : Array Value} {xs : List (Int × Int × Int × Option Addr × Nat × Nat)} {T : Nat} (h : HS W base p lt F lb xs T) : base ≤ p ∧ p < W.heap.size := by
  obtain ⟨es, s, hM, _⟩ := h; exact hM.lt
theorem HS.below {W W' : World} {base p : Nat} {lt : (Int × Int × Int × Option Addr × Nat × Nat) → (Int × Int × Int × Option Addr × Nat × Nat) → Bool} {F : Nat} {lb : Array Value} {xs : List (Int × Int × Int × Option Addr × Nat × Nat)} {T : Nat} (h : HS W base p lt F lb xs T) (hb : Below W.heap.size W W') : HS W' base p lt F lb xs T := by
  obtain ⟨es, s, hM, r⟩ := h; exact ⟨es, s, hM.below hb, r⟩
theorem HM.kept {W W' : World} {row : Option Nat} {base p : Nat} {bf : Value} {es : List El} {T : Nat} (h : HM W base p bf es T) (hg : W.grownBy W' row) (hr : ∀ r, row = some r → ∃ o : Obj, W.heap[r]? = some o ∧ o.isCells = false) : HM W' base p bf es T := by
  obtain ⟨h1, v, h2, h3⟩ := h
  refine ⟨h1, v, h2.kept hg (fun e => ?_), h3.kept hg ?_⟩
  · obtain ⟨o, ho, hc⟩ := hr p e.symm
    unfold Blk at h2
    rw [h2] at ho
    cases ho
    simp [Obj.isCells] at hc
  · cases hv : v.ownBlock with
    | none => exact .inl rfl
    | some k =>
      refine .inr (fun e => ?_)
      obtain ⟨_, cs, fr, hc⟩ := own_typ h3 k hv
      obtain ⟨o, ho, hcc⟩ := hr k (by rw [← e])
      rw [hc] at ho
      cases ho
      simp [Obj.isCells] at hcc
theorem HS.own (base p : Nat) (lt : (Int × Int × Int × Option Addr × Nat × Nat) → (Int × Int × Int × Option Addr × Nat × Nat) → Bool) (F : Nat) (lb : Array Value) {β : Type} (xs : β → List (Int × Int × Int × Option Addr × Nat × Nat)) (T : β → Nat) : Own (fun (s : β) W => HS W base p lt F lb (xs s) (T s)) := fun s A B row hs hg hr => by
  obtain ⟨es, s', hM, r⟩ := hs; exact ⟨es, s', hM.kept hg hr, r⟩

theorem HS.own' {W : World} {base p : Nat} {lt : (Int × Int × Int × Option Addr × Nat × Nat) → (Int × Int × Int × Option Addr × Nat × Nat) → Bool} {F : Nat} {lb : Array Value} {xs : List (Int × Int × Int × Option Addr × Nat × Nat)} {T : Nat} (h : HS W base p lt F lb xs T) {l : Nat} {o o' : Obj} (hl : W.heap[l]? = some o) (ho : o.isCells = false) : HS (W.putObj l o') base p lt F lb xs T :=
  HS.own base p lt F lb (fun _ : Unit => xs) (fun _ => T) () W _ (some l) h (grownBy_putObj' W l o') (fun r e => by cases e; exact ⟨o, hl, ho⟩)
theorem HS.length {W : World} {base p : Nat} {lt : (Int × Int × Int × Option Addr × Nat × Nat) → (Int × Int × Int × Option Addr × Nat × Nat) → Bool} {F : Nat} {lb : Array Value} {xs : List (Int × Int × Int × Option Addr × Nat × Nat)} {T : Nat} (h : HS W base p lt F lb xs T) : ∃ es : List El, es.length = xs.length ∧ HM W base p (.func (.func F) #[] lb) es T := by
  obtain ⟨es, s, hM, _, hp, _, hx, _⟩ := h
  exact ⟨es, by rw [hp.length_eq, ← hx, List.length_map], hM⟩

theorem HS.turn {W : World} {base p : Nat} {lt : (Int × Int × Int × Option Addr × Nat × Nat) → (Int × Int × Int × Option Addr × Nat × Nat) → Bool} {F : Nat} {lb : Array Value} {xs ys : List (Int × Int × Int × Option Addr × Nat × Nat)} {T T' : Nat} (h : HS W base p lt F lb xs T) (h' : HS W base p lt F lb ys T') : T = T' := by
  obtain ⟨es, s, ⟨_, v, hM, _⟩, _⟩ := h
  obtain ⟨es', s', ⟨_, v', hM', _⟩, _⟩ := h'
  have := (hM.inj hM').2
  simp at this
  exact Int.ofNat.inj this.2

/-- Put, of what it holds -/
theorem put_hs (lt : (Int × Int × Int × Option Addr × Nat × Nat) → (Int × Int × Int × Option Addr × Nat × Nat) → Bool) (ho : Ord lt) (W : World) (base p F : Nat) (lb : Array Value) (xs : List (Int × Int × Int × Option Addr × Nat × Nat)) (T : Nat) (kx vx lix : Int) (sAx : Option Addr) (snx scx : Nat) (hT : T < 1099511627776) (hsm : xs.length < 1099511627776)
    (hS : HS W base p lt F lb xs T) (hB : BF lt base p W F lb) :
    Calls Try.prog 110 #[.pointer (some ⟨p, 0, none⟩), (.agg #[.int .i64 kx, .int .i64 vx, .int .i64 lix, .slice sAx snx scx])] W fun e w' => e = .returned (.tuple #[]) ∧ HS w' base p lt F lb (insV lt (kx, vx, lix, sAx, snx, scx) xs) (T + 1) ∧ Fr base p 160 W w' := by
  obtain ⟨es, s, hM, hH, hp, hs, hx, ht⟩ := hS
  have hl : es.length = xs.length := by rw [hp.length_eq, ← hx, List.length_map]
  refine (put_any lt ho W base p F lb es T kx vx lix sAx snx scx hT (by omega) hM hH hB).mono ?_
  rintro e w' ⟨rfl, ⟨es', hM', hH', hp'⟩, hF⟩
  refine ⟨rfl, ⟨es', insE lt ((kx, vx, lix, sAx, snx, scx), T) s, hM', hH', ?_, insE_sorted ho _ s hs ht, by rw [insE_map, hx], fun y hy => ?_⟩, hF⟩
  · exact hp'.trans ((List.Perm.append_right _ hp).trans (insE_perm lt _ s).symm)
  · rcases insE_mem lt _ s hy with rfl | h
    · exact Nat.lt_succ_self T
    · exact Nat.lt_succ_of_lt (ht y h)

/-- Top, of what it holds -/
def headV (xs : List (Int × Int × Int × Option Addr × Nat × Nat)) : (Int × Int × Int × Option Addr × Nat × Nat) := xs.headD ((0, 0, 0, none, 0, 0) : Int × Int × Int × Option Addr × Nat × Nat)
theorem hs_head {lt : (Int × Int × Int × Option Addr × Nat × Nat) → (Int × Int × Int × Option Addr × Nat × Nat) → Bool} (ho : Ord lt) {es s : List El} (hH : Heap (fst lt) zE es) (hp : es.Perm s) (hs : s.Pairwise (fun a b => fst lt a b = true)) (hn : 0 < es.length) : ∃ s', s = gt zE es 0 :: s' := by
  cases s with
  | nil => rw [hp.length_eq] at hn; simp at hn
  | cons a s' =>
    refine ⟨s', ?_⟩
    have hm : gt zE es 0 ∈ a :: s' := hp.mem_iff.1 (by rw [gt_of_lt hn]; exact List.getElem_mem hn)
    rcases List.mem_cons.1 hm with e | hm
    · rw [e]
    · have h1 := (List.pairwise_cons.1 hs).1 _ hm
      have ha : a ∈ es := hp.mem_iff.2 List.mem_cons_self
      obtain ⟨k, hk, e⟩ := List.getElem_of_mem ha
      have h2 := heap_min (fst_ord ho) hH k hk
      unfold le at h2
      rw [gt_of_lt hk, e, h1] at h2
      cases h2
theorem top_hs (lt : (Int × Int × Int × Option Addr × Nat × Nat) → (Int × Int × Int × Option Addr × Nat × Nat) → Bool) (ho : Ord lt) (W : World) (base p F : Nat) (lb : Array Value) (xs : List (Int × Int × Int × Option Addr × Nat × Nat)) (T : Nat) (hS : HS W base p lt F lb xs T) :
    Calls Try.prog 129 #[.pointer (some ⟨p, 0, none⟩)] W fun e w' => e = .returned (.tuple #[ev (headV xs), .bool (decide (0 < xs.length))]) ∧ Below W.heap.size W w' := by
  obtain ⟨es, s, hM, hH, hp, hs, hx, ht⟩ := hS
  have hl : es.length = xs.length := by rw [hp.length_eq, ← hx, List.length_map]
  by_cases hn : 0 < es.length
  · obtain ⟨s', e⟩ := hs_head ho hH hp hs hn
    have hv : headV xs = (gt zE es 0).1 := by rw [← hx, e]; rfl
    rw [hv, show decide (0 < xs.length) = true from by simp; omega]
    exact top_cons W base p _ es T hM hn
  · have h0 : es = [] := List.eq_nil_of_length_eq_zero (by omega)
    subst h0
    have h1 : xs = [] := List.eq_nil_of_length_eq_zero (by simpa using hl.symm)
    rw [h1]
    exact top_nil W base p _ T hM
/-- Pop, of what it holds -/
theorem pop_hs_nil (lt : (Int × Int × Int × Option Addr × Nat × Nat) → (Int × Int × Int × Option Addr × Nat × Nat) → Bool) (W : World) (base p F : Nat) (lb : Array Value) (T : Nat) (hS : HS W base p lt F lb [] T) :
    Calls Try.prog 125 #[.pointer (some ⟨p, 0, none⟩)] W fun e w' => e = .returned (.tuple #[ev ((0, 0, 0, none, 0, 0) : Int × Int × Int × Option Addr × Nat × Nat), .bool false]) ∧ Below W.heap.size W w' := by
  obtain ⟨es, s, hM, hH, hp, hs, hx, ht⟩ := hS
  have hl : es.length = 0 := by rw [hp.length_eq, ← List.length_map (f := (·.1)), hx]; rfl
  have h0 : es = [] := List.eq_nil_of_length_eq_zero hl
  subst h0
  exact pop_nil W base p _ T hM
theorem pop_hs_cons (lt : (Int × Int × Int × Option Addr × Nat × Nat) → (Int × Int × Int × Option Addr × Nat × Nat) → Bool) (ho : Ord lt) (W : World) (base p F : Nat) (lb : Array Value) (x : (Int × Int × Int × Option Addr × Nat × Nat)) (xs : List (Int × Int × Int × Option Addr × Nat × Nat)) (T : Nat) (hsm : xs.length < 1099511627776) (hS : HS W base p lt F lb (x :: xs) T) (hB : BF lt base p W F lb) :
    Calls Try.prog 125 #[.pointer (some ⟨p, 0, none⟩)] W fun e w' => e = .returned (.tuple #[ev x, .bool true]) ∧ HS w' base p lt F lb xs T ∧ Fr base p 160 W w' := by
  obtain ⟨es, s, hM, hH, hp, hs, hx, ht⟩ := hS
  have hl : es.length = xs.length + 1 := by rw [hp.length_eq, ← List.length_map (f := (·.1)), hx]; rfl
  obtain ⟨s', e⟩ := hs_head ho hH hp hs (by omega)
  rw [e] at hx
  simp only [List.map_cons, List.cons.injEq] at hx
  obtain ⟨hx1, hx2⟩ := hx
  rw [← hx1]
  refine (pop_cons lt ho W base p F lb es T hM (by omega) (by omega) hH hB).mono ?_
  rintro e' w' ⟨rfl, ⟨es', hM', hH', hp'⟩, hF⟩
  rw [e] at hp hs ht
  exact ⟨rfl, ⟨es', s', hM', hH', (List.Perm.cons_inv (hp'.trans hp)), (List.pairwise_cons.1 hs).2, hx2, fun y hy => ht y (List.mem_cons_of_mem _ hy)⟩, hF⟩

set_option maxHeartbeats 400000 in
/-- New -/
theorem new_hs (lt : (Int × Int × Int × Option Addr × Nat × Nat) → (Int × Int × Int × Option Addr × Nat × Nat) → Bool) (W : World) (F : Nat) (lb : Array Value) :
    Calls Try.prog 108 #[.func (.func F) #[] lb] W fun e w' => e = .returned (.pointer (some ⟨W.heap.size, 0, none⟩)) ∧ HS w' W.heap.size W.heap.size lt F lb [] 0 ∧ w' = W.alloc (.cells #[.func (.func F) #[] lb, .slice none 0 0, .int .i64 0] 158) := by
  have hS : HS (W.alloc (.cells #[.func (.func F) #[] lb, .slice none 0 0, .int .i64 0] 158)) W.heap.size W.heap.size lt F lb [] 0 :=
    ⟨[], [], ⟨Nat.le_refl _, .slice none 0 0, Blk.new W [.func (.func F) #[] lb, .slice none 0 0, .int .i64 0] 158, World.ownsRow_nil _ _ _ _⟩, heap_nil, List.Perm.refl _, List.Pairwise.nil, rfl, by simp⟩
  go_enter Try.func108, Try.ntmps108
  go_wp2_with fail
  go_ret
  exact ⟨rfl, hS, rfl⟩

end Go.Proofs.Ytbhpokcnkdgcmaa.HeapM

/- heap: lists are merged, plain. -/
set_option linter.unusedSimpArgs false
set_option linter.unusedVariables false
namespace Go.Proofs.Ytbhpokcnkdgcmaa.HeapM
open Go.Proofs.Ytbhpokcnkdgcmaa.HeapL

abbrev Pr := Int × Int
abbrev MT := Int × Int × Int × Option Addr × Nat × Nat
/-- which head stands first -/
def ltM (a b : MT) : Bool := decide (a.1 < b.1) || (!decide (b.1 < a.1) && decide (a.2.2.1 < b.2.2.1))
theorem ltM_iff {a b : MT} : ltM a b = true ↔ a.1 < b.1 ∨ (a.1 ≤ b.1 ∧ a.2.2.1 < b.2.2.1) := by
  unfold ltM
  simp only [Bool.or_eq_true, Bool.and_eq_true, Bool.not_eq_true', decide_eq_true_eq, decide_eq_false_iff_not]
  constructor
  · rintro (h | ⟨h1, h2⟩)
    · exact .inl h
    · exact .inr ⟨by omega, h2⟩
  · rintro (h | ⟨h1, h2⟩)
    · exact .inl h
    · exact .inr ⟨by omega, h2⟩
theorem ltM_no {a b : MT} : ltM a b = false ↔ b.1 ≤ a.1 ∧ (b.1 < a.1 ∨ b.2.2.1 ≤ a.2.2.1) := by
  have h := ltM_iff (a := a) (b := b)
  cases hx : ltM a b with
  | false =>
    rw [hx] at h
    have h2 : ¬ (a.1 < b.1 ∨ (a.1 ≤ b.1 ∧ a.2.2.1 < b.2.2.1)) := fun e => by have := h.2 e; cases this
    constructor
    · intro _; omega
    · intro _; rfl
  | true =>
    have h2 := h.1 hx
    constructor
    · intro e; cases e
    · intro e; omega
theorem ltM_ord : Ord ltM where
  asym a b h := by rw [ltM_iff] at h; rw [ltM_no]; omega
  tr a b c h1 h2 := by rw [ltM_no] at *; omega
theorem insV_iff {α : Type} (lt : α → α → Bool) (x : α) {y : α} : ∀ l : List α, y ∈ insV lt x l ↔ y = x ∨ y ∈ l
  | [] => by simp [insV]
  | z :: zs => by
    unfold insV
    split
    · rw [List.mem_cons]
    · rw [List.mem_cons, insV_iff lt x zs, List.mem_cons]
      constructor
      · rintro (h | h | h)
        · exact .inr (.inl h)
        · exact .inl h
        · exact .inr (.inr h)
      · rintro (h | h | h)
        · exact .inr (.inl h)
        · exact .inl h
        · exact .inr (.inr h)
theorem insV_sd {α : Type} {lt : α → α → Bool} (ho : Ord lt) (x : α) : ∀ l : List α, l.Pairwise (fun a b => lt b a = false) → (insV lt x l).Pairwise (fun a b => lt b a = false)
  | [], _ => by unfold insV; exact List.pairwise_singleton _ _
  | z :: zs, h => by
    obtain ⟨h1, h2⟩ := List.pairwise_cons.1 h
    unfold insV
    split
    · rename_i hl
      refine List.pairwise_cons.2 ⟨fun y hy => ?_, h⟩
      rcases List.mem_cons.1 hy with rfl | hy
      · exact ho.asym _ _ hl
      · exact ho.tr _ _ _ (ho.asym _ _ hl) (h1 y hy)
    · rename_i hl
      refine List.pairwise_cons.2 ⟨fun y hy => ?_, insV_sd ho x zs h2⟩
      rcases (insV_iff lt x zs).1 hy with rfl | hy
      · simpa using hl
      · exact h1 y hy
theorem insV_nd {α β : Type} (lt : α → α → Bool) (f : α → β) (x : α) : ∀ l : List α, l.Pairwise (fun a b => f a ≠ f b) → (∀ y ∈ l, f y ≠ f x) → (insV lt x l).Pairwise (fun a b => f a ≠ f b)
  | [], _, _ => by unfold insV; exact List.pairwise_singleton _ _
  | z :: zs, h, hx => by
    obtain ⟨h1, h2⟩ := List.pairwise_cons.1 h
    unfold insV
    split
    · exact List.pairwise_cons.2 ⟨fun y hy => fun e => hx y hy e.symm, h⟩
    · refine List.pairwise_cons.2 ⟨fun y hy => ?_, insV_nd lt f x zs h2 (fun y hy => hx y (List.mem_cons_of_mem _ hy))⟩
      rcases (insV_iff lt x zs).1 hy with rfl | hy
      · exact hx z List.mem_cons_self
      · exact h1 y hy
/-- the heads that a heap holds, of what is left of the lists -/
structure HR (rd : Option Addr → Nat → Nat → List Pr → Prop) (R : List (List Pr)) (xs : List MT) : Prop where
  of : ∀ x ∈ xs, ∃ (k : Nat) (es : List Pr), x.2.2.1 = (k : Int) ∧ R[k]? = some ((x.1, x.2.1) :: es) ∧ rd x.2.2.2.1 x.2.2.2.2.1 x.2.2.2.2.2 es
  has : ∀ (k : Nat) p es, R[k]? = some (p :: es) → ∃ x ∈ xs, x.2.2.1 = (k : Int)
  nd : xs.Pairwise (fun a b => a.2.2.1 ≠ b.2.2.1)
  sd : xs.Pairwise (fun a b => ltM b a = false)
theorem HR.nil (rd : Option Addr → Nat → Nat → List Pr → Prop) : HR rd [] [] := ⟨by simp, by simp, List.Pairwise.nil, List.Pairwise.nil⟩
theorem HR.mono {rd rd' : Option Addr → Nat → Nat → List Pr → Prop} {R : List (List Pr)} {xs : List MT} (h : HR rd R xs) (hm : ∀ a n c es, rd a n c es → rd' a n c es) : HR rd' R xs :=
  ⟨fun x hx => by obtain ⟨k, es, h1, h2, h3⟩ := h.of x hx; exact ⟨k, es, h1, h2, hm _ _ _ _ h3⟩, h.has, h.nd, h.sd⟩
/-- one list more, with nothing in it -/
theorem HR.app {rd : Option Addr → Nat → Nat → List Pr → Prop} {R : List (List Pr)} {xs : List MT} (h : HR rd R xs) : HR rd (R ++ [[]]) xs := by
  refine ⟨fun x hx => ?_, fun k p es hk => ?_, h.nd, h.sd⟩
  · obtain ⟨k, es, h1, h2, h3⟩ := h.of x hx
    exact ⟨k, es, h1, by rw [List.getElem?_append_left (List.getElem?_eq_some_iff.1 h2).1]; exact h2, h3⟩
  · by_cases hl : k < R.length
    · rw [List.getElem?_append_left hl] at hk
      exact h.has k p es hk
    · rw [List.getElem?_append_right (by omega)] at hk
      by_cases h0 : k - R.length = 0
      · rw [h0] at hk; simp at hk
      · rw [List.getElem?_eq_none (by simp; omega)] at hk; cases hk
/-- a list of which nothing was left has something -/
theorem HR.add {rd : Option Addr → Nat → Nat → List Pr → Prop} {R : List (List Pr)} {xs : List MT} (h : HR rd R xs) {k : Nat} (hk : R[k]? = some []) {p : Pr} {es : List Pr} {a : Option Addr} {n c : Nat} (hrd : rd a n c es) : HR rd (R.set k (p :: es)) (insV ltM (p.1, p.2, (k : Int), a, n, c) xs) := by
  have hkl := (List.getElem?_eq_some_iff.1 hk).1
  have hne : ∀ y ∈ xs, y.2.2.1 ≠ (k : Int) := fun y hy e => by
    obtain ⟨j, fs, h1, h2, _⟩ := h.of y hy
    have : j = k := by omega
    subst this
    rw [hk] at h2
    cases h2
  refine ⟨fun x hx => ?_, fun j q fs hj => ?_, insV_nd _ (fun x : MT => x.2.2.1) _ _ h.nd hne, insV_sd ltM_ord _ _ h.sd⟩
  · rcases (insV_iff _ _ _).1 hx with rfl | hx
    · exact ⟨k, es, rfl, List.getElem?_set_self hkl, hrd⟩
    · obtain ⟨j, fs, h1, h2, h3⟩ := h.of x hx
      have hjk : k ≠ j := fun e => hne x hx (by rw [h1, e])
      exact ⟨j, fs, h1, by rw [List.getElem?_set_ne hjk]; exact h2, h3⟩
  · by_cases hjk : k = j
    · subst hjk
      exact ⟨_, (insV_iff _ _ _).2 (.inl rfl), rfl⟩
    · rw [List.getElem?_set_ne hjk] at hj
      obtain ⟨x, hx, he⟩ := h.has j q fs hj
      exact ⟨x, (insV_iff _ _ _).2 (.inr hx), he⟩
/-- the first head is taken -/
theorem HR.pop {rd : Option Addr → Nat → Nat → List Pr → Prop} {R : List (List Pr)} {x : MT} {xs : List MT} (h : HR rd R (x :: xs)) : ∃ (k : Nat) (es : List Pr), x.2.2.1 = (k : Int) ∧ R[k]? = some ((x.1, x.2.1) :: es) ∧ rd x.2.2.2.1 x.2.2.2.2.1 x.2.2.2.2.2 es ∧ HR rd (R.set k []) xs ∧
    ∀ (j : Nat) q fs, R[j]? = some (q :: fs) → x.1 ≤ q.1 ∧ (j < k → x.1 < q.1) := by
  obtain ⟨k, es, h1, h2, h3⟩ := h.of x List.mem_cons_self
  obtain ⟨n1, n2⟩ := List.pairwise_cons.1 h.nd
  obtain ⟨s1, s2⟩ := List.pairwise_cons.1 h.sd
  have hkl := (List.getElem?_eq_some_iff.1 h2).1
  refine ⟨k, es, h1, h2, h3, ⟨fun y hy => ?_, fun j q fs hj => ?_, n2, s2⟩, fun j q fs hj => ?_⟩
  · obtain ⟨j, fs, g1, g2, g3⟩ := h.of y (List.mem_cons_of_mem _ hy)
    have hjk : k ≠ j := fun e => n1 y hy (by rw [h1, g1, e])
    exact ⟨j, fs, g1, by rw [List.getElem?_set_ne hjk]; exact g2, g3⟩
  · by_cases hjk : k = j
    · subst hjk
      rw [List.getElem?_set_self hkl] at hj
      cases hj
    · rw [List.getElem?_set_ne hjk] at hj
      obtain ⟨y, hy, he⟩ := h.has j q fs hj
      rcases List.mem_cons.1 hy with rfl | hy
      · rw [h1] at he; exact absurd (by omega : k = j) hjk
      · exact ⟨y, hy, he⟩
  · obtain ⟨y, hy, he⟩ := h.has j q fs hj
    obtain ⟨j2, fs2, g1, g2, _⟩ := h.of y hy
    have hj2 : j2 = j := by omega
    subst hj2
    rw [hj] at g2
    injection g2 with g2
    injection g2 with g2 _
    rcases List.mem_cons.1 hy with rfl | hy
    · subst g2; exact ⟨Int.le_refl _, fun hlt => by omega⟩
    · have := ltM_no.1 (s1 y hy)
      subst g2
      dsimp only
      refine ⟨this.1, fun hlt => ?_⟩
      rcases this.2 with h4 | h4
      · exact h4
      · omega
theorem HR.end_ {rd : Option Addr → Nat → Nat → List Pr → Prop} {R : List (List Pr)} (h : HR rd R []) : ∀ l ∈ R, l = [] := fun l hl => by
  obtain ⟨k, hk, rfl⟩ := List.getElem_of_mem hl
  cases hx : R[k] with
  | nil => rfl
  | cons p es =>
    obtain ⟨x, hx2, _⟩ := h.has k p es (by rw [List.getElem?_eq_getElem hk, hx])
    simp at hx2
/-- how many things there are -/
def totR (R : List (List Pr)) : Nat := (R.map List.length).sum
theorem totR_set : ∀ (b : List (List Pr)) (i : Nat) (p : Pr) (es : List Pr), b[i]? = some (p :: es) → totR (b.set i es) + 1 = totR b
  | [], i, p, es, h => by simp at h
  | l :: b, 0, p, es, h => by
    obtain rfl : l = p :: es := by simpa using h
    unfold totR
    simp
    omega
  | l :: b, i + 1, p, es, h => by
    have := totR_set b i p es (by simpa using h)
    unfold totR at *
    simp only [List.set_cons_succ, List.map_cons, List.sum_cons]
    omega
theorem totR_zero {R : List (List Pr)} (h : ∀ l ∈ R, l = []) : totR R = 0 := by
  unfold totR
  induction R with
  | nil => rfl
  | cons l R ih =>
    rw [List.map_cons, List.sum_cons, ih (fun x hx => h x (List.mem_cons_of_mem _ hx)), h l List.mem_cons_self]
    rfl
theorem totR_snoc (R : List (List Pr)) (l : List Pr) : totR (R ++ [l]) = totR R + l.length := by
  unfold totR
  rw [List.map_append, List.sum_append]
  simp
end Go.Proofs.Ytbhpokcnkdgcmaa.HeapM
