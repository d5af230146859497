/- heap I: what a heap holds, in order; it is drained. -/
import Derived.Test.YtbhpokcnkdgcmaaHeapI7
import Derived.Test.YtbhpokcnkdgcmaaRange
import Derived.RangeFuncLeaves
import Derived.Shelf.Abstract
import Derived.Shelf.RegionOpen
import Derived.OwnWalkIn
import Derived.TacticsInMore
import Derived.LoopNIn
import Derived.LoopIn
set_option linter.unusedSimpArgs false
set_option linter.unusedVariables false
namespace Go.Proofs.Ytbhpokcnkdgcmaa.HeapI
open Go.RowKit Go.Proofs.Ytbhpokcnkdgcmaa.HeapL

/-- a list in order with one more: behind those that do not stand behind it -/
def insV {α : Type} (lt : α → α → Bool) (x : α) : List α → List α
  | [] => [x]
  | y :: ys => if lt x y = true then x :: y :: ys else y :: insV lt x ys
theorem insV_length {α : Type} (lt : α → α → Bool) (x : α) (l : List α) : (insV lt x l).length = l.length + 1 := by
  induction l with
  | nil => rfl
  | cons y ys ih => unfold insV; split <;> simp [ih]
/-- entries likewise -/
def insE (lt : Int → Int → Bool) (e : El) : List El → List El
  | [] => [e]
  | y :: ys => if lt e.1 y.1 = true then e :: y :: ys else y :: insE lt e ys
theorem insE_map (lt : Int → Int → Bool) (e : El) (l : List El) : (insE lt e l).map (·.1) = insV lt e.1 (l.map (·.1)) := by
  induction l with
  | nil => rfl
  | cons y ys ih =>
    simp only [insE, insV, List.map_cons]
    split <;> simp [ih]
theorem insE_perm (lt : Int → Int → Bool) (e : El) (l : List El) : (insE lt e l).Perm (l ++ [e]) := by
  induction l with
  | nil => exact List.Perm.refl _
  | cons y ys ih =>
    unfold insE
    split
    · exact (List.perm_append_singleton e (y :: ys)).symm
    · exact List.Perm.cons _ ih
theorem insE_mem (lt : Int → Int → Bool) (e : El) (l : List El) {y : El} (h : y ∈ insE lt e l) : y = e ∨ y ∈ l := by
  have := (insE_perm lt e l).mem_iff.1 h
  simp at this
  exact this.symm
theorem insE_sorted {lt : Int → Int → Bool} (ho : Ord lt) (e : El) (l : List El) (hs : l.Pairwise (fun a b => fst lt a b = true)) (ht : ∀ y ∈ l, y.2 < e.2) : (insE lt e l).Pairwise (fun a b => fst lt a b = true) := by
  induction l with
  | nil => simp [insE]
  | cons y ys ih =>
    rw [List.pairwise_cons] at hs
    unfold insE
    split
    · rename_i h
      refine List.pairwise_cons.2 ⟨fun z hz => ?_, List.pairwise_cons.2 hs⟩
      rcases List.mem_cons.1 hz with rfl | hz
      · unfold fst; rw [h]; rfl
      · have hyz := hs.1 z hz
        have h2 : lt e.1 z.1 = true := by
          cases hq : lt e.1 z.1
          · have h3 : lt z.1 y.1 = false := by
              unfold fst at hyz
              cases h4 : lt y.1 z.1
              · rw [h4] at hyz; simp at hyz; exact hyz.1
              · exact ho.asym _ _ h4
            have := ho.tr y.1 z.1 e.1 h3 hq
            rw [h] at this; cases this
          · rfl
        unfold fst; rw [h2]; rfl
    · rename_i h
      refine List.pairwise_cons.2 ⟨fun z hz => ?_, ih hs.2 (fun y hy => ht y (List.mem_cons_of_mem _ hy))⟩
      rcases insE_mem lt e ys hz with rfl | hz
      · have h1 : lt z.1 y.1 = false := by simpa using h
        unfold fst
        rw [h1]
        have := ht y List.mem_cons_self
        simp
        omega
      · exact hs.1 z hz

/-- a heap that holds xs, in order -/
def HS (W : World) (base p : Nat) (lt : Int → Int → Bool) (F : Nat) (lb : Array Value) (xs : List Int) (T : Nat) : Prop :=
  ∃ es s, HM W base p (.func (.func F) #[] lb) es T ∧ Heap (fst lt) zE es ∧ es.Perm s ∧ s.Pairwise (fun a b => fst lt a b = true) ∧ s.map (·.1) = xs ∧ ∀ y ∈ s, y.2 < T
theorem HS.lt' {W : World} {base p : Nat} {lt : Int → Int → Bool} {F : Nat} {lb : Array Value} {xs : List Int} {T : Nat} (h : HS W base p lt F lb xs T) : base ≤ p ∧ p < W.heap.size := by
  obtain ⟨es, s, hM, _⟩ := h; exact hM.lt
theorem HS.below {W W' : World} {base p : Nat} {lt : Int → Int → Bool} {F : Nat} {lb : Array Value} {xs : List Int} {T : Nat} (h : HS W base p lt F lb xs T) (hb : Below W.heap.size W W') : HS W' base p lt F lb xs T := by
  obtain ⟨es, s, hM, r⟩ := h; exact ⟨es, s, hM.below hb, r⟩
theorem HM.kept {W W' : World} {row : Option Nat} {base p : Nat} {bf : Value} {es : List El} {T : Nat} (h : HM W base p bf es T) (hg : W.grownBy W' row) (hr : ∀ r, row = some r → ∃ o : Obj, W.heap[r]? = some o ∧ o.isCells = false) : HM W' base p bf es T := by
  obtain ⟨h1, v, h2, h3⟩ := h
  refine ⟨h1, v, h2.kept hg (fun e => ?_), h3.kept hg ?_⟩
  · obtain ⟨o, ho, hc⟩ := hr p e.symm
    unfold Blk at h2
    rw [h2] at ho
    cases ho
    simp [Obj.isCells] at hc
  · cases hv : v.ownBlock with
    | none => exact .inl rfl
    | some k =>
      refine .inr (fun e => ?_)
      obtain ⟨_, cs, fr, hc⟩ := own_typ h3 k hv
      obtain ⟨o, ho, hcc⟩ := hr k (by rw [← e])
      rw [hc] at ho
      cases ho
      simp [Obj.isCells] at hcc
theorem HS.own (base p : Nat) (lt : Int → Int → Bool) (F : Nat) (lb : Array Value) {β : Type} (xs : β → List Int) (T : β → Nat) : Own (fun (s : β) W => HS W base p lt F lb (xs s) (T s)) := fun s A B row hs hg hr => by
  obtain ⟨es, s', hM, r⟩ := hs; exact ⟨es, s', hM.kept hg hr, r⟩

theorem HS.own' {W : World} {base p : Nat} {lt : Int → Int → Bool} {F : Nat} {lb : Array Value} {xs : List Int} {T : Nat} (h : HS W base p lt F lb xs T) {l : Nat} {o o' : Obj} (hl : W.heap[l]? = some o) (ho : o.isCells = false) : HS (W.putObj l o') base p lt F lb xs T :=
  HS.own base p lt F lb (fun _ : Unit => xs) (fun _ => T) () W _ (some l) h (grownBy_putObj' W l o') (fun r e => by cases e; exact ⟨o, hl, ho⟩)
theorem HS.length {W : World} {base p : Nat} {lt : Int → Int → Bool} {F : Nat} {lb : Array Value} {xs : List Int} {T : Nat} (h : HS W base p lt F lb xs T) : ∃ es : List El, es.length = xs.length ∧ HM W base p (.func (.func F) #[] lb) es T := by
  obtain ⟨es, s, hM, _, hp, _, hx, _⟩ := h
  exact ⟨es, by rw [hp.length_eq, ← hx, List.length_map], hM⟩

theorem HS.turn {W : World} {base p : Nat} {lt : Int → Int → Bool} {F : Nat} {lb : Array Value} {xs ys : List Int} {T T' : Nat} (h : HS W base p lt F lb xs T) (h' : HS W base p lt F lb ys T') : T = T' := by
  obtain ⟨es, s, ⟨_, v, hM, _⟩, _⟩ := h
  obtain ⟨es', s', ⟨_, v', hM', _⟩, _⟩ := h'
  have := (hM.inj hM').2
  simp at this
  exact Int.ofNat.inj this.2

/-- Put, of what it holds -/
theorem put_hs (lt : Int → Int → Bool) (ho : Ord lt) (W : World) (base p F : Nat) (lb : Array Value) (xs : List Int) (T : Nat) (kx : Int) (hT : T < 1099511627776) (hsm : xs.length < 1099511627776)
    (hS : HS W base p lt F lb xs T) (hB : BF lt base p W F lb) :
    Calls Try.prog 80 #[.pointer (some ⟨p, 0, none⟩), (.int .i64 kx)] W fun e w' => e = .returned (.tuple #[]) ∧ HS w' base p lt F lb (insV lt kx xs) (T + 1) ∧ Fr base p 153 W w' := by
  obtain ⟨es, s, hM, hH, hp, hs, hx, ht⟩ := hS
  have hl : es.length = xs.length := by rw [hp.length_eq, ← hx, List.length_map]
  refine (put_any lt ho W base p F lb es T kx hT (by omega) hM hH hB).mono ?_
  rintro e w' ⟨rfl, ⟨es', hM', hH', hp'⟩, hF⟩
  refine ⟨rfl, ⟨es', insE lt (kx, T) s, hM', hH', ?_, insE_sorted ho _ s hs ht, by rw [insE_map, hx], fun y hy => ?_⟩, hF⟩
  · exact hp'.trans ((List.Perm.append_right _ hp).trans (insE_perm lt _ s).symm)
  · rcases insE_mem lt _ s hy with rfl | h
    · exact Nat.lt_succ_self T
    · exact Nat.lt_succ_of_lt (ht y h)

/-- Top, of what it holds -/
def headV (xs : List Int) : Int := xs.headD (0 : Int)
theorem hs_head {lt : Int → Int → Bool} (ho : Ord lt) {es s : List El} (hH : Heap (fst lt) zE es) (hp : es.Perm s) (hs : s.Pairwise (fun a b => fst lt a b = true)) (hn : 0 < es.length) : ∃ s', s = gt zE es 0 :: s' := by
  cases s with
  | nil => rw [hp.length_eq] at hn; simp at hn
  | cons a s' =>
    refine ⟨s', ?_⟩
    have hm : gt zE es 0 ∈ a :: s' := hp.mem_iff.1 (by rw [gt_of_lt hn]; exact List.getElem_mem hn)
    rcases List.mem_cons.1 hm with e | hm
    · rw [e]
    · have h1 := (List.pairwise_cons.1 hs).1 _ hm
      have ha : a ∈ es := hp.mem_iff.2 List.mem_cons_self
      obtain ⟨k, hk, e⟩ := List.getElem_of_mem ha
      have h2 := heap_min (fst_ord ho) hH k hk
      unfold le at h2
      rw [gt_of_lt hk, e, h1] at h2
      cases h2
theorem top_hs (lt : Int → Int → Bool) (ho : Ord lt) (W : World) (base p F : Nat) (lb : Array Value) (xs : List Int) (T : Nat) (hS : HS W base p lt F lb xs T) :
    Calls Try.prog 81 #[.pointer (some ⟨p, 0, none⟩)] W fun e w' => e = .returned (.tuple #[ev (headV xs), .bool (decide (0 < xs.length))]) ∧ Below W.heap.size W w' := by
  obtain ⟨es, s, hM, hH, hp, hs, hx, ht⟩ := hS
  have hl : es.length = xs.length := by rw [hp.length_eq, ← hx, List.length_map]
  by_cases hn : 0 < es.length
  · obtain ⟨s', e⟩ := hs_head ho hH hp hs hn
    have hv : headV xs = (gt zE es 0).1 := by rw [← hx, e]; rfl
    rw [hv, show decide (0 < xs.length) = true from by simp; omega]
    exact top_cons W base p _ es T hM hn
  · have h0 : es = [] := List.eq_nil_of_length_eq_zero (by omega)
    subst h0
    have h1 : xs = [] := List.eq_nil_of_length_eq_zero (by simpa using hl.symm)
    rw [h1]
    exact top_nil W base p _ T hM
/-- Pop, of what it holds -/
theorem pop_hs_nil (lt : Int → Int → Bool) (W : World) (base p F : Nat) (lb : Array Value) (T : Nat) (hS : HS W base p lt F lb [] T) :
    Calls Try.prog 84 #[.pointer (some ⟨p, 0, none⟩)] W fun e w' => e = .returned (.tuple #[ev (0 : Int), .bool false]) ∧ Below W.heap.size W w' := by
  obtain ⟨es, s, hM, hH, hp, hs, hx, ht⟩ := hS
  have hl : es.length = 0 := by rw [hp.length_eq, ← List.length_map (f := (·.1)), hx]; rfl
  have h0 : es = [] := List.eq_nil_of_length_eq_zero hl
  subst h0
  exact pop_nil W base p _ T hM
theorem pop_hs_cons (lt : Int → Int → Bool) (ho : Ord lt) (W : World) (base p F : Nat) (lb : Array Value) (x : Int) (xs : List Int) (T : Nat) (hsm : xs.length < 1099511627776) (hS : HS W base p lt F lb (x :: xs) T) (hB : BF lt base p W F lb) :
    Calls Try.prog 84 #[.pointer (some ⟨p, 0, none⟩)] W fun e w' => e = .returned (.tuple #[ev x, .bool true]) ∧ HS w' base p lt F lb xs T ∧ Fr base p 153 W w' := by
  obtain ⟨es, s, hM, hH, hp, hs, hx, ht⟩ := hS
  have hl : es.length = xs.length + 1 := by rw [hp.length_eq, ← List.length_map (f := (·.1)), hx]; rfl
  obtain ⟨s', e⟩ := hs_head ho hH hp hs (by omega)
  rw [e] at hx
  simp only [List.map_cons, List.cons.injEq] at hx
  obtain ⟨hx1, hx2⟩ := hx
  rw [← hx1]
  refine (pop_cons lt ho W base p F lb es T hM (by omega) (by omega) hH hB).mono ?_
  rintro e' w' ⟨rfl, ⟨es', hM', hH', hp'⟩, hF⟩
  rw [e] at hp hs ht
  exact ⟨rfl, ⟨es', s', hM', hH', (List.Perm.cons_inv (hp'.trans hp)), (List.pairwise_cons.1 hs).2, hx2, fun y hy => ht y (List.mem_cons_of_mem _ hy)⟩, hF⟩

set_option maxHeartbeats 400000 in
/-- Len -/
theorem len_hs (lt : Int → Int → Bool) (W : World) (base p F : Nat) (lb : Array Value) (xs : List Int) (T : Nat) (hS : HS W base p lt F lb xs T) :
    Calls Try.prog 92 #[.pointer (some ⟨p, 0, none⟩)] W fun e w' => e = .returned (.int .i64 (xs.length : Int)) ∧ W = w' := by
  obtain ⟨es, hl, hM⟩ := hS.length
  obtain ⟨a, cap, _, c1, _⟩ := hM.cells
  rw [hl] at c1
  clear hl hM hS
  go_enter Try.func92, Try.ntmps92
  go_wp2_with fail
  go_ret
  exact ⟨rfl, rfl⟩

set_option maxHeartbeats 400000 in
/-- New -/
theorem new_hs (lt : Int → Int → Bool) (W : World) (F : Nat) (lb : Array Value) :
    Calls Try.prog 78 #[.func (.func F) #[] lb] W fun e w' => e = .returned (.pointer (some ⟨W.heap.size, 0, none⟩)) ∧ HS w' W.heap.size W.heap.size lt F lb [] 0 ∧ w' = W.alloc (.cells #[.func (.func F) #[] lb, .slice none 0 0, .int .i64 0] 151) := by
  have hS : HS (W.alloc (.cells #[.func (.func F) #[] lb, .slice none 0 0, .int .i64 0] 151)) W.heap.size W.heap.size lt F lb [] 0 :=
    ⟨[], [], ⟨Nat.le_refl _, .slice none 0 0, Blk.new W [.func (.func F) #[] lb, .slice none 0 0, .int .i64 0] 151, World.ownsRow_nil _ _ _ _⟩, heap_nil, List.Perm.refl _, List.Pairwise.nil, rfl, by simp⟩
  go_enter Try.func78, Try.ntmps78
  go_wp2_with fail
  go_ret
  exact ⟨rfl, hS, rfl⟩

end Go.Proofs.Ytbhpokcnkdgcmaa.HeapI
