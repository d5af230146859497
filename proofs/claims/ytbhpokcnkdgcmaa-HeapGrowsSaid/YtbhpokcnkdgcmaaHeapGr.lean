/- HeapGrows: plain laws; its comparison. -/
import Derived.Test.YtbhpokcnkdgcmaaHeapN11
import Derived.Test.YtbhpokcnkdgcmaaHeapAl
import Derived.Test.YtbhpokcnkdgcmaaOpen
import Derived.Laws.Bits128
set_option linter.unusedSimpArgs false
set_option linter.unusedVariables false
namespace Go.Proofs.Ytbhpokcnkdgcmaa.HeapN
open Go.RowKit Go.Shelf Go.Proofs.Ytbhpokcnkdgcmaa.HeapL
attribute [local go_sem] Oper.semAt_some

def ltI (x y : Int) : Bool := decide (x < y)
theorem ltI_ord : Ord ltI where
  asym x y h := by simp [ltI] at *; omega
  tr x y z h1 h2 := by simp [ltI] at *; omega

set_option maxHeartbeats 400000 in
theorem bfg (b p : Nat) (W : World) : BF ltI b p W 44 #[] := by
  refine ⟨enters_of Try.func44 (by kernel_rfl) rfl, fun x y W' _ => ?_⟩
  show Calls Try.prog 44 #[.int .i64 x, .int .i64 y] W' _
  go_enter Try.func44, Try.ntmps44
  go_wp2_with fail
  go_ret
  exact ⟨rfl, Below.refl _ _⟩

theorem insV_mem {α : Type} (lt : α → α → Bool) (x : α) (l : List α) {y : α} (h : y ∈ insV lt x l) : y = x ∨ y ∈ l := by
  induction l with
  | nil => simp [insV] at h; exact .inl h
  | cons z zs ih =>
    unfold insV at h
    split at h
    · rcases List.mem_cons.1 h with h | h
      · exact .inl h
      · exact .inr h
    · rcases List.mem_cons.1 h with h | h
      · exact .inr (h ▸ List.mem_cons_self)
      · rcases ih h with h | h
        · exact .inl h
        · exact .inr (List.mem_cons_of_mem _ h)
theorem insV_inc {x : Int} {l : List Int} (h : l.Pairwise (· ≤ ·)) : (insV ltI x l).Pairwise (· ≤ ·) := by
  induction l with
  | nil => simp [insV]
  | cons z zs ih =>
    rw [List.pairwise_cons] at h
    unfold insV
    split
    · rename_i hl
      have hl' : x < z := by simpa [ltI] using hl
      refine List.pairwise_cons.2 ⟨fun y hy => ?_, List.pairwise_cons.2 h⟩
      rcases List.mem_cons.1 hy with rfl | hy
      · omega
      · have := h.1 y hy; omega
    · rename_i hl
      have hl' : z ≤ x := by simpa [ltI] using hl
      refine List.pairwise_cons.2 ⟨fun y hy => ?_, ih h.2⟩
      rcases insV_mem _ _ _ hy with rfl | hy
      · exact hl'
      · exact h.1 y hy
theorem sortV_inc (zs : List Int) : (sortV ltI zs).Pairwise (· ≤ ·) := by
  unfold sortV
  suffices h : ∀ (l s : List Int), s.Pairwise (· ≤ ·) → (l.foldl (fun s x => insV ltI x s) s).Pairwise (· ≤ ·) by exact h zs [] List.Pairwise.nil
  intro l
  induction l with
  | nil => intro s h; exact h
  | cons x l ih => intro s h; exact ih _ (insV_inc h)
theorem sortV_mem (zs : List Int) {y : Int} (h : y ∈ sortV ltI zs) : y ∈ zs := by
  unfold sortV at h
  suffices k : ∀ (l s : List Int), y ∈ l.foldl (fun s x => insV ltI x s) s → y ∈ s ∨ y ∈ l by
    rcases k zs [] h with h | h
    · cases h
    · exact h
  intro l
  induction l with
  | nil => intro s h; exact .inl h
  | cons x l ih =>
    intro s h
    rcases ih _ h with h | h
    · rcases insV_mem _ _ _ h with rfl | h
      · exact .inr List.mem_cons_self
      · exact .inl h
    · exact .inr (List.mem_cons_of_mem _ h)
theorem i64_and7 (n : Int) : bits .and .i64 n 7 = n % 8 := by
  have h127 : (BitVec.ofInt 64 7).toNat = 2 ^ 3 - 1 := by decide
  have key : (BitVec.ofInt 64 n &&& BitVec.ofInt 64 7).toNat = (n % ((2 ^ 64 : Nat) : Int)).toNat % 2 ^ 3 := by
    rw [BitVec.toNat_and, BitVec.toNat_ofInt, h127, Nat.and_two_pow_sub_one_eq_mod]
  show IntKind.i64.wrap ((BitVec.ofInt 64 n &&& BitVec.ofInt 64 7).toNat : Nat) = n % 8
  rw [key, IntKind.wrap_i64]
  omega

/-- a station: the numbers to come are in order, none below the last one; how many there can be -/
structure GI (L : Nat) (n : Nat) (last : Int) (xs : List Int) : Prop where
  inc : xs.Pairwise (· ≤ ·)
  low : ∀ y ∈ xs, last ≤ y
  rng : ∀ y ∈ xs, -9223372036854775808 ≤ y ∧ y ≤ 9223372036854775807
  most : n + xs.length ≤ 150
  least : L ≤ n + xs.length
  few : xs.length + n ≤ 100 + min n 50
theorem GI.next {L n : Nat} {last x : Int} {xs : List Int} (h : GI L n last (x :: xs)) : GI L (n + 1) x xs :=
  ⟨(List.pairwise_cons.1 h.inc).2, (List.pairwise_cons.1 h.inc).1, fun y hy => h.rng y (List.mem_cons_of_mem _ hy), by have := h.most; simp at this; omega, by have := h.least; simp at this; omega, by have := h.few; simp at this; omega⟩
theorem GI.put {L n : Nat} {x d : Int} {xs : List Int} (h : GI L (n + 1) x xs) (hf : xs.length + (n + 1) ≤ 100 + min n 50) (hn : n + 1 ≤ 50) (hx : -9223372036854775808 ≤ x ∧ x < 1152921504606846976) (hd : 1 ≤ d ∧ d ≤ 8) : GI L (n + 1) x (insV ltI (x + d) xs) :=
  ⟨insV_inc h.inc, fun y hy => (by rcases insV_mem _ _ _ hy with rfl | hy; (· omega); (· exact h.low y hy)), fun y hy => (by rcases insV_mem _ _ _ hy with rfl | hy; (· omega); (· exact h.rng y hy)), by rw [insV_length]; omega, by rw [insV_length]; have := h.least; omega, by rw [insV_length]; omega⟩

theorem gives_of {W W2 : World} {sv : Value} {zs : List Int} (hsm : zs.length < 1099511627776) (hR : Rd cv 1 W.heap.size W sv zs) (hw : W2 = W.alloc (.cells #[sv] 57)) : Gives 100 #[.pointer (some ⟨W.heap.size, 0, none⟩)] W2.heap.size W2 ev zs 0 := by
  have hz : W2.heap.size = W.heap.size + 1 := by rw [hw]; simp
  refine values_gives W2 W.heap.size W2.heap.size sv zs (by omega) (by omega) ?_ ?_
  · rw [hw]; exact Blk.new W [sv] _
  · have hb : Below W.heap.size W W2 := by rw [hw]; exact (Below.refl _ W).alloc (Nat.le_refl _) _
    exact (hR.below hb).mono (by omega)

theorem boxed_typ {W : World} {b : Nat} {t t' : TypeId} {v : Value} {cs : Array Value} {fr : Nat × Nat} (hb : Boxed W b t v) (hk : W.heap[b]? = some (.cells cs t' fr)) : t = t' := by
  unfold Boxed at hb
  rw [hb] at hk
  simp at hk
  exact hk.2.1
theorem HS.setOther {W : World} {base p : Nat} {lt : Int → Int → Bool} {F : Nat} {lb : Array Value} {xs : List Int} {T : Nat} (h : HS W base p lt F lb xs T) {Bo : Nat} {t : TypeId} {v : Value} (hb : Boxed W Bo t v) (h1 : t ≠ 131) (h2 : t ≠ 133) (u : Value) : HS (W.setCell ⟨Bo, 0, none⟩ u) base p lt F lb xs T := by
  obtain ⟨es, s, ⟨k1, v', k2, k3⟩, r⟩ := h
  refine ⟨es, s, ⟨k1, v', k2.other (fun e => ?_) _, own_setCell k3 (fun e => ?_) 0 _⟩, r⟩
  · have e' : p = Bo := e
    subst e'
    exact h1 (boxed_typ hb k2)
  · obtain ⟨_, cs, fr, hc⟩ := own_typ k3 Bo e
    exact h2 (boxed_typ hb hc)
/-- the memory at a station: the boxes of by, of the answer, of the heap (g), of n, of last, of Drain -/
structure GM (W : World) (p g : Nat) (d : Int) (n : Nat) (last : Int) (W' : World) : Prop where
  b3 : Blk W' W.heap.size 2 [.int .i64 d]
  b4 : ∃ v, Blk W' (W.heap.size + 1) 4 [v]
  b5 : Blk W' g 58 [.pointer (some ⟨p, 0, none⟩)]
  b6 : Blk W' (g + 1) 3 [.int .i64 (n : Int)]
  b7 : Blk W' (g + 1 + 1) 2 [.int .i64 last]
  bB : Blk W' (g + 1 + 1 + 1) 58 [.pointer (some ⟨p, 0, none⟩)]
  bel : Below W.heap.size W W'
theorem GM.fr {W : World} {p g : Nat} {d : Int} {n : Nat} {last : Int} {A B : World} (h : GM W p g d n last A) (hf : Fr p p 133 A B) (h1 : W.heap.size + 1 < p) (h2 : p < g) : GM W p g d n last B where
  b3 := hf.blk h.b3 (by omega) (by decide)
  b4 := by obtain ⟨v, hv⟩ := h.b4; exact ⟨v, hf.blk hv (by omega) (by decide)⟩
  b5 := hf.blk h.b5 (by omega) (by decide)
  b6 := hf.blk h.b6 (by omega) (by decide)
  b7 := hf.blk h.b7 (by omega) (by decide)
  bB := hf.blk h.bB (by omega) (by decide)
  bel := h.bel.trans (hf.below.mono (by omega))
theorem GM.below {W : World} {p g : Nat} {d : Int} {n : Nat} {last : Int} {A B : World} (h : GM W p g d n last A) (hb : Below A.heap.size A B) : GM W p g d n last B where
  b3 := h.b3.belowS hb
  b4 := by obtain ⟨v, hv⟩ := h.b4; exact ⟨v, hv.belowS hb⟩
  b5 := h.b5.belowS hb
  b6 := h.b6.belowS hb
  b7 := h.b7.belowS hb
  bB := h.bB.belowS hb
  bel := h.bel.trans (hb.mono h.bel.size)
theorem GM.own (W : World) (p g : Nat) (d : Int) (n : Nat) (last : Int) {b : Nat} (hbb : W.heap.size ≤ b) : OwnFrom b (fun (_ : Unit) W' => GM W p g d n last W') := fun s A B row h hg hr => by
  have k : ∀ {c : Nat} {t : TypeId} {l : List Value}, Blk A c t l → Blk B c t l := fun hc => Own.from (blk_own _ _ (fun _ : Unit => _)) b () A B row hc hg hr
  exact ⟨k h.b3, (by obtain ⟨v, hv⟩ := h.b4; exact ⟨v, k hv⟩), k h.b5, k h.b6, k h.b7, k h.bB, ownFrom_below (Nat.le_refl _) hbb () A B row h.bel hg hr⟩

theorem GM.step {W : World} {p g : Nat} {d : Int} {n : Nat} {last : Int} {A : World} (h : GM W p g d n last A) (h1 : W.heap.size + 1 < g) (x : Int) : GM W p g d (n + 1) x ((A.setCell ⟨g + 1 + 1, 0, none⟩ (.int .i64 x)).setCell ⟨g + 1, 0, none⟩ (.int .i64 ((n : Int) + 1))) where
  b3 := (h.b3.other (p := ⟨g + 1 + 1, 0, none⟩) (by simp; omega) _).other (p := ⟨g + 1, 0, none⟩) (by simp; omega) _
  b4 := by obtain ⟨v, hv⟩ := h.b4; exact ⟨v, (hv.other (p := ⟨g + 1 + 1, 0, none⟩) (by simp; omega) _).other (p := ⟨g + 1, 0, none⟩) (by simp; omega) _⟩
  b5 := (h.b5.other (p := ⟨g + 1 + 1, 0, none⟩) (by simp; omega) _).other (p := ⟨g + 1, 0, none⟩) (by simp) _
  b6 := (h.b6.other (p := ⟨g + 1 + 1, 0, none⟩) (by simp) _).set 0 _
  b7 := (h.b7.set 0 (.int .i64 x)).other (p := ⟨g + 1, 0, none⟩) (by simp) _
  bB := (h.bB.other (p := ⟨g + 1 + 1, 0, none⟩) (by simp) _).other (p := ⟨g + 1, 0, none⟩) (by simp; omega) _
  bel := (h.bel.setCell (p := ⟨g + 1 + 1, 0, none⟩) (by simp; omega) _).setCell (p := ⟨g + 1, 0, none⟩) (by simp; omega) _
/-- a station, before a number is taken out -/
def GV (W : World) (L p g : Nat) (d : Int) (m : Nat) (xs : List Int) (W' : World) : Prop :=
  ∃ (n : Nat) (last : Int) (T : Nat), GI L n last xs ∧ m = xs.length + (50 - n) ∧ T ≤ 100 + min n 50 ∧ HS W' p p ltI 44 #[] xs T ∧ GM W p g d n last W'
/-- a number has been taken out -/
def GD (W : World) (L p g : Nat) (d : Int) (m : Nat) (x : Int) (xs : List Int) (W' : World) : Prop :=
  ∃ (n : Nat) (last : Int) (T : Nat), GI L n last (x :: xs) ∧ m = xs.length + 1 + (50 - n) ∧ T ≤ 100 + min n 50 ∧ HS W' p p ltI 44 #[] xs T ∧ GM W p g d n last W'
theorem GV.own (W : World) (L p g : Nat) (d : Int) (m : Nat) (xs : List Int) {b : Nat} (hbb : W.heap.size ≤ b) : OwnFrom b (fun (_ : Unit) W' => GV W L p g d m xs W') := fun s A B row h hg hr => by
  obtain ⟨n, last, T, h1, h2, h3, h4, h5⟩ := h
  exact ⟨n, last, T, h1, h2, h3, Own.from (HS.own p p ltI _ #[] (fun _ : Unit => xs) (fun _ => T)) b () A B row h4 hg hr, GM.own W p g d n last hbb () A B row h5 hg hr⟩
theorem GD.own (W : World) (L p g : Nat) (d : Int) (m : Nat) (x : Int) (xs : List Int) {b : Nat} (hbb : W.heap.size ≤ b) : OwnFrom b (fun (_ : Unit) W' => GD W L p g d m x xs W') := fun s A B row h hg hr => by
  obtain ⟨n, last, T, h1, h2, h3, h4, h5⟩ := h
  exact ⟨n, last, T, h1, h2, h3, Own.from (HS.own p p ltI _ #[] (fun _ : Unit => xs) (fun _ => T)) b () A B row h4 hg hr, GM.own W p g d n last hbb () A B row h5 hg hr⟩

set_option maxRecDepth 100000 in
set_option maxHeartbeats 100000000 in
theorem grows_walk (W : World) (sv : Value) (zs : List Int) (hR : Rd (fun x => [.int .i64 x]) 1 W.heap.size W sv zs) (hL : zs.length ≤ maxLen) (hwf : ∀ z ∈ zs, (Lit.int .i64 z).wf = true) (by0 : Int) (_ : (Lit.int .i64 by0).wf = true) :
    Calls Try.prog 8 #[sv, .int .i64 by0] W fun e w' => e = .returned (.bool true) ∧ Below W.heap.size W w' := by
  unfold maxLen at hL
  have hR0 : ∃ a cap, sv = .slice a zs.length cap := by
    rcases hR with ⟨a, cap, rfl, rfl⟩ | ⟨b, off, cap, rfl, _⟩
    · exact ⟨_, _, rfl⟩
    · exact ⟨_, _, rfl⟩
  obtain ⟨a, cap, rfl⟩ := hR0
  have hRc : Rd cv 1 W.heap.size W (.slice a zs.length cap) zs := hR
  clear hR
  refine (callsIn_wide (n := 4)).1 ?_
  refine callsIn_of_wp_marks Try.func8 rfl trivial ?_ rfl
  refine wpIn_wide.2 ?_
  simp only [Try.ntmps8, List.size_toArray, List.length_cons, List.length_nil, Nat.reduceAdd, Nat.reduceSub, Array.replicate_succ, Array.replicate_zero, List.push_toArray, List.append_toArray, List.nil_append, List.cons_append]
  have b3 := (Blk.new W [.int .i64 by0] 2).alloc (.cells #[.bool false] 4)
  have b4 := Blk.new2 W (.cells #[.int .i64 by0] 2) [.bool false] 4
  have hBa := bel_alloc2 W (.cells #[.int .i64 by0] 2) (.cells #[.bool false] 4)
  go_wp2_with fail
  refine (HeapI.alive_any _).mono ?_; rintro e w1 ⟨rfl, hB1⟩
  have b31 := b3.belowS hB1
  have b41 := b4.belowS hB1
  have hBw1 := hBa.trans (hB1.mono hBa.size)
  clear b3 b4 hBa hB1
  have c3 := b31.cell (i := 0) rfl
  have e3 := b31.frozen 0
  have c4 := b41.cell (i := 0) rfl
  have e4 := b41.frozen 0
  have l4 := b41.lt
  by_cases hl : zs.length ≤ 100
  · have hl' : (zs.length : Int) ≤ 100 := by omega
    obtain ⟨d, hd⟩ : ∃ d : Int, wrap64 (1 + bits BinOp.and IntKind.i64 by0 7) = d := ⟨_, rfl⟩
    have hd1 : 1 ≤ d ∧ d ≤ 8 := by rw [← hd, i64_and7]; unfold wrap64; omega
    go_wp2_with fail
    rw [hd]
    have b32 := b31.set 0 (.int .i64 d)
    have b42 := b41.other (p := ⟨W.heap.size, 0, none⟩) (by simp) (.int .i64 d)
    have hBw2 := hBw1.setCell (p := ⟨W.heap.size, 0, none⟩) (Nat.le_refl _) (.int .i64 d)
    obtain ⟨w2, hw2⟩ : ∃ w2, w1.setCell ⟨W.heap.size, 0, none⟩ (.int .i64 d) = w2 := ⟨_, rfl⟩
    rw [hw2] at b32 b42 hBw2 ⊢
    clear hw2 c3 e3 c4 e4 b31 b41 hBw1 l4
    have hR2 := (hRc.below hBw2).mono hBw2.size
    refine (values_any w2 _ _ _).mono ?_; rintro e w3 ⟨rfl, hw3⟩
    have hG3 := gives_of (by omega) hR2 hw3
    have hB3 : Below w2.heap.size w2 w3 := by rw [hw3]; exact (Below.refl _ w2).alloc (Nat.le_refl _) _
    have b33 := b32.belowS hB3
    have b43 := b42.belowS hB3
    have hBw3 := hBw2.trans (hB3.mono hBw2.size)
    clear hw3 b32 b42 hBw2 hB3 hR2
    go_wp2_with fail
    refine (from_any ltI ltI_ord w3 _ #[] _ _ zs (by omega) (fun W' _ => bfg _ _ _) hG3).mono ?_; rintro e w4 ⟨rfl, hS4, hB4⟩
    have b34 := b33.belowS hB4
    have b44 := b43.belowS hB4
    have hBw4 := hBw3.trans (hB4.mono hBw3.size)
    have h34 := b33.lt
    have h44 := b43.lt
    obtain ⟨p, hp⟩ : ∃ p, w3.heap.size = p := ⟨_, rfl⟩
    rw [hp] at hS4 h34 h44 ⊢
    clear hp hB4 b33 b43 hBw3 hG3
    go_wp2_with fail
    refine (drain_any _ _).mono ?_; rintro e w5 ⟨rfl, hw5⟩
    have hz4 := hS4.lt'.2
    obtain ⟨g, hg⟩ : ∃ g, w4.heap.size = g := ⟨_, rfl⟩
    have hB5 : Below w4.heap.size w4 w5 := by rw [hw5]; exact ((bel_alloc2 w4 _ _).alloc (by simp; omega) _).alloc (by simp; omega) _
    have q5 : Blk w5 g 58 [.pointer (some ⟨p, 0, none⟩)] := by rw [hw5, ← hg]; exact (((Blk.new w4 [.pointer (some ⟨p, 0, none⟩)] 58).alloc _).alloc _).alloc _
    have q6 : Blk w5 (g + 1) 3 [.int .i64 ((0 : Nat) : Int)] := by rw [hw5, ← hg]; exact ((Blk.new2 w4 _ [.int .i64 0] 3).alloc _).alloc _
    have q7 : Blk w5 (g + 1 + 1) 2 [.int .i64 (-9223372036854775808)] := by
      rw [hw5, ← hg]; have := Blk.new2 (w4.alloc (.cells #[.pointer (some ⟨p, 0, none⟩)] 58)) (.cells #[.int .i64 0] 3) [.int .i64 (-9223372036854775808)] 2; rw [World.size_alloc] at this; exact this.alloc _
    have qB : Blk w5 (g + 1 + 1 + 1) 58 [.pointer (some ⟨p, 0, none⟩)] := by
      rw [hw5, ← hg]; have := Blk.new2 ((w4.alloc (.cells #[.pointer (some ⟨p, 0, none⟩)] 58)).alloc (.cells #[.int .i64 0] 3)) (.cells #[.int .i64 (-9223372036854775808)] 2) [.pointer (some ⟨p, 0, none⟩)] 58; rw [World.size_alloc, World.size_alloc] at this; exact this
    have hz5 : w5.heap.size = g + 1 + 1 + 1 + 1 := by rw [hw5, ← hg]; simp
    have hGM : GM W p g d 0 (-9223372036854775808) w5 := ⟨b34.belowS hB5, ⟨_, b44.belowS hB5⟩, q5, q6, q7, qB, hBw4.trans (hB5.mono hBw4.size)⟩
    have hS5 := hS4.below hB5
    have hrg : ∀ z ∈ zs, -9223372036854775808 ≤ z ∧ z ≤ 9223372036854775807 := fun z hz => bounds_i64 (hwf z hz)
    rw [World.size_alloc, World.size_alloc, World.size_alloc, hg]
    rw [hg] at hz4
    clear hw5 hS4 b34 b44 hB5 hBw4 q5 q6 q7 qB
    go_wp2_with fail
    have hbW : W.heap.size ≤ w5.heap.size := by omega
    have hbW2 : W.heap.size + 2 ≤ w5.heap.size := by omega
    clear hz5
    have hs0 := sortV_length ltI zs
    have hV0 : GV W zs.length p g d ((sortV ltI zs).length + 50) (sortV ltI zs) w5 := ⟨0, _, _, ⟨sortV_inc zs, fun y hy => (hrg y (sortV_mem zs hy)).1, fun y hy => hrg y (sortV_mem zs hy), by omega, by omega, by omega⟩, by omega, by omega, hS5, hGM⟩
    have hit := drain_iter ltI ltI_ord p p 44 (g + 1 + 1 + 1) #[] 3 (fun m xs W' => GV W zs.length p g d m xs W')
      (fun x W' => GD W zs.length p g d x.1 x.2.1 x.2.2 W')
      (fun W' => ∃ m, GV W zs.length p g d m [] W')
      (fun m xs W' h => by
        obtain ⟨n, last, T, h1, h2, h3, h4, h5⟩ := h
        exact ⟨⟨T, h4⟩, bfg _ _ _, by have := h1.most; omega, h5.bB⟩)
      (fun m x xs W' W'' h hf hs => by
        obtain ⟨n, last, T, h1, h2, h3, h4, h5⟩ := h
        exact ⟨n, last, T, h1, by simpa using h2, h3, hs _ h4, h5.fr hf (by omega) (by omega)⟩)
      (fun m W' W'' h hb => by
        obtain ⟨n, last, T, h1, h2, h3, h4, h5⟩ := h
        exact ⟨m, n, last, T, h1, h2, h3, h4.below hb, h5.below hb⟩)
    refine wpIn_wide.1 (range_gen (F := Fence.wide) (n := 4) rfl (by omega) (gf := 101) (lb := #[.pointer (some ⟨g + 1 + 1 + 1, 0, none⟩)]) rfl trivial (enters_of Try.func101 (by kernel_rfl) rfl) (encs := fun x : Gh => #[ev x.2.1]) (fun _ => rfl)
      (fun W' => ∃ m xs, GV W zs.length p g d m xs W')
      (fun x W' => GD W zs.length p g d x.1 x.2.1 x.2.2 W')
      (fun x W' => ∃ m' xs', m' < x.1 ∧ GV W zs.length p g d m' xs' W')
      (fun _ _ => False)
      (fun W' => ∃ m, GV W zs.length p g d m [] W')
      (fun x a' W' => a' = { tmps := #[Value.slice a zs.length cap, Value.int IntKind.i64 by0, undef, Value.pointer (some ⟨W.heap.size, 0, none⟩), Value.pointer (some ⟨W.heap.size + 1, 0, none⟩), Value.pointer (some ⟨g, 0, none⟩), Value.pointer (some ⟨g + 1, 0, none⟩), Value.pointer (some ⟨g + 1 + 1, 0, none⟩), ev x.2.1, Value.bool true, Value.bool false, Value.slice a zs.length cap, Value.int IntKind.i64 (zs.length : Int), Value.bool (decide ((100 : Int) < (zs.length : Int))), Value.int IntKind.i64 by0, Value.int IntKind.i64 (bits BinOp.and IntKind.i64 by0 7), Value.int IntKind.i64 d, Value.slice a zs.length cap, Value.func (.func 100) #[] #[.pointer (some ⟨w2.heap.size, 0, none⟩)], Value.pointer (some ⟨p, 0, none⟩), Value.pointer (some ⟨p, 0, none⟩), Value.func (.func 101) #[] #[.pointer (some ⟨g + 1 + 1 + 1, 0, none⟩)], ev x.2.1, undef, undef, undef, undef, undef, undef, undef, undef, undef, undef, undef, undef, undef, undef, undef, undef, undef, undef, undef, undef, undef, undef, undef, undef, undef, undef, undef, undef], defers := [] } ∧ GD W zs.length p g d x.1 x.2.1 x.2.2 W')
      (fun s A A' row hs hg hr => by obtain ⟨m, xs, h⟩ := hs; exact ⟨m, xs, GV.own W _ p g d m xs hbW () A A' row h hg hr⟩)
      (fun x s A A' row hs hg hr => by obtain ⟨m, xs, h0, h⟩ := hs; exact ⟨m, xs, h0, GV.own W _ p g d m xs hbW () A A' row h hg hr⟩)
      (fun _ _ _ _ _ hs _ _ => hs)
      (fun s A A' row hs hg hr => by obtain ⟨m, h⟩ := hs; exact ⟨m, GV.own W _ p g d m [] hbW () A A' row h hg hr⟩)
      (fun x a' => OwnFrom.and (fun _ _ _ _ hs _ _ => hs) (GD.own W _ p g d _ _ _ hbW))
      ⟨_, _, hV0⟩ hit ?assign ?body ?done ?stop)
    case assign =>
      rintro l ⟨m, x, xs⟩ W' K hD hK
      dsimp only [ev] at hK hD ⊢
      gi_wp2
      exact hK _ _ (KeepsFrom.refl _ _) ⟨rfl, hD⟩
    case body =>
      rintro l ⟨m, x, xs⟩ a' W' hl2 hr ⟨ha, n, last, T, hI, hm, hT, hS, hG⟩
      dsimp only [ev] at ha hI hm hS ⊢
      subst ha
      have hlx := hI.low x List.mem_cons_self
      have hrx := hI.rng x List.mem_cons_self
      have hmo := hI.most
      have hfw := hI.few
      simp only [List.length_cons] at hmo hfw
      have hIn := hI.next
      have n3 : (n : Int) ≤ 150 := by omega
      have n4 : (n : Int) + 1 ≤ 200 := by omega
      have c3 := hG.b3.cell (i := 0) rfl
      have c5 := hG.b5.cell (i := 0) rfl
      have c6 := hG.b6.cell (i := 0) rfl
      have e6 := hG.b6.frozen 0
      have c7 := hG.b7.cell (i := 0) rfl
      have e7 := hG.b7.frozen 0
      have l7 := hG.b7.lt
      have hG2 := hG.step (by omega) x
      have hS2 := HS.setOther (HS.setOther hS (show Boxed W' (g + 1 + 1) 2 (.int .i64 last) from hG.b7) (by decide) (by decide) (.int .i64 x)) (show Boxed (W'.setCell ⟨g + 1 + 1, 0, none⟩ (.int .i64 x)) (g + 1) 3 (.int .i64 (n : Int)) from hG.b6.other (p := ⟨g + 1 + 1, 0, none⟩) (by simp) _) (by decide) (by decide) (.int .i64 ((n : Int) + 1))
      have hne1 : W.heap.size ≠ g + 1 := by omega
      have hne2 : W.heap.size ≠ g + 1 + 1 := by omega
      have hne3 : W.heap.size + 1 < p := by omega
      have hKS : KeepsOthers W' ((W'.setCell ⟨g + 1 + 1, 0, none⟩ (.int .i64 x)).setCell ⟨g + 1, 0, none⟩ (.int .i64 ((n : Int) + 1))) := (KeepsOthers.setCell _ _ _).trans (KeepsOthers.setCell _ _ _)
      have hPp : ∃ l, Blk ((W'.setCell ⟨g + 1 + 1, 0, none⟩ (.int .i64 x)).setCell ⟨g + 1, 0, none⟩ (.int .i64 ((n : Int) + 1))) p 131 l := by obtain ⟨_, _, hM⟩ := hS2.length; obtain ⟨_, vv, hPb, _⟩ := hM; exact ⟨_, hPb⟩
      obtain ⟨lp, hPp⟩ := hPp
      have HM := Lib.hid hm
      clear hm
      by_cases hc1 : (n : Int) + 1 ≤ 50
      · by_cases hc2 : x < 1152921504606846976
        · have hw : wrap64 (x + d) = x + d := by unfold wrap64; omega
          have HP := Lib.hid (put_hs ltI ltI_ord _ p p _ #[] xs T (x + d) (by omega) (by omega) hS2 (bfg _ _ _))
          have HW := Lib.hid hw
          clear hw
          gi_wp2_with (refine ⟨trivial, ?_⟩; gi_at_call 47; refine (CallsIn.inRound l (callsIn_wide.2 HP.out)).mono ?_; rintro e w7 ⟨rfl, hS7, hF7⟩; have hG7 := hG2.fr hF7 (by omega) (by omega); have c67 := hG7.b6.cell (i := 0) rfl)
          refine ⟨(hKS.trans (hF7.others hPp)).from _, (insV ltI (x + d) xs).length + (50 - (n + 1)), insV ltI (x + d) xs, by have := HM.out; rw [insV_length]; omega, n + 1, x, T + 1, hIn.put (by omega) (by omega) ⟨hrx.1, hc2⟩ hd1, rfl, by omega, hS7, hG7⟩
        · have hc3 : 1152921504606846976 ≤ x := by omega
          gi_wp2_with fail
          refine ⟨hKS.from _, xs.length + (50 - (n + 1)), by have := HM.out; omega, xs, n + 1, x, T, hIn, rfl, by omega, hS2, hG2⟩
      · have hc3 : 50 < (n : Int) + 1 := by omega
        gi_wp2_with fail
        refine ⟨hKS.from _, xs.length + (50 - (n + 1)), by have := HM.out; omega, xs, n + 1, x, T, hIn, rfl, by omega, hS2, hG2⟩
    case done =>
      rintro D W' hD ⟨m, n, last, T, hI, hm, hT, hS, hG⟩ hK
      obtain ⟨v4, hv4⟩ := hG.b4
      have c5 := hG.b5.cell (i := 0) rfl
      have c6 := hG.b6.cell (i := 0) rfl
      have c4 := hv4.cell (i := 0) rfl
      have e4 := hv4.frozen 0
      have hle := hI.least
      simp only [List.length_nil, Nat.add_zero] at hle
      have hle2 : (zs.length : Int) ≤ (n : Int) := by omega
      have hD2 : D ≠ W.heap.size + 1 := by omega
      have HM := Lib.hid hm
      clear hm
      go_wp2_with fail
      refine (len_hs ltI W' p p _ #[] [] T hS).mono ?_; rintro e w8 ⟨rfl, rfl⟩
      go_wp2_with fail
      have hK2 : (W'.setCell ⟨W.heap.size + 1, 0, none⟩ (.bool true)).heap[D]? = some (.deferred (some [])) := (Below.heap_setCell W' ⟨W.heap.size + 1, 0, none⟩ _ D hD2).trans hK
      refine ⟨by simp, .inl ⟨_, _, rfl, run_takeDeferred hK2, ?_⟩⟩
      have q4 : ∀ o, ((W'.setCell ⟨W.heap.size + 1, 0, none⟩ (.bool true)).putObj D o).cell? ⟨W.heap.size + 1, 0, none⟩ = some (.bool true) := fun o => by
        have q := hv4.set 0 (.bool true)
        have q2 : Blk ((W'.setCell ⟨W.heap.size + 1, 0, none⟩ (.bool true)).putObj D o) (W.heap.size + 1) 4 [.bool true] := (World.putObj_heap_other (by omega)).trans q
        exact q2.cell (i := 0) rfl
      refine ⟨.bool true, by simp [results, Try.f8, go_sem, q4], rfl, ?_⟩
      exact (hG.bel.setCell (p := ⟨W.heap.size + 1, 0, none⟩) (by simp) _).trans (belowK_b (w := w5) hbW _ D _ _ hD hK2 rfl rfl)
    case stop =>
      rintro D c W' hD h hK
      exact h.elim
  · have hl' : (100 : Int) < (zs.length : Int) := by omega
    go_wp2_with fail
    have q4 := b41.set 0 (.bool true)
    have q4c := q4.cell (i := 0) rfl
    refine ⟨.bool true, by simp [results, Try.f8, go_sem, q4c], rfl, hBw1.setCell (p := ⟨W.heap.size + 1, 0, none⟩) (by simp) _⟩

end Go.Proofs.Ytbhpokcnkdgcmaa.HeapN
