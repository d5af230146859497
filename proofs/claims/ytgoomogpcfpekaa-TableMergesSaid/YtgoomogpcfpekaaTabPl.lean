/- the document's answer for tables: its functions over rows of pairs. -/
import Derived.Test.YtgoomogpcfpekaaTabR
import Derived.Test.YtgoomogpcfpekaaTabN12
set_option linter.unusedSimpArgs false
set_option linter.unusedVariables false
namespace Go.Proofs.Ytgoomogpcfpekaa.TabR
open Go.RowKit Go.Proofs.YtgoomogpcfpekaaW.PrintWords Go.Proofs.Ytgoomogpcfpekaa.TabL Go.Proofs.Ytgoomogpcfpekaa.PTablePlays
open Go.Proofs.Ytgoomogpcfpekaa.TabN (ltI belowL cP)

/-- the slice value v reads as the pairs l -/
def PS (W : World) (v : Value) (l : List (Int × Int)) : Prop := ∃ A c, v = .slice A l.length c ∧ l.length ≤ c ∧ Kd.C k41 W A l.length (l.map toS)
theorem ps_ret {w w' : World} {e : Ending} {l : List (Int × Int)} (h : ∃ v0_ : Value, e = .returned v0_ ∧ Kd.R k41 41 w' w.heap.size (fun _ => True) v0_ (l.map toS) ∧ Below w.heap.size w w') : ∃ v, e = .returned v ∧ PS w' v l ∧ (∀ k, v.ownBlock = some k → w.heap.size ≤ k) ∧ Below w.heap.size w w' := by
  obtain ⟨v, rfl, hR, hB⟩ := h
  have hbs := Kd.R_base hR
  obtain ⟨A, c, rfl, h1, h2⟩ := Kd.R_reads hR
  rw [List.length_map] at h1 h2 hbs ⊢
  exact ⟨_, rfl, ⟨A, c, rfl, h1, h2⟩, hbs, hB⟩
theorem PS.below {W W' : World} {v : Value} {l : List (Int × Int)} (h : PS W v l) (hb : Below W.heap.size W W') : PS W' v l := by
  obtain ⟨A, c, rfl, h1, h2⟩ := h
  exact ⟨A, c, rfl, h1, Kd.C_below h2 hb⟩
/-- behind a write of another block -/
theorem PS.other {W W' : World} {v : Value} {l : List (Int × Int)} {p : Nat} (h : PS W v l) (hne : v.ownBlock ≠ some p) (hg : W.grownBy W' (some p)) : PS W' v l := by
  obtain ⟨A, c, rfl, h1, h2⟩ := h
  refine ⟨A, c, rfl, h1, h2.1, h2.2.1, fun hpos => ?_⟩
  obtain ⟨a, rfl, hr⟩ := h2.2.2 hpos
  have hb : a.block ≠ p := fun e => hne (by simp [Value.ownBlock, e])
  refine ⟨a, rfl, fun j x hx => ?_⟩
  obtain ⟨cs, hl, hk, hc⟩ := hr j x hx
  refine ⟨cs, hl, ?_, fun i u hu => ?_⟩
  · have := k41_open hk
    subst this
    exact k41_mk W' x
  · have h3 := hc i u hu
    have hbl : (a.add (j * k41.sz + i)).block = a.block := by unfold Addr.add; split <;> rfl
    rw [← h3]
    exact World.cell?_of_block (hg.block _ (World.block_lt_of_cell? _ _ h3) (by rw [hbl]; simpa using hb))

theorem ref_get (W : World) (v : Value) (l : List (Int × Int)) (k : Int) (hl : l.length ≤ 1099511627776) (h : PS W v l) : Calls Try.prog 37 #[v, .int .i64 k] W fun e w' => e = .returned (.tuple #[.int .i64 (gv l k).1, .bool (gv l k).2]) ∧ Below W.heap.size W w' := by
  obtain ⟨A, c, rfl, h1, h2⟩ := h
  obtain ⟨n, hn⟩ := (get_ev l k hl).rounds
  have := saleroomref08_Get.calls n A c (l.map toS) k (gv l k).1 (gv l k).2 W (by rw [List.length_map]; exact h2) (by rw [List.length_map]; exact h1) hn
  rw [List.length_map] at this
  exact this.mono fun _ _ ⟨a, b⟩ => ⟨a, b.below⟩
theorem ref_put (W : World) (v : Value) (l : List (Int × Int)) (k x : Int) (hs : Sd ltI l) (hl : l.length ≤ 1099511627776) (h : PS W v l) : Calls Try.prog 38 #[v, .int .i64 k, .int .i64 x] W fun e w' => ∃ v', e = .returned v' ∧ PS w' v' (putL ltI l k x) ∧ (∀ k, v'.ownBlock = some k → W.heap.size ≤ k) ∧ Below W.heap.size W w' := by
  obtain ⟨A, c, rfl, h1, h2⟩ := h
  obtain ⟨n, hn⟩ := (put_ev l k x hs hl).rounds
  have := saleroomref08_Put.calls n A c (l.map toS) k x _ W (by rw [List.length_map]; exact h2) (by rw [List.length_map]; exact h1) hn
  rw [List.length_map] at this
  exact this.mono fun _ _ h => ps_ret h
theorem ref_drop (W : World) (v : Value) (l : List (Int × Int)) (k : Int) (hl : l.length ≤ 1099511627776) (h : PS W v l) : Calls Try.prog 44 #[v, .int .i64 k] W fun e w' => ∃ v', e = .returned v' ∧ PS w' v' (dropL ltI l k) ∧ (∀ k, v'.ownBlock = some k → W.heap.size ≤ k) ∧ Below W.heap.size W w' := by
  obtain ⟨A, c, rfl, h1, h2⟩ := h
  obtain ⟨n, hn⟩ := (drop_ev l k hl).rounds
  have := saleroomref08_Drop.calls n A c (l.map toS) k _ W (by rw [List.length_map]; exact h2) (by rw [List.length_map]; exact h1) hn
  rw [List.length_map] at this
  exact this.mono fun _ _ h => ps_ret h
theorem ref_from (W : World) (v : Value) (l : List (Int × Int)) (k : Int) (hl : l.length ≤ 1099511627776) (h : PS W v l) : Calls Try.prog 18 #[v, .int .i64 k] W fun e w' => ∃ v', e = .returned v' ∧ PS w' v' (fromL ltI l k) ∧ (∀ k, v'.ownBlock = some k → W.heap.size ≤ k) ∧ Below W.heap.size W w' := by
  obtain ⟨A, c, rfl, h1, h2⟩ := h
  obtain ⟨n, hn⟩ := (from_ev l k hl).rounds
  have := saleroomref08_From.calls n A c (l.map toS) k _ W (by rw [List.length_map]; exact h2) (by rw [List.length_map]; exact h1) hn
  rw [List.length_map] at this
  exact this.mono fun _ _ h => ps_ret h
theorem ref_back (W : World) (v : Value) (l : List (Int × Int)) (hl : l.length ≤ 1099511627776) (h : PS W v l) : Calls Try.prog 16 #[v] W fun e w' => ∃ v', e = .returned v' ∧ PS w' v' l.reverse ∧ (∀ k, v'.ownBlock = some k → W.heap.size ≤ k) ∧ Below W.heap.size W w' := by
  obtain ⟨A, c, rfl, h1, h2⟩ := h
  obtain ⟨n, hn⟩ := (back_ev l hl).rounds
  have := saleroomref08_Back.calls n A c (l.map toS) _ W (by rw [List.length_map]; exact h2) (by rw [List.length_map]; exact h1) hn
  rw [List.length_map] at this
  exact this.mono fun _ _ h => ps_ret h
theorem ref_below (W : World) (v : Value) (l : List (Int × Int)) (k : Int) (hl : l.length ≤ 1099511627776) (h : PS W v l) : Calls Try.prog 20 #[v, .int .i64 k] W fun e w' => e = .returned (.tuple #[.int .i64 ((belowL l k).getD 0), .bool (belowL l k).isSome]) ∧ Below W.heap.size W w' := by
  obtain ⟨A, c, rfl, h1, h2⟩ := h
  obtain ⟨n, hn⟩ := (below_ev l k hl).rounds
  have := saleroomref08_Below.calls n A c (l.map toS) k _ _ W (by rw [List.length_map]; exact h2) (by rw [List.length_map]; exact h1) hn
  rw [List.length_map] at this
  exact this.mono fun _ _ ⟨a, b⟩ => ⟨a, b.below⟩
theorem ref_same (W : World) (v u : Value) (l m : List (Int × Int)) (hl : l.length ≤ 1099511627776) (h : PS W v l) (h' : PS W u m) : Calls Try.prog 12 #[v, u] W fun e w' => e = .returned (.bool (decide (l = m))) ∧ Below W.heap.size W w' := by
  obtain ⟨A, c, rfl, h1, h2⟩ := h
  obtain ⟨B, d, rfl, h3, h4⟩ := h'
  obtain ⟨n, hn⟩ := (same_ev l m hl).rounds
  have := saleroomref08_Same.calls n A c (l.map toS) B d (m.map toS) _ W (by rw [List.length_map]; exact h2) (by rw [List.length_map]; exact h1) (by rw [List.length_map]; exact h4) (by rw [List.length_map]; exact h3) hn
  rw [List.length_map, List.length_map] at this
  exact this.mono fun _ _ ⟨a, b⟩ => ⟨a, b.below⟩

end Go.Proofs.Ytgoomogpcfpekaa.TabR

/- table laws: what a row of steps comes to, in plain words. -/
set_option linter.unusedSimpArgs false
set_option linter.unusedVariables false
namespace Go.Proofs.Ytgoomogpcfpekaa.TabR
open Go.RowKit Go.Proofs.Ytgoomogpcfpekaa.TabL
open Go.Proofs.Ytgoomogpcfpekaa.TabN (ltI belowL getV putL_len lin)

abbrev Op3 := Int × Int × Int
/-- one step: puts (0, 1, 2), drops (3), clears (4), else asks -/
def stepL (xs : List (Int × Int)) (o : Op3) : List (Int × Int) :=
  if o.1 = 0 ∨ o.1 = 1 ∨ o.1 = 2 then putL ltI xs o.2.1 o.2.2 else if o.1 = 3 then dropL ltI xs o.2.1 else if o.1 = 4 then [] else xs
def playL (ops : List Op3) : List (Int × Int) := ops.foldl stepL []
theorem stepL_sd {xs : List (Int × Int)} (h : Sd ltI xs) (o : Op3) : Sd ltI (stepL xs o) := by
  unfold stepL
  split
  · exact putL_sd lin h _ _
  · split
    · exact dropL_sd h _
    · split
      · exact List.Pairwise.nil
      · exact h
theorem stepL_len (xs : List (Int × Int)) (o : Op3) : (stepL xs o).length ≤ xs.length + 1 := by
  unfold stepL
  split
  · exact putL_len _ _ _
  · split
    · exact Nat.le_trans (List.length_filter_le _ _) (Nat.le_succ _)
    · split
      · simp
      · exact Nat.le_succ _
theorem play_sd (ops : List Op3) : ∀ {xs : List (Int × Int)}, Sd ltI xs → Sd ltI (ops.foldl stepL xs) := by
  induction ops with
  | nil => intro xs h; exact h
  | cons o ops ih => intro xs h; exact ih (stepL_sd h o)
theorem play_len (ops : List Op3) : ∀ xs : List (Int × Int), (ops.foldl stepL xs).length ≤ xs.length + ops.length := by
  induction ops with
  | nil => intro xs; simp
  | cons o ops ih =>
    intro xs
    have h1 := ih (stepL xs o)
    have h2 := stepL_len xs o
    rw [List.foldl_cons, List.length_cons]
    omega
theorem playL_sd (ops : List Op3) : Sd ltI (playL ops) := play_sd ops List.Pairwise.nil
theorem playL_len (ops : List Op3) : (playL ops).length ≤ ops.length := by
  have h := play_len ops []
  simpa [playL] using h
theorem playL_take (ops : List Op3) (d : Op3) {k : Nat} (hk : k < ops.length) : playL (ops.take (k + 1)) = stepL (playL (ops.take k)) (ops.getD k d) := by
  unfold playL
  rw [List.take_succ_eq_append_getElem hk, List.foldl_append]
  simp [List.getD, hk]
/-- the document's answer to a key is the table's -/
theorem gv_getV (xs : List (Int × Int)) (k : Int) : (gv xs k).1 = getV xs k ∧ (gv xs k).2 = (getL ltI xs k).isSome := by
  unfold gv getV
  cases getL ltI xs k <;> exact ⟨rfl, rfl⟩

end Go.Proofs.Ytgoomogpcfpekaa.TabR
