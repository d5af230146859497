/- table laws: what stays when a table is written; small laws of lists. -/
import Derived.Test.YtgoomogpcfpekaaTabPw
set_option linter.unusedSimpArgs false
set_option linter.unusedVariables false
namespace Go.Proofs.Ytgoomogpcfpekaa.TabR
open Go.RowKit Go.Proofs.Ytgoomogpcfpekaa.TabL Go.Proofs.YtgoomogpcfpekaaW.PrintWords Go.Proofs.Ytgoomogpcfpekaa.PTablePlays
open Go.Proofs.Ytgoomogpcfpekaa.TabN (ltI belowL getV putL_len lin TMx cP d0 ek ev Gives2 putsL)

theorem blk_cell_ptr {W : World} {q : Nat} {t : TypeId} {r : Option Addr} (h : Blk W q t [.pointer r]) {a : Addr} {v : Value} (hq : a.block = q) (hc : W.cell? a = some v) : v = .pointer r := by
  obtain ⟨e, _⟩ := cell_spot hc
  rw [e, hq, cell_of_row W q _ _ t (0, 0) h] at hc
  cases ho : a.off with
  | zero => rw [ho] at hc; simpa using hc.symm
  | succ n => rw [ho] at hc; simp at hc
/-- behind a table's change -/
theorem PS.table {W W' : World} {v : Value} {l : List (Int × Int)} {q : Nat} {zs : List (Int × Int)} (h : PS W v l) (hT : TMx W q zs) (hg : W.grownBy W' (some q)) : PS W' v l := by
  obtain ⟨r, T, hb, _, _⟩ := hT
  obtain ⟨A, c, rfl, h1, h2⟩ := h
  refine ⟨A, c, rfl, h1, h2.1, h2.2.1, fun hpos => ?_⟩
  obtain ⟨a, rfl, hr⟩ := h2.2.2 hpos
  refine ⟨a, rfl, fun j x hx => ?_⟩
  obtain ⟨cs, hl, hk, hc⟩ := hr j x hx
  obtain rfl := k41_open hk
  refine ⟨_, rfl, k41_mk W' x, fun i u hu => ?_⟩
  have h3 := hc i u hu
  have hne : (a.add (j * k41.sz + i)).block ≠ q := fun e => by
    have := blk_cell_ptr hb e h3
    subst this
    rcases i with _ | _ | i <;> simp at hu
  rw [← h3]
  exact World.cell?_of_block (hg.block _ (World.block_lt_of_cell? _ _ h3) (by simpa using hne))
theorem tm_table {W W' : World} {p q : Nat} {xs zs : List (Int × Int)} (h : TMx W p xs) (hT : TMx W q zs) (hg : W.grownBy W' (some q)) (hne : p ≠ q) : TMx W' p xs := by
  obtain ⟨r, T, hb, _, _⟩ := hT
  exact h.other hg hb hne (by decide)

theorem putsL_rev : ∀ {xs : List (Int × Int)}, Sd ltI xs → putsL [] xs.reverse = xs
  | [], _ => rfl
  | x :: r, h => by
    have hp := List.pairwise_cons.1 h
    have hx : putsL [] (r.reverse ++ [x]) = putL ltI (putsL [] r.reverse) x.1 x.2 := by unfold putsL; rw [List.foldl_append]; rfl
    rw [List.reverse_cons, hx, putsL_rev (xs := r) hp.2]
    cases r with
    | nil => rfl
    | cons y r => rw [putL, if_pos (hp.1 y List.mem_cons_self)]
theorem dropL_head {x : Int × Int} {r : List (Int × Int)} (h : Sd ltI (x :: r)) : dropL ltI (x :: r) x.1 = r := by
  have hp := List.pairwise_cons.1 h
  have h1 := dropL_append (lt := ltI) [x] r x.1
  rw [List.singleton_append] at h1
  rw [h1, dropL_all (l := r) (fun q hq => .inr (hp.1 q hq))]
  unfold dropL
  rw [List.filter_cons, if_neg (by simp [lin.irr])]
  rfl
theorem dropL_le (xs : List (Int × Int)) (k : Int) : (dropL ltI xs k).length ≤ xs.length := List.length_filter_le _ _
/-- all pairs, where enough is asked for -/
theorem pairs_full (W : World) (p : Nat) (xs : List (Int × Int)) (m : Int) (hm : (xs.length : Int) < m) (hz : xs.length < 1099511627776) (h : TMx W p xs) :
    Calls Try.prog 13 #[.func (.func 45) #[] #[.pointer (some ⟨W.heap.size, 0, none⟩)], .int .i64 m] (W.alloc (.cells #[.pointer (some ⟨p, 0, none⟩)] 24)) fun e w' => ∃ v, e = .returned v ∧ PS w' v xs ∧ (∀ k, v.ownBlock = some k → W.heap.size ≤ k) ∧ Below W.heap.size W w' := by
  have h1 := pairs_all W p xs m (by omega) hz h
  rwa [List.take_of_length_le (by omega)] at h1
theorem of_back (W : World) (p : Nat) (xs : List (Int × Int)) (h : TMx W p xs) (hs : Sd ltI xs) (hz : xs.length < 1099511627776) :
    Calls Try.prog 24 #[.func (.func 47) #[] #[.pointer (some ⟨W.heap.size, 0, none⟩)]] (W.alloc (.cells #[.pointer (some ⟨p, 0, none⟩)] 24)) fun e w' => e = .returned (.pointer (some ⟨W.heap.size + 1, 0, none⟩)) ∧ TMx w' (W.heap.size + 1) xs ∧ Below W.heap.size W w' := by
  obtain ⟨St, N, hG, h2⟩ := TabN.tm_back W p xs h
  have h3 := TabN.of_any (W.alloc (.cells #[.pointer (some ⟨p, 0, none⟩)] 24)) _ _ St N xs.reverse hG (by rw [List.length_reverse]; exact hz) (fun W' hb => (h2 W' (by simpa using hb)).1) (fun W' hb => (h2 W' (by simpa using hb)).2)
  rw [putsL_rev hs, World.size_alloc] at h3
  exact h3.mono fun e w' ⟨a, b, c⟩ => ⟨a, b, ((Below.refl _ W).alloc (Nat.le_refl _) _).trans (c.mono (by omega))⟩
theorem same_refl (W : World) (v u : Value) (l : List (Int × Int)) (hl : l.length ≤ 1099511627776) (h : PS W v l) (h' : PS W u l) : Calls Try.prog 12 #[v, u] W fun e w' => e = .returned (.bool true) ∧ Below W.heap.size W w' :=
  (ref_same W v u l l hl h h').mono fun e w' ⟨a, b⟩ => ⟨by rw [a, decide_eq_true rfl], b⟩
theorem PS.at {W : World} {v : Value} {l : List (Int × Int)} {j : Nat} {q : Int × Int} (h : PS W v l) (hj : l[j]? = some q) : ∃ b off c, v = .slice (some ⟨b, off, none⟩) l.length c ∧ W.cell? ⟨b, off + j * 2, none⟩ = some (.int .i64 q.1) ∧ W.cell? ⟨b, off + j * 2 + 1, none⟩ = some (.int .i64 q.2) := by
  obtain ⟨A, c, rfl, h1, h2⟩ := h
  have hlt := (List.getElem?_eq_some_iff.1 hj).1
  obtain ⟨a, rfl, hr⟩ := h2.2.2 (by omega)
  have hjq : (l.map toS)[j]? = some (toS q) := by rw [List.getElem?_map, hj]; rfl
  have hz : (l.map toS)[0]? = some (toS (l[0]'(by omega))) := by rw [List.getElem?_map, List.getElem?_eq_getElem (by omega)]; rfl
  obtain ⟨cs0, _, hk0, hc0⟩ := hr 0 _ hz
  obtain rfl := k41_open hk0
  have hsp := cell_spot (by simpa [Addr.add] using hc0 0 _ rfl)
  obtain ⟨b, off, s⟩ := a
  obtain rfl : s = none := by injection hsp.1
  obtain ⟨cs, _, hk, hc⟩ := hr j _ hjq
  obtain rfl := k41_open hk
  have h3 := hc 0 _ rfl
  have h4 := hc 1 _ rfl
  rw [addr_add] at h3 h4
  exact ⟨b, off, c, rfl, h3, h4⟩
theorem rd_slice {W : World} {n₀ : Nat} {sv : Value} {ops : List Op3} (hR : Rd cO 3 n₀ W sv ops) : ∃ A c, sv = .slice A ops.length c := by
  rcases hR with ⟨a, cap, rfl, rfl⟩ | ⟨b, off, cap, rfl, _, _⟩
  · exact ⟨a, cap, rfl⟩
  · exact ⟨_, _, rfl⟩
theorem rd_at {W : World} {n₀ : Nat} {sv : Value} {ops : List Op3} {j : Nat} {o : Op3} (hR : Rd cO 3 n₀ W sv ops) (hj : ops[j]? = some o) : ∃ b off c, sv = .slice (some ⟨b, off, none⟩) ops.length c ∧ b < n₀ ∧ W.cell? ⟨b, off + j * 3, none⟩ = some (.int .i64 o.1) ∧ W.cell? ⟨b, off + j * 3 + 1, none⟩ = some (.int .i64 o.2.1) ∧ W.cell? ⟨b, off + j * 3 + 2, none⟩ = some (.int .i64 o.2.2) := by
  rcases hR with ⟨a, cap, rfl, rfl⟩ | ⟨b, off, cap, rfl, hlt, hc⟩
  · simp at hj
  · exact ⟨b, off, cap, rfl, hlt, hc j _ hj 0 _ rfl, hc j _ hj 1 _ rfl, hc j _ hj 2 _ rfl⟩

end Go.Proofs.Ytgoomogpcfpekaa.TabR
