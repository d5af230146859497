/- texts by number of their last place: what a table holds behind all puts. -/
import Derived.Test.YtgoomogpcfpekaaTabT8
set_option linter.unusedSimpArgs false
set_option linter.unusedVariables false
namespace Go.Proofs.Ytgoomogpcfpekaa.TabT
open Go.RowKit Go.Proofs.Ytgoomogpcfpekaa.TabL

section
variable {K V : Type} {lt : K → K → Bool}
theorem putL_self (ho : Lin lt) (l : List (K × V)) (k : K) (v : V) : (k, v) ∈ putL lt l k v := by
  induction l with
  | nil => simp [putL]
  | cons p r ih =>
    unfold putL
    split
    · exact List.mem_cons_self
    · split
      · exact List.mem_cons_of_mem _ ih
      · exact List.mem_cons_self
theorem putL_keys (ho : Lin lt) (l : List (K × V)) (k : K) (v : V) {q : K × V} (hq : q ∈ l) : ∃ r ∈ putL lt l k v, r.1 = q.1 := by
  induction l with
  | nil => cases hq
  | cons p r ih =>
    unfold putL
    split
    · exact ⟨q, List.mem_cons_of_mem _ hq, rfl⟩
    · split
      · rcases List.mem_cons.1 hq with rfl | hq
        · exact ⟨q, List.mem_cons_self, rfl⟩
        · obtain ⟨s, hs, he⟩ := ih hq
          exact ⟨s, List.mem_cons_of_mem _ hs, he⟩
      · rename_i h1 h2
        rcases List.mem_cons.1 hq with rfl | hq
        · exact ⟨(k, v), List.mem_cons_self, ho.tot (by simpa using h1) (by simpa using h2)⟩
        · exact ⟨q, List.mem_cons_of_mem _ hq, rfl⟩
theorem sd_key (ho : Lin lt) : ∀ {l : List (K × V)}, Sd lt l → ∀ {q r : K × V}, q ∈ l → r ∈ l → q.1 = r.1 → q = r
  | p :: l, h, q, r, hq, hr, he => by
    have hp := List.pairwise_cons.1 h
    rcases List.mem_cons.1 hq with hq' | hq' <;> rcases List.mem_cons.1 hr with hr' | hr'
    · rw [hq', hr']
    · have := hp.1 r hr'
      rw [← hq', he, ho.irr] at this
      cases this
    · have := hp.1 q hq'
      rw [← hr', he, ho.irr] at this
      cases this
    · exact sd_key ho hp.2 hq' hr' he
theorem getL_of_mem (ho : Lin lt) : ∀ {l : List (K × V)}, Sd lt l → ∀ {q : K × V}, q ∈ l → getL lt l q.1 = some q.2
  | p :: l, h, q, hq => by
    have hp := List.pairwise_cons.1 h
    unfold getL
    rcases List.mem_cons.1 hq with rfl | hq'
    · rw [ho.irr]; rfl
    · rw [hp.1 q hq', Bool.true_or, if_pos rfl]
      exact getL_of_mem ho hp.2 hq'
end

/-- all texts put, each with the number of its place -/
def textsL (ks : List ByteArray) : List (ByteArray × Int) := (List.range ks.length).foldl (fun l i => putL ltS l (ks.getD i ByteArray.empty) (i : Int)) []
def textsN (ks : List ByteArray) (n : Nat) : List (ByteArray × Int) := (List.range n).foldl (fun l i => putL ltS l (ks.getD i ByteArray.empty) (i : Int)) []
theorem textsN_succ (ks : List ByteArray) (n : Nat) : textsN ks (n + 1) = putL ltS (textsN ks n) (ks.getD n ByteArray.empty) (n : Int) := by
  unfold textsN
  rw [List.range_succ, List.foldl_append]
  rfl
theorem textsN_sd (ks : List ByteArray) : ∀ n, Sd ltS (textsN ks n)
  | 0 => List.Pairwise.nil
  | n + 1 => by rw [textsN_succ]; exact putL_sd lin (textsN_sd ks n) _ _
theorem textsN_len (ks : List ByteArray) : ∀ n, (textsN ks n).length ≤ n
  | 0 => Nat.le_refl _
  | n + 1 => by
    rw [textsN_succ]
    have h1 := putL_len (textsN ks n) (ks.getD n ByteArray.empty) (n : Int)
    have h2 := textsN_len ks n
    omega
/-- what stands in the table: a place, the text that stands there, and no later place has it -/
theorem textsN_mem (ks : List ByteArray) : ∀ n, ∀ q ∈ textsN ks n, ∃ i : Nat, q.2 = (i : Int) ∧ i < n ∧ q.1 = ks.getD i ByteArray.empty ∧ ∀ j, i < j → j < n → ks.getD j ByteArray.empty ≠ q.1
  | 0, q, hq => by cases hq
  | n + 1, q, hq => by
    have hs := textsN_sd ks (n + 1)
    rw [textsN_succ] at hq hs
    by_cases hk : q.1 = ks.getD n ByteArray.empty
    · have := sd_key lin hs hq (putL_self lin _ _ _) hk
      subst this
      exact ⟨n, rfl, Nat.lt_succ_self _, rfl, fun j h1 h2 => by omega⟩
    · rcases putL_mem hq with h | h
      · subst h; exact absurd rfl hk
      · obtain ⟨i, h1, h2, h3, h4⟩ := textsN_mem ks n q h
        refine ⟨i, h1, by omega, h3, fun j hj1 hj2 => ?_⟩
        by_cases hjn : j = n
        · subst hjn; exact fun e => hk e.symm
        · exact h4 j hj1 (by omega)
/-- every text is there -/
theorem textsN_has (ks : List ByteArray) : ∀ n i, i < n → ∃ q ∈ textsN ks n, q.1 = ks.getD i ByteArray.empty
  | 0, _, h => by omega
  | n + 1, i, h => by
    rw [textsN_succ]
    by_cases hi : i = n
    · subst hi; exact ⟨_, putL_self lin _ _ _, rfl⟩
    · obtain ⟨q, hq, he⟩ := textsN_has ks n i (by omega)
      obtain ⟨r, hr, he2⟩ := putL_keys lin _ (ks.getD n ByteArray.empty) (n : Int) hq
      exact ⟨r, hr, he2.trans he⟩
theorem textsN_get (ks : List ByteArray) (n i : Nat) (h : i < n) : (getL ltS (textsN ks n) (ks.getD i ByteArray.empty)).isSome = true := by
  obtain ⟨q, hq, he⟩ := textsN_has ks n i h
  rw [← he, getL_of_mem lin (textsN_sd ks n) hq]
  rfl

end Go.Proofs.Ytgoomogpcfpekaa.TabT
