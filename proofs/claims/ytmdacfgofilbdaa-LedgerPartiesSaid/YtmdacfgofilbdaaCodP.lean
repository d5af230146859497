/- layer 5, plain: what is written is read as it, and back; a proper beginning is short. -/
import Derived.Test.YtmdacfgofilbdaaCodL
set_option linter.unusedVariables false
namespace Go.Proofs.Ytmdacfgofilbdaa.CodL

theorem pow_step (i : Nat) (h : i ≤ 8) : 2 ^ (64 - 7 * i) = 128 * 2 ^ (64 - 7 * (i + 1)) := by
  rw [show 64 - 7 * i = 7 + (64 - 7 * (i + 1)) from by omega, Nat.pow_add]
theorem len_uv (rest : List Int) : ∀ (n i : Nat), i ≤ 9 → n < 2 ^ (64 - 7 * i) → (i = 0 ∨ 0 < n) → lenAux i (uv n ++ rest) = (i + (uv n).length, 0) := by
  intro n
  induction n using Nat.strongRecOn with
  | _ n ih =>
    intro i hi hn hp
    by_cases h : n < 128
    · rw [uv_small h, List.singleton_append, lenAux]
      have h9 : i = 9 → n < 2 := fun e => by subst e; simpa using hn
      rw [if_neg (by omega), if_neg (by omega), if_neg (by omega)]
      rfl
    · rw [uv_great h, List.cons_append, lenAux]
      have h9 : i ≠ 9 := fun e => by subst e; have h2 : n < 2 := (by simpa using hn); omega
      have hs := pow_step i (by omega)
      rw [if_neg (by omega), if_pos (by omega), ih (n / 128) (by omega) (i + 1) (by omega) (by rw [hs] at hn; omega) (by omega), List.length_cons]
      congr 1
      omega
theorem val_uv (n : Nat) : val (uv n) = n := by
  induction n using Nat.strongRecOn with
  | _ n ih =>
    by_cases h : n < 128
    · rw [uv_small h]; simp [val]; omega
    · rw [uv_great h, val, ih (n / 128) (by omega), Int.toNat_natCast]; omega
theorem takeU_uv {n : Nat} (hn : n < 18446744073709551616) (rest : List Int) : takeU (uv n ++ rest, 0) = ((rest, 0), n) := by
  have h := len_uv rest n 0 (by omega) (by simpa using hn) (.inl rfl)
  unfold takeU
  dsimp only
  rw [if_pos rfl, h]
  dsimp only
  rw [if_pos rfl, Nat.zero_add, List.drop_left, List.take_left, val_uv]
theorem takeI_uv {m : Int} (hm : -9223372036854775808 ≤ m ∧ m ≤ 9223372036854775807) (rest : List Int) : takeI (uv (zz m) ++ rest, 0) = ((rest, 0), m) := by
  unfold takeI
  rw [takeU_uv (zz_lt hm), zb_zz]
theorem takeB_uv {bs rest : List Int} {most : Int} (hl : bs.length < 18446744073709551616) (hm : (bs.length : Int) ≤ most) : takeB (uv bs.length ++ (bs ++ rest), 0) most = ((rest, 0), bs) := by
  unfold takeB
  rw [takeU_uv hl]
  dsimp only
  rw [if_pos rfl, if_neg (by omega), if_neg (by simp), List.drop_left, List.take_left]
theorem takeL_uv (ns : List Int) (hg : ∀ n ∈ ns, -9223372036854775808 ≤ n ∧ n ≤ 9223372036854775807) (rest : List Int) : ∀ out : List Int, takeL takeI ns.length (ns.flatMap (fun x => uv (zz x)) ++ rest, 0) out = ((rest, 0), out ++ ns) := by
  induction ns with
  | nil => intro out; simp [takeL]
  | cons n ns ih =>
    intro out
    rw [List.length_cons, takeL, List.flatMap_cons, List.append_assoc]
    rw [takeI_uv (hg n List.mem_cons_self)]
    dsimp only
    rw [if_pos rfl, ih (fun x hx => hg x (List.mem_cons_of_mem _ hx))]
    simp
theorem takeN_uv {ns rest : List Int} (hg : ∀ n ∈ ns, -9223372036854775808 ≤ n ∧ n ≤ 9223372036854775807) {most : Int} (hl : ns.length < 18446744073709551616) (hm : (ns.length : Int) ≤ most) : takeN takeI (uv ns.length ++ (ns.flatMap (fun x => uv (zz x)) ++ rest), 0) most = ((rest, 0), ns) := by
  unfold takeN
  rw [takeU_uv hl]
  dsimp only
  rw [if_pos rfl, if_neg (by omega), takeL_uv ns hg rest []]
  dsimp only
  rw [if_pos rfl]
  rfl

/-! and back -/
theorem len_back (cs : List Int) : ∀ i, (∀ x ∈ cs, 0 ≤ x ∧ x < 256) → (lenAux i cs).2 = 0 → i < (lenAux i cs).1 ∧ cs.take ((lenAux i cs).1 - i) = uv (val (cs.take ((lenAux i cs).1 - i))) ∧ (0 < i → 0 < val (cs.take ((lenAux i cs).1 - i))) := by
  induction cs with
  | nil => intro i _ h; simp [lenAux] at h
  | cons c cs ih =>
    intro i hb h
    have hc := hb c List.mem_cons_self
    unfold lenAux at h ⊢
    by_cases h1 : i = 10 ∨ (i = 9 ∧ 1 < c)
    · rw [if_pos h1] at h; simp at h
    · rw [if_neg h1] at h ⊢
      by_cases h2 : 128 ≤ c
      · rw [if_pos h2] at h ⊢
        obtain ⟨k1, k2, k3⟩ := ih (i + 1) (fun x hx => hb x (List.mem_cons_of_mem _ hx)) h
        have e : (lenAux (i + 1) cs).1 - i = ((lenAux (i + 1) cs).1 - (i + 1)) + 1 := by omega
        rw [e, List.take_succ_cons, val]
        have k3' := k3 (by omega)
        generalize val (cs.take ((lenAux (i + 1) cs).1 - (i + 1))) = v at *
        refine ⟨by omega, ?_, fun _ => by omega⟩
        rw [uv_great (by omega), k2]
        congr 1
        · omega
        · congr 1; omega
      · rw [if_neg h2] at h ⊢
        by_cases h3 : c = 0 ∧ 0 < i
        · rw [if_pos h3] at h; simp at h
        · rw [if_neg h3] at h ⊢
          dsimp only
          rw [show i + 1 - i = 1 from by omega, List.take_succ_cons, List.take_zero, val, val]
          refine ⟨by omega, ?_, fun hi => by omega⟩
          rw [uv_small (by omega)]
          congr 1
          omega
theorem takeU_back {s : St} (hb : ∀ x ∈ s.1, 0 ≤ x ∧ x < 256) (h0 : (takeU s).1.2 = 0) : s.2 = 0 ∧ s.1 = uv (takeU s).2 ++ (takeU s).1.1 := by
  unfold takeU at h0 ⊢
  by_cases h1 : s.2 = 0
  · rw [if_pos h1] at h0 ⊢
    by_cases h2 : (lenAux 0 s.1).2 = 0
    · rw [if_pos h2] at h0 ⊢
      obtain ⟨_, k2, _⟩ := len_back s.1 0 hb h2
      rw [Nat.sub_zero] at k2
      refine ⟨h1, ?_⟩
      dsimp only
      rw [← k2, List.take_append_drop]
    · rw [if_neg h2] at h0
      exact absurd h0 (by simp [failS, h1]; exact h2)
  · rw [if_neg h1] at h0
    exact absurd h0 h1
theorem takeL_back (n : Nat) : ∀ (s : St) (out : List Int), (∀ x ∈ s.1, 0 ≤ x ∧ x < 256) → s.2 = 0 → (takeL takeI n s out).1.2 = 0 → ∃ xs : List Int, xs.length = n ∧ (takeL takeI n s out).2 = out ++ xs ∧ s.1 = xs.flatMap (fun x => uv (zz x)) ++ (takeL takeI n s out).1.1 ∧ ∀ x ∈ xs, -9223372036854775808 ≤ x ∧ x ≤ 9223372036854775807 := by
  induction n with
  | zero => intro s out hb h0 h; exact ⟨[], rfl, by simp [takeL], by simp [takeL], by simp⟩
  | succ n ih =>
    intro s out hb h0 h
    rw [takeL, if_pos h0] at h ⊢
    have hb' : ∀ x ∈ (takeI s).1.1, 0 ≤ x ∧ x < 256 := takeU_mem hb
    have he : (takeI s).1.2 = 0 := by
      cases n with
      | zero => simpa [takeL] using h
      | succ n =>
        rw [takeL] at h
        by_cases hc : (takeI s).1.2 = 0
        · exact hc
        · rw [if_neg hc] at h; exact absurd h hc
    obtain ⟨_, hs⟩ := takeU_back hb he
    obtain ⟨xs, k1, k2, k3, k4⟩ := ih (takeI s).1 (out ++ [(takeI s).2]) hb' he h
    refine ⟨(takeI s).2 :: xs, by simp [k1], by rw [k2]; simp, ?_, ?_⟩
    · rw [List.flatMap_cons, List.append_assoc, ← k3]
      show s.1 = uv (zz (zb (takeU s).2)) ++ (takeU s).1.1
      rw [zz_zb]
      exact hs
    · intro x hx
      rcases List.mem_cons.1 hx with rfl | hx
      · exact zb_rng (takeU_lt hb)
      · exact k4 x hx
theorem allN_back {bs : List Int} {most : Int} (hb : ∀ x ∈ bs, 0 ≤ x ∧ x < 256) (h : (allN takeI bs most).2 = 0) : bs = uv (allN takeI bs most).1.length ++ (allN takeI bs most).1.flatMap (fun x => uv (zz x)) ∧ ∀ x ∈ (allN takeI bs most).1, -9223372036854775808 ≤ x ∧ x ≤ 9223372036854775807 := by
  unfold allN at h ⊢
  dsimp only at h ⊢
  by_cases h1 : (takeN takeI (bs, 0) most).1.2 = 0
  · rw [if_pos h1] at h ⊢
    by_cases h2 : 0 < (takeN takeI (bs, 0) most).1.1.length
    · rw [if_pos h2] at h; simp at h
    · rw [if_neg h2] at h ⊢
      have hnil : (takeN takeI (bs, 0) most).1.1 = [] := List.eq_nil_of_length_eq_zero (by omega)
      clear h2 h
      unfold takeN at h1 hnil ⊢
      dsimp only at h1 hnil ⊢
      by_cases h3 : (takeU (bs, 0)).1.2 = 0
      · rw [if_pos h3] at h1 hnil ⊢
        by_cases h4 : max most 0 < ((takeU (bs, 0)).2 : Int)
        · rw [if_pos h4] at h1; simp [failS, h3] at h1
        · rw [if_neg h4] at h1 hnil ⊢
          obtain ⟨_, hs⟩ := takeU_back (s := (bs, 0)) hb h3
          by_cases h5 : (takeL takeI (takeU (bs, 0)).2 (takeU (bs, 0)).1 []).1.2 = 0
          · rw [if_pos h5] at h1 hnil ⊢
            obtain ⟨xs, k1, k2, k3, k4⟩ := takeL_back _ _ [] (takeU_mem hb) h3 h5
            rw [hnil, List.append_nil] at k3
            rw [List.nil_append] at k2
            rw [k2, k1, ← k3]
            exact ⟨hs, k4⟩
          · rw [if_neg h5] at h1; exact absurd h1 h5
      · rw [if_neg h3] at h1; exact absurd h1 h3
  · rw [if_neg h1] at h
    exact absurd h h1
theorem allN_err {bs : List Int} {most : Int} (h : (allN takeI bs most).2 ≠ 0) : (allN takeI bs most).1 = [] := by
  unfold allN at h ⊢
  dsimp only at h ⊢
  split at h
  · split at h
    · rename_i h1 h2; rw [if_pos h1, if_pos h2]
    · simp at h
  · rename_i h1; rw [if_neg h1]

/-! a proper beginning -/
theorem len_short : ∀ (n i j : Nat), i ≤ 9 → n < 2 ^ (64 - 7 * i) → j < (uv n).length → lenAux i ((uv n).take j) = (0, 21) := by
  intro n
  induction n using Nat.strongRecOn with
  | _ n ih =>
    intro i j hi hn hj
    by_cases h : n < 128
    · rw [uv_small h] at hj ⊢
      have : j = 0 := by simpa using hj
      subst this
      rfl
    · rw [uv_great h] at hj ⊢
      cases j with
      | zero => rfl
      | succ j =>
        rw [List.take_succ_cons, lenAux]
        have h9 : i ≠ 9 := fun e => by subst e; have h2 : n < 2 := (by simpa using hn); omega
        have hs := pow_step i (by omega)
        rw [if_neg (by omega), if_pos (by omega)]
        exact ih (n / 128) (by omega) (i + 1) j (by omega) (by rw [hs] at hn; omega) (by simpa using hj)
theorem takeU_short {n j : Nat} (hn : n < 18446744073709551616) (hj : j < (uv n).length) : takeU ((uv n).take j, 0) = (([], 21), 0) := by
  unfold takeU
  dsimp only
  rw [if_pos rfl, len_short n 0 j (by omega) (by simpa using hn) hj]
  simp [failS]
theorem takeL_stop {α : Type} (one : St → St × α) (n : Nat) {s : St} (hs : s.2 ≠ 0) (out : List α) : (takeL one n s out).1 = s := by
  cases n with
  | zero => rfl
  | succ n => rw [takeL, if_neg hs]
theorem takeL_short (ns : List Int) (hg : ∀ n ∈ ns, -9223372036854775808 ≤ n ∧ n ≤ 9223372036854775807) : ∀ (m : Nat) (out : List Int), m < (ns.flatMap (fun x => uv (zz x))).length → (takeL takeI ns.length ((ns.flatMap (fun x => uv (zz x))).take m, 0) out).1 = ([], 21) := by
  induction ns with
  | nil => intro m out h; simp at h
  | cons n ns ih =>
    intro m out h
    have hn := hg n List.mem_cons_self
    rw [List.flatMap_cons] at h ⊢
    rw [List.length_cons, takeL, if_pos rfl]
    by_cases hm : m < (uv (zz n)).length
    · have e : (uv (zz n) ++ ns.flatMap (fun x => uv (zz x))).take m = (uv (zz n)).take m := List.take_append_of_le_length (by omega)
      have e2 : takeI ((uv (zz n)).take m, 0) = (([], 21), zb 0) := by unfold takeI; rw [takeU_short (zz_lt hn) hm]
      rw [e, e2]
      exact takeL_stop _ _ (by simp) _
    · have e : (uv (zz n) ++ ns.flatMap (fun x => uv (zz x))).take m = uv (zz n) ++ (ns.flatMap (fun x => uv (zz x))).take (m - (uv (zz n)).length) := by
        rw [List.take_append, List.take_of_length_le (by omega)]
      rw [e, takeI_uv hn]
      exact ih (fun x hx => hg x (List.mem_cons_of_mem _ hx)) _ _ (by rw [List.length_append] at h; omega)
theorem takeU_stop {s : St} (h : s.2 ≠ 0) : takeU s = (s, 0) := by unfold takeU; rw [if_neg h]
theorem takeN_stop {α : Type} (one : St → St × α) {s : St} (most : Int) (h : s.2 ≠ 0) : (takeN one s most).1 = s := by
  unfold takeN
  rw [takeU_stop h]
  dsimp only
  rw [if_neg h]
theorem takeN_short {ns : List Int} (hg : ∀ n ∈ ns, -9223372036854775808 ≤ n ∧ n ≤ 9223372036854775807) {most : Int} (hl : ns.length < 18446744073709551616) (hm : (ns.length : Int) ≤ most) {m : Nat} (h : m < (uv ns.length ++ ns.flatMap (fun x => uv (zz x))).length) : (takeN takeI ((uv ns.length ++ ns.flatMap (fun x => uv (zz x))).take m, 0) most).1 = ([], 21) := by
  by_cases h1 : m < (uv ns.length).length
  · have e : (uv ns.length ++ ns.flatMap (fun x => uv (zz x))).take m = (uv ns.length).take m := List.take_append_of_le_length (by omega)
    unfold takeN
    rw [e, takeU_short hl h1]
    rfl
  · have e : (uv ns.length ++ ns.flatMap (fun x => uv (zz x))).take m = uv ns.length ++ (ns.flatMap (fun x => uv (zz x))).take (m - (uv ns.length).length) := by
      rw [List.take_append, List.take_of_length_le (by omega)]
    unfold takeN
    rw [e, takeU_uv hl]
    dsimp only
    have k := takeL_short ns hg (m - (uv ns.length).length) [] (by rw [List.length_append] at h; omega)
    rw [if_pos rfl, if_neg (by omega), if_neg (by rw [k]; simp)]
    exact k
/-- what stands behind two reads of a proper beginning -/
theorem ends_short {bs ns : List Int} (hg : ∀ n ∈ ns, -9223372036854775808 ≤ n ∧ n ≤ 9223372036854775807) (hb : bs.length ≤ 200) (hn : ns.length ≤ 50) {m : Nat} (h : m < (uv bs.length ++ (bs ++ (uv ns.length ++ ns.flatMap (fun x => uv (zz x))))).length) :
    (takeN takeI (takeB ((uv bs.length ++ (bs ++ (uv ns.length ++ ns.flatMap (fun x => uv (zz x))))).take m, 0) 200).1 50).1 = ([], 21) := by
  generalize hrest : uv ns.length ++ ns.flatMap (fun x => uv (zz x)) = rest at *
  by_cases h1 : m < (uv bs.length).length
  · have e : (uv bs.length ++ (bs ++ rest)).take m = (uv bs.length).take m := List.take_append_of_le_length (by omega)
    have e2 : (takeB ((uv bs.length).take m, 0) 200).1 = ([], 21) := by unfold takeB; rw [takeU_short (by omega) h1]; rfl
    rw [e, e2]
    exact takeN_stop _ _ (by simp)
  · have e : (uv bs.length ++ (bs ++ rest)).take m = uv bs.length ++ (bs ++ rest).take (m - (uv bs.length).length) := by
      rw [List.take_append, List.take_of_length_le (by omega)]
    rw [e]
    rw [List.length_append] at h
    have hq : m - (uv bs.length).length < (bs ++ rest).length := by omega
    generalize m - (uv bs.length).length = q at *
    by_cases h2 : q < bs.length
    · have e2 : (takeB (uv bs.length ++ (bs ++ rest).take q, 0) 200).1 = ([], 21) := by
        unfold takeB
        rw [takeU_uv (by omega)]
        dsimp only
        rw [if_pos rfl, if_neg (by omega), if_pos (by rw [List.length_take]; omega)]
        rfl
      rw [e2]
      exact takeN_stop _ _ (by simp)
    · have e2 : (bs ++ rest).take q = bs ++ rest.take (q - bs.length) := by
        rw [List.take_append, List.take_of_length_le (by omega)]
      rw [e2, takeB_uv (by omega) (by omega), ← hrest]
      exact takeN_short hg (by omega) (by omega) (by rw [hrest]; rw [List.length_append] at hq; omega)

end Go.Proofs.Ytmdacfgofilbdaa.CodL
