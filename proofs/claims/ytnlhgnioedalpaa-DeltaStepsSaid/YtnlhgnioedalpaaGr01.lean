/- PriL, laid together. -/

/- price, in plain words: sets of items as numbers; entries, what is asked, what a put leaves. -/
set_option linter.unusedSimpArgs false
set_option linter.unusedVariables false
namespace Go.Proofs.Ytnlhgnioedalpaa.Pri

/-- a number of 64 bits -/
def U (s : Int) : Prop := 0 ≤ s ∧ s < 18446744073709551616
/-- all items of a are in b -/
def wi (a b : Int) : Bool := (List.range 64).all (fun i => !(a.toNat.testBit i) || b.toNat.testBit i)
/-- how many items -/
def cnt (a : Int) : Nat := (List.range 64).countP (fun i => a.toNat.testBit i)
theorem wi_iff {a b : Int} : wi a b = true ↔ ∀ i, i < 64 → a.toNat.testBit i = true → b.toNat.testBit i = true := by
  unfold wi
  rw [List.all_eq_true]
  constructor
  · intro h i hi ha
    have := h i (List.mem_range.2 hi)
    rw [ha] at this
    simpa using this
  · intro h i hi
    have := h i (List.mem_range.1 hi)
    cases ha : a.toNat.testBit i with
    | false => rfl
    | true => simpa using this ha
theorem wi_refl (a : Int) : wi a a = true := wi_iff.2 (fun _ _ h => h)
theorem wi_trans {a b c : Int} (h : wi a b = true) (k : wi b c = true) : wi a c = true := wi_iff.2 (fun i hi ha => wi_iff.1 k i hi (wi_iff.1 h i hi ha))
theorem bit_ge {a : Int} (h : U a) {i : Nat} (hi : 64 ≤ i) : a.toNat.testBit i = false := by
  refine Nat.testBit_lt_two_pow ?_
  have h1 : a.toNat < 2 ^ 64 := by have := h.2; have := h.1; omega
  exact Nat.lt_of_lt_of_le h1 (Nat.pow_le_pow_right (by decide) hi)
theorem wi_antisym {a b : Int} (ha : U a) (hb : U b) (h : wi a b = true) (k : wi b a = true) : a = b := by
  have e : a.toNat = b.toNat := by
    refine Nat.eq_of_testBit_eq (fun i => ?_)
    by_cases hi : i < 64
    · have h1 := wi_iff.1 h i hi
      have h2 := wi_iff.1 k i hi
      cases h3 : a.toNat.testBit i with
      | true => exact (h1 h3).symm
      | false =>
        cases h4 : b.toNat.testBit i with
        | false => rfl
        | true => rw [h2 h4] at h3; cases h3
    · rw [bit_ge ha (by omega), bit_ge hb (by omega)]
  have := ha.1
  have := hb.1
  omega
/-- which set stands before the other one -/
def ltS (a b : Int) : Bool := decide (cnt a < cnt b) || (decide (cnt a = cnt b) && decide (a < b))
theorem ltS_iff {a b : Int} : ltS a b = true ↔ cnt a < cnt b ∨ cnt a = cnt b ∧ a < b := by unfold ltS; simp
theorem ltS_irr (a : Int) : ltS a a = false := by unfold ltS; simp
theorem ltS_trans {a b c : Int} (h : ltS a b = true) (k : ltS b c = true) : ltS a c = true := by rw [ltS_iff] at h k ⊢; omega
theorem ltS_asym {a b : Int} (h : ltS a b = true) : ltS b a = false := by
  cases k : ltS b a with
  | false => rfl
  | true => have := ltS_trans h k; rw [ltS_irr] at this; cases this
theorem ltS_tot {a b : Int} (h : ltS a b = false) (k : ltS b a = false) : a = b := by
  have h1 : ¬ ltS a b = true := by rw [h]; decide
  have h2 : ¬ ltS b a = true := by rw [k]; decide
  rw [ltS_iff] at h1 h2
  omega
abbrev En := Int × Int
def most : Int := 2199023255552
/-- what is asked for a set -/
def askL (es : List En) (s : Int) : Int := es.foldl (fun o e => if wi e.1 s = true then max o e.2 else o) 0
/-- the entries that a put takes out -/
def delL (es : List En) (s a : Int) : List En := es.filter (fun e => !(wi s e.1 && decide (e.2 ≤ a)))
def insL : List En → Int → Int → List En
  | [], s, a => [(s, a)]
  | e :: r, s, a => if ltS e.1 s = true then e :: insL r s a else (s, a) :: e :: r
/-- does a put turn anything? -/
def okP (es : List En) (s a : Int) : Bool := decide (s ≠ 0) && decide (a ≤ most) && decide (askL es s < a)
def putP (es : List En) (s a : Int) : List En := if okP es s a = true then insL (delL es s a) s a else es
def ofL (es : List En) : List En := es.foldl (fun o e => putP o e.1 e.2) []

theorem fold_ge (es : List En) (s : Int) : ∀ o x : Int, x ≤ es.foldl (fun o e => if wi e.1 s = true then max o e.2 else o) o ↔ x ≤ o ∨ ∃ e ∈ es, wi e.1 s = true ∧ x ≤ e.2 := by
  induction es with
  | nil => intro o x; simp
  | cons e r ih =>
    intro o x
    rw [List.foldl_cons, ih]
    by_cases h : wi e.1 s = true
    · rw [if_pos h]
      constructor
      · rintro (h1 | ⟨f, hf, h2⟩)
        · by_cases hx : x ≤ o
          · exact .inl hx
          · exact .inr ⟨e, List.mem_cons_self .., h, by omega⟩
        · exact .inr ⟨f, List.mem_cons_of_mem _ hf, h2⟩
      · rintro (h1 | ⟨f, hf, h2, h3⟩)
        · exact .inl (by omega)
        · rcases List.mem_cons.1 hf with rfl | hf
          · exact .inl (by omega)
          · exact .inr ⟨f, hf, h2, h3⟩
    · rw [if_neg h]
      constructor
      · rintro (h1 | ⟨f, hf, h2⟩)
        · exact .inl h1
        · exact .inr ⟨f, List.mem_cons_of_mem _ hf, h2⟩
      · rintro (h1 | ⟨f, hf, h2, h3⟩)
        · exact .inl h1
        · rcases List.mem_cons.1 hf with rfl | hf
          · exact absurd h2 h
          · exact .inr ⟨f, hf, h2, h3⟩
theorem ask_ge {es : List En} {s x : Int} : x ≤ askL es s ↔ x ≤ 0 ∨ ∃ e ∈ es, wi e.1 s = true ∧ x ≤ e.2 := fold_ge es s 0 x
theorem ask_nonneg (es : List En) (s : Int) : 0 ≤ askL es s := ask_ge.2 (.inl (Int.le_refl _))
theorem ask_mono (es : List En) {s t : Int} (h : wi s t = true) : askL es s ≤ askL es t := by
  rcases ask_ge.1 (Int.le_refl (askL es s)) with h1 | ⟨e, he, h2, h3⟩
  · exact Int.le_trans h1 (ask_nonneg es t)
  · exact ask_ge.2 (.inr ⟨e, he, wi_trans h2 h, h3⟩)
theorem ask_eq {es fs : List En} {s : Int} (h : ∀ x, x ≤ askL es s ↔ x ≤ askL fs s) : askL es s = askL fs s := Int.le_antisymm ((h _).1 (Int.le_refl _)) ((h _).2 (Int.le_refl _))
theorem le_ext {a b : Int} (h : ∀ x, x ≤ a ↔ x ≤ b) : a = b := Int.le_antisymm ((h _).1 (Int.le_refl _)) ((h _).2 (Int.le_refl _))
theorem ins_mem {es : List En} {s a : Int} {e : En} : e ∈ insL es s a ↔ e = (s, a) ∨ e ∈ es := by
  induction es with
  | nil => simp [insL]
  | cons f r ih =>
    unfold insL
    split
    · rw [List.mem_cons, ih, List.mem_cons]
      constructor
      · rintro (h | h | h)
        · exact .inr (.inl h)
        · exact .inl h
        · exact .inr (.inr h)
      · rintro (h | h | h)
        · exact .inr (.inl h)
        · exact .inl h
        · exact .inr (.inr h)
    · rw [List.mem_cons]
theorem del_mem {es : List En} {s a : Int} {e : En} : e ∈ delL es s a ↔ e ∈ es ∧ ¬ (wi s e.1 = true ∧ e.2 ≤ a) := by
  unfold delL
  rw [List.mem_filter]
  refine and_congr_right (fun _ => ?_)
  cases wi s e.1 <;> simp
theorem ok_iff {es : List En} {s a : Int} : okP es s a = true ↔ s ≠ 0 ∧ a ≤ most ∧ askL es s < a := by unfold okP; simp [and_assoc]
/-- what is asked behind a put -/
theorem ask_put (es : List En) (s a t : Int) : askL (putP es s a) t = if s ≠ 0 ∧ a ≤ most ∧ wi s t = true then max (askL es t) a else askL es t := by
  unfold putP
  by_cases hok : okP es s a = true
  · rw [if_pos hok]
    obtain ⟨h1, h2, h3⟩ := ok_iff.1 hok
    have h0 := ask_nonneg es s
    by_cases hw : wi s t = true
    · rw [if_pos ⟨h1, h2, hw⟩]
      refine le_ext (fun x => ?_)
      rw [ask_ge]
      constructor
      · rintro (h | ⟨e, he, k1, k2⟩)
        · have := ask_nonneg es t; omega
        · rcases ins_mem.1 he with rfl | he
          · dsimp only at k2; omega
          · have := ask_ge.2 (.inr ⟨e, (del_mem.1 he).1, k1, k2⟩); omega
      · intro h
        by_cases hx : x ≤ a
        · exact .inr ⟨(s, a), ins_mem.2 (.inl rfl), hw, hx⟩
        · have hx2 : x ≤ askL es t := by omega
          rcases ask_ge.1 hx2 with k | ⟨e, he, k1, k2⟩
          · exact .inl k
          · exact .inr ⟨e, ins_mem.2 (.inr (del_mem.2 ⟨he, fun hh => by omega⟩)), k1, k2⟩
    · rw [if_neg (fun h => hw h.2.2)]
      refine le_ext (fun x => ?_)
      rw [ask_ge, ask_ge]
      constructor
      · rintro (h | ⟨e, he, k1, k2⟩)
        · exact .inl h
        · rcases ins_mem.1 he with rfl | he
          · exact absurd k1 hw
          · exact .inr ⟨e, (del_mem.1 he).1, k1, k2⟩
      · rintro (h | ⟨e, he, k1, k2⟩)
        · exact .inl h
        · exact .inr ⟨e, ins_mem.2 (.inr (del_mem.2 ⟨he, fun hh => hw (wi_trans hh.1 k1)⟩)), k1, k2⟩
  · rw [if_neg hok]
    by_cases hc : s ≠ 0 ∧ a ≤ most ∧ wi s t = true
    · rw [if_pos hc]
      have : ¬ askL es s < a := fun h => hok (ok_iff.2 ⟨hc.1, hc.2.1, h⟩)
      have := ask_mono es hc.2.2
      omega
    · rw [if_neg hc]

/-- entries are tight -/
structure Tight (es : List En) : Prop where
  sd : es.Pairwise (fun a b => ltS a.1 b.1 = true)
  ok : ∀ e ∈ es, U e.1 ∧ e.1 ≠ 0 ∧ 1 ≤ e.2 ∧ e.2 ≤ most
  tt : ∀ e ∈ es, ∀ f ∈ es, wi e.1 f.1 = true → e.1 ≠ f.1 → e.2 < f.2
theorem Tight.nil : Tight [] := ⟨List.Pairwise.nil, by simp, by simp⟩
theorem ins_sd {es : List En} (h : es.Pairwise (fun a b => ltS a.1 b.1 = true)) {s a : Int} (hs : ∀ e ∈ es, e.1 ≠ s) : (insL es s a).Pairwise (fun a b => ltS a.1 b.1 = true) := by
  induction es with
  | nil => unfold insL; exact List.pairwise_singleton _ _
  | cons f r ih =>
    obtain ⟨h1, h2⟩ := List.pairwise_cons.1 h
    unfold insL
    by_cases hlt : ltS f.1 s = true
    · rw [if_pos hlt]
      refine List.pairwise_cons.2 ⟨fun e he => ?_, ih h2 (fun e he => hs e (List.mem_cons_of_mem _ he))⟩
      rcases ins_mem.1 he with rfl | he
      · exact hlt
      · exact h1 e he
    · rw [if_neg hlt]
      have hsf : ltS s f.1 = true := by
        cases k : ltS s f.1 with
        | true => rfl
        | false => exact absurd (ltS_tot (by simpa using hlt) k) (hs f (List.mem_cons_self ..))
      refine List.pairwise_cons.2 ⟨fun e he => ?_, h⟩
      rcases List.mem_cons.1 he with rfl | he
      · exact hsf
      · exact ltS_trans hsf (h1 e he)
theorem Tight.put {es : List En} (h : Tight es) {s : Int} (hs : U s) (a : Int) : Tight (putP es s a) := by
  unfold putP
  by_cases hok : okP es s a = true
  · rw [if_pos hok]
    obtain ⟨h1, h2, h3⟩ := ok_iff.1 hok
    have h0 := ask_nonneg es s
    have hlt : ∀ e ∈ es, wi e.1 s = true → e.2 < a := fun e he hw => by
      have := ask_ge.2 (.inr ⟨e, he, hw, Int.le_refl _⟩)
      omega
    refine ⟨ins_sd (List.Pairwise.filter _ h.sd) (fun e he hes => ?_), fun e he => ?_, fun e he f hf hw hne => ?_⟩
    · have k := del_mem.1 he
      have := hlt e k.1 (by rw [hes]; exact wi_refl _)
      exact k.2 ⟨by rw [hes]; exact wi_refl _, by omega⟩
    · rcases ins_mem.1 he with rfl | he
      · exact ⟨hs, h1, by dsimp only; omega, h2⟩
      · exact h.ok e (del_mem.1 he).1
    · rcases ins_mem.1 he with rfl | he
      · rcases ins_mem.1 hf with rfl | hf
        · exact absurd rfl hne
        · have k := del_mem.1 hf
          dsimp only at hw ⊢
          by_cases hx : f.2 ≤ a
          · exact absurd ⟨hw, hx⟩ k.2
          · omega
      · rcases ins_mem.1 hf with rfl | hf
        · exact hlt e (del_mem.1 he).1 hw
        · exact h.tt e (del_mem.1 he).1 f (del_mem.1 hf).1 hw hne
  · rw [if_neg hok]; exact h
/-- an entry of tight ones is just what is asked for its set, and less is asked for each set within it -/
theorem Tight.mem_iff {es : List En} (h : Tight es) {s a : Int} (hs : U s) : (s, a) ∈ es ↔ askL es s = a ∧ 1 ≤ a ∧ ∀ t, U t → wi t s = true → t ≠ s → askL es t < a := by
  constructor
  · intro hm
    have hk := h.ok _ hm
    refine ⟨?_, hk.2.2.1, fun t ht hw hne => ?_⟩
    · refine Int.le_antisymm ?_ (ask_ge.2 (.inr ⟨_, hm, wi_refl _, Int.le_refl _⟩))
      rcases ask_ge.1 (Int.le_refl (askL es s)) with k | ⟨e, he, k1, k2⟩
      · have := hk.2.2.1; dsimp only at this; omega
      · by_cases e1 : e.1 = s
        · have e2 : e.2 = a := by
            have key : ∀ (l : List En), l.Pairwise (fun a b => ltS a.1 b.1 = true) → ∀ x ∈ l, ∀ y ∈ l, x.1 = y.1 → x = y := by
              intro l
              induction l with
              | nil => simp
              | cons z l ih =>
                intro hp x hx y hy hxy
                obtain ⟨p1, p2⟩ := List.pairwise_cons.1 hp
                rcases List.mem_cons.1 hx with rfl | hx1
                · rcases List.mem_cons.1 hy with rfl | hy1
                  · rfl
                  · have := p1 y hy1; rw [hxy, ltS_irr] at this; cases this
                · rcases List.mem_cons.1 hy with rfl | hy1
                  · have := p1 x hx1; rw [hxy, ltS_irr] at this; cases this
                  · exact ih p2 x hx1 y hy1 hxy
            have := key es h.sd e he (s, a) hm e1
            rw [this]
          omega
        · have := h.tt e he _ hm k1 e1
          dsimp only at this
          omega
    · rcases ask_ge.1 (Int.le_refl (askL es t)) with k | ⟨e, he, k1, k2⟩
      · have := hk.2.2.1; dsimp only at this; omega
      · have hes : e.1 ≠ s := fun e1 => hne (wi_antisym ht hs hw (by rw [← e1]; exact k1))
        have := h.tt e he _ hm (wi_trans k1 hw) hes
        dsimp only at this
        omega
  · rintro ⟨h1, h2, h3⟩
    rcases ask_ge.1 (Int.le_refl (askL es s)) with k | ⟨e, he, k1, k2⟩
    · omega
    · have hue := (h.ok e he).1
      by_cases e1 : e.1 = s
      · have : e.2 ≤ askL es s := ask_ge.2 (.inr ⟨e, he, k1, Int.le_refl _⟩)
        have e2 : e = (s, a) := Prod.ext e1 (by dsimp only; omega)
        rw [← e2]; exact he
      · have := h3 e.1 hue k1 e1
        have : e.2 ≤ askL es e.1 := ask_ge.2 (.inr ⟨e, he, wi_refl _, Int.le_refl _⟩)
        omega
theorem sorted_ext : ∀ {A B : List En}, A.Pairwise (fun a b => ltS a.1 b.1 = true) → B.Pairwise (fun a b => ltS a.1 b.1 = true) → (∀ e, e ∈ A ↔ e ∈ B) → A = B
  | [], [], _, _, _ => rfl
  | [], b :: B, _, _, h => absurd ((h b).2 (List.mem_cons_self ..)) (by simp)
  | a :: A, [], _, _, h => absurd ((h a).1 (List.mem_cons_self ..)) (by simp)
  | a :: A, b :: B, h1, h2, h => by
    obtain ⟨p1, p2⟩ := List.pairwise_cons.1 h1
    obtain ⟨q1, q2⟩ := List.pairwise_cons.1 h2
    have hab : a = b := by
      rcases List.mem_cons.1 ((h a).1 (List.mem_cons_self ..)) with e | ha
      · exact e
      · rcases List.mem_cons.1 ((h b).2 (List.mem_cons_self ..)) with e | hb
        · exact e.symm
        · have := ltS_asym (q1 a ha)
          rw [p1 b hb] at this
          cases this
    subst hab
    rw [sorted_ext p2 q2 (fun e => ?_)]
    constructor
    · intro he
      rcases List.mem_cons.1 ((h e).1 (List.mem_cons_of_mem _ he)) with rfl | hb
      · have := p1 e he; rw [ltS_irr] at this; cases this
      · exact hb
    · intro he
      rcases List.mem_cons.1 ((h e).2 (List.mem_cons_of_mem _ he)) with rfl | hb
      · have := q1 e he; rw [ltS_irr] at this; cases this
      · exact hb
/-- tight entries are told by what is asked -/
theorem Tight.ext {A B : List En} (hA : Tight A) (hB : Tight B) (h : ∀ t, U t → askL A t = askL B t) : A = B := by
  refine sorted_ext hA.sd hB.sd (fun e => ?_)
  obtain ⟨s, a⟩ := e
  constructor
  · intro he
    have hs := (hA.ok _ he).1
    refine (hB.mem_iff hs).2 ?_
    obtain ⟨h1, h2, h3⟩ := (hA.mem_iff hs).1 he
    exact ⟨by rw [← h s hs]; exact h1, h2, fun t ht hw hne => by rw [← h t ht]; exact h3 t ht hw hne⟩
  · intro he
    have hs := (hB.ok _ he).1
    refine (hA.mem_iff hs).2 ?_
    obtain ⟨h1, h2, h3⟩ := (hB.mem_iff hs).1 he
    exact ⟨by rw [h s hs]; exact h1, h2, fun t ht hw hne => by rw [h t ht]; exact h3 t ht hw hne⟩
theorem tight_of {es : List En} : ∀ {o : List En}, Tight o → (∀ e ∈ es, U e.1) → Tight (es.foldl (fun o e => putP o e.1 e.2) o) := by
  induction es with
  | nil => intro o h _; exact h
  | cons e r ih => intro o h hu; exact ih (h.put (hu e (List.mem_cons_self ..)) _) (fun f hf => hu f (List.mem_cons_of_mem _ hf))
theorem tight_ofL {es : List En} (h : ∀ e ∈ es, U e.1) : Tight (ofL es) := tight_of Tight.nil h
/-- what is asked behind a row of puts -/
theorem ask_of_ge (es : List En) (t : Int) : ∀ (o : List En) (x : Int), x ≤ askL (es.foldl (fun o e => putP o e.1 e.2) o) t ↔ x ≤ askL o t ∨ ∃ e ∈ es, e.1 ≠ 0 ∧ e.2 ≤ most ∧ wi e.1 t = true ∧ x ≤ e.2 := by
  induction es with
  | nil => intro o x; simp
  | cons e r ih =>
    intro o x
    rw [List.foldl_cons, ih, ask_put]
    constructor
    · rintro (h | ⟨f, hf, k⟩)
      · by_cases hc : e.1 ≠ 0 ∧ e.2 ≤ most ∧ wi e.1 t = true
        · rw [if_pos hc] at h
          by_cases hx : x ≤ askL o t
          · exact .inl hx
          · exact .inr ⟨e, List.mem_cons_self .., hc.1, hc.2.1, hc.2.2, by omega⟩
        · rw [if_neg hc] at h
          exact .inl h
      · exact .inr ⟨f, List.mem_cons_of_mem _ hf, k⟩
    · rintro (h | ⟨f, hf, k1, k2, k3, k4⟩)
      · left
        split
        · omega
        · exact h
      · rcases List.mem_cons.1 hf with rfl | hf
        · left
          rw [if_pos ⟨k1, k2, k3⟩]
          omega
        · exact .inr ⟨f, hf, k1, k2, k3, k4⟩
theorem ask_ofL_ge {es : List En} {t x : Int} : x ≤ askL (ofL es) t ↔ x ≤ 0 ∨ ∃ e ∈ es, e.1 ≠ 0 ∧ e.2 ≤ most ∧ wi e.1 t = true ∧ x ≤ e.2 := ask_of_ge es t [] x
/-- tight entries, put in order, are themselves -/
theorem Tight.of_self {es : List En} (h : Tight es) : ofL es = es := by
  refine (tight_ofL (fun e he => (h.ok e he).1)).ext h (fun t ht => le_ext (fun x => ?_))
  rw [ask_ofL_ge, ask_ge]
  constructor
  · rintro (k | ⟨e, he, k1, k2, k3, k4⟩)
    · exact .inl k
    · exact .inr ⟨e, he, k3, k4⟩
  · rintro (k | ⟨e, he, k1, k2⟩)
    · exact .inl k
    · exact .inr ⟨e, he, (h.ok e he).2.1, (h.ok e he).2.2.2, k1, k2⟩
end Go.Proofs.Ytnlhgnioedalpaa.Pri

/- the library's count of bits, in plain words. -/
set_option linter.unusedVariables false
namespace Go.Proofs.Ytnlhgnioedalpaa.Pri
/-- a number told by its bytes, the low one ahead -/
def num : List Nat → Nat
  | [] => 0
  | d :: r => d + 256 * num r
theorem and_step {b m h M : Nat} (hb : b < 256) (hm : m < 256) : (b + 256 * h) &&& (m + 256 * M) = (b &&& m) + 256 * (h &&& M) := by
  have e1 : b + 256 * h = 2 ^ 8 * h + b := by omega
  have e2 : m + 256 * M = 2 ^ 8 * M + m := by omega
  have hbm : b &&& m < 2 ^ 8 := Nat.lt_of_le_of_lt Nat.and_le_left (by omega)
  have e3 : (b &&& m) + 256 * (h &&& M) = 2 ^ 8 * (h &&& M) + (b &&& m) := by omega
  rw [e1, e2, e3]
  apply Nat.eq_of_testBit_eq
  intro i
  rw [Nat.testBit_and, Nat.testBit_two_pow_mul_add h (by omega) i, Nat.testBit_two_pow_mul_add M (by omega) i, Nat.testBit_two_pow_mul_add (h &&& M) hbm i]
  split
  · rw [Nat.testBit_and]
  · rw [Nat.testBit_and]
def rep (m : Nat) : Nat → Nat
  | 0 => 0
  | j + 1 => m + 256 * rep m j
/-- a stage that adds up the two halves of each field -/
theorem stage {s m : Nat} (k : Nat) (hs : s * k = 256) (hs0 : 0 < s) (hm : m < 256) (f : Nat → Nat)
    (hf : ∀ d c, d < 256 → c < s → ((d / s + k * c) &&& m) + (d &&& m) = f d) : ∀ ds : List Nat, (∀ d ∈ ds, d < 256) → ((num ds / s) &&& rep m ds.length) + (num ds &&& rep m ds.length) = num (ds.map f)
  | [], _ => by simp [num, rep]
  | d :: r, h => by
    have hd := h d (List.mem_cons_self ..)
    have ih := stage k hs hs0 hm f hf r (fun x hx => h x (List.mem_cons_of_mem _ hx))
    have hdiv : num (d :: r) / s = (d / s + k * (num r % s)) + 256 * (num r / s) := by
      show (d + 256 * num r) / s = _
      have e : num r = s * (num r / s) + num r % s := (Nat.div_add_mod (num r) s).symm
      have e2 : d + 256 * num r = d + s * (k * (num r)) := by rw [← Nat.mul_assoc, hs]
      rw [e2, Nat.add_mul_div_left _ _ hs0]
      have e3 : k * num r = k * (num r % s) + 256 * (num r / s) := by
        rw [← hs]
        conv => lhs; rw [e]
        rw [Nat.mul_add, ← Nat.mul_assoc, Nat.mul_comm k s]
        omega
      omega
    have hlt : d / s + k * (num r % s) < 256 := by
      have h1 : num r % s < s := Nat.mod_lt _ hs0
      have h2 : d / s < k := by rw [Nat.div_lt_iff_lt_mul hs0, Nat.mul_comm, hs]; exact hd
      have h3 : k * (num r % s) + k ≤ k * s := by rw [← Nat.mul_succ]; exact Nat.mul_le_mul_left k h1
      rw [Nat.mul_comm] at hs
      omega
    have hfd := hf d (num r % s) hd (Nat.mod_lt _ hs0)
    rw [hdiv]
    show (((d / s + k * (num r % s)) + 256 * (num r / s)) &&& (m + 256 * rep m r.length)) + ((d + 256 * num r) &&& (m + 256 * rep m r.length)) = f d + 256 * num (r.map f)
    rw [and_step hlt hm, and_step hd hm, ← ih, ← hfd]
    omega
def f1 (d : Nat) : Nat := ((d / 2) &&& 85) + (d &&& 85)
def f2 (d : Nat) : Nat := ((d / 4) &&& 51) + (d &&& 51)
def f3 (d : Nat) : Nat := (d / 16 + d) &&& 15
theorem f1_c : ∀ d : Fin 256, ∀ c : Fin 2, ((d.val / 2 + 128 * c.val) &&& 85) + (d.val &&& 85) = f1 d.val := by decide +kernel
theorem f2_c : ∀ d : Fin 256, ∀ c : Fin 4, ((d.val / 4 + 64 * c.val) &&& 51) + (d.val &&& 51) = f2 d.val := by decide +kernel
theorem f1_lt : ∀ d : Fin 256, f1 d.val < 256 := by decide +kernel
theorem f2_lt : ∀ d : Fin 256, f2 (f1 d.val) / 16 ≤ 4 ∧ f2 (f1 d.val) % 16 ≤ 4 ∧ f2 (f1 d.val) < 256 := by decide +kernel
theorem f3_c : ∀ d : Fin 69, ∀ c : Fin 5, (d.val / 16 + 16 * c.val + d.val) &&& 15 = f3 d.val := by decide +kernel
theorem pc_c : ∀ d : Fin 256, f3 (f2 (f1 d.val)) = (List.range 8).countP (fun i => d.val.testBit i) := by decide +kernel
/-- the third stage -/
theorem stage3 : ∀ ds : List Nat, (∀ d ∈ ds, d / 16 ≤ 4 ∧ d % 16 ≤ 4) → ((num ds / 16 + num ds) &&& rep 15 ds.length) = num (ds.map f3) ∧ num ds % 16 ≤ 4
  | [], _ => by simp [num, rep]
  | d :: r, h => by
    obtain ⟨hda, hdb⟩ := h d (List.mem_cons_self ..)
    obtain ⟨ih, hr⟩ := stage3 r (fun x hx => h x (List.mem_cons_of_mem _ hx))
    have e : num (d :: r) / 16 + num (d :: r) = (d / 16 + 16 * (num r % 16) + d) + 256 * (num r / 16 + num r) := by
      show (d + 256 * num r) / 16 + (d + 256 * num r) = _
      omega
    have hd69 : d < 69 := by omega
    have hf := f3_c ⟨d, hd69⟩ ⟨num r % 16, by omega⟩
    dsimp only at hf
    refine ⟨?_, ?_⟩
    · rw [e]
      show (_ &&& (15 + 256 * rep 15 r.length)) = f3 d + 256 * num (r.map f3)
      rw [and_step (by omega) (by omega), ih, hf]
    · have e4 : num (d :: r) = d + 256 * num r := rfl
      rw [e4]
      clear e e4 ih hf
      omega
def cntJ (j n : Nat) : Nat := (List.range (8 * j)).countP (fun i => n.testBit i)
theorem testBit_num {d r i : Nat} (hd : d < 256) : (d + 256 * r).testBit i = if i < 8 then d.testBit i else r.testBit (i - 8) := by
  rw [show d + 256 * r = 2 ^ 8 * r + d from by omega, Nat.testBit_two_pow_mul_add r (by omega) i]
theorem cnt_num : ∀ ds : List Nat, (∀ d ∈ ds, d < 256) → cntJ ds.length (num ds) = (ds.map (fun d => (List.range 8).countP (fun i => d.testBit i))).sum
  | [], _ => rfl
  | d :: r, h => by
    have hd := h d (List.mem_cons_self ..)
    have ih := cnt_num r (fun x hx => h x (List.mem_cons_of_mem _ hx))
    unfold cntJ at ih ⊢
    rw [List.length_cons, show 8 * (r.length + 1) = 8 + 8 * r.length from by omega, List.range_add, List.countP_append, List.countP_map, List.map_cons, List.sum_cons, ← ih]
    have e1 : (List.range 8).countP (fun i => (num (d :: r)).testBit i) = (List.range 8).countP (fun i => d.testBit i) := by
      refine List.countP_congr (fun i hi => ?_)
      rw [show num (d :: r) = d + 256 * num r from rfl, testBit_num hd, if_pos (List.mem_range.1 hi)]
    have e2 : (List.range (8 * r.length)).countP ((fun i => (num (d :: r)).testBit i) ∘ (fun x => 8 + x)) = (List.range (8 * r.length)).countP (fun i => (num r).testBit i) := by
      refine List.countP_congr (fun i hi => ?_)
      show ((num (d :: r)).testBit (8 + i) = true) ↔ _
      rw [show num (d :: r) = d + 256 * num r from rfl, testBit_num hd, if_neg (by omega), show 8 + i - 8 = i from by omega]
    rw [e1, e2]
set_option maxHeartbeats 2000000 in
theorem bytes8 (n : Nat) (hn : n < 18446744073709551616) : ∃ d0 d1 d2 d3 d4 d5 d6 d7 : Nat, n = num [d0, d1, d2, d3, d4, d5, d6, d7] ∧ d0 < 256 ∧ d1 < 256 ∧ d2 < 256 ∧ d3 < 256 ∧ d4 < 256 ∧ d5 < 256 ∧ d6 < 256 ∧ d7 < 256 :=
  ⟨n % 256, n / 256 % 256, n / 65536 % 256, n / 16777216 % 256, n / 4294967296 % 256, n / 1099511627776 % 256, n / 281474976710656 % 256, n / 72057594037927936 % 256, by unfold num num num num num num num num num; omega, by omega, by omega, by omega, by omega, by omega, by omega, by omega, by omega⟩
/-- the library's count of bits, in whole numbers -/
def pop1 (n : Nat) : Nat := ((n / 2) &&& 6148914691236517205) + (n &&& 6148914691236517205)
def pop2 (n : Nat) : Nat := ((n / 4) &&& 3689348814741910323) + (n &&& 3689348814741910323)
def pop3 (n : Nat) : Nat := (n / 16 + n) &&& 1085102592571150095
set_option maxHeartbeats 2000000 in
theorem pop_num (n : Nat) (hn : n < 18446744073709551616) : ∃ a0 a1 a2 a3 a4 a5 a6 a7 : Nat, pop3 (pop2 (pop1 n)) = num [a0, a1, a2, a3, a4, a5, a6, a7] ∧ (a0 ≤ 8 ∧ a1 ≤ 8 ∧ a2 ≤ 8 ∧ a3 ≤ 8 ∧ a4 ≤ 8 ∧ a5 ≤ 8 ∧ a6 ≤ 8 ∧ a7 ≤ 8) ∧ a0 + a1 + a2 + a3 + a4 + a5 + a6 + a7 = cntJ 8 n := by
  obtain ⟨d0, d1, d2, d3, d4, d5, d6, d7, rfl, h0, h1, h2, h3, h4, h5, h6, h7⟩ := bytes8 n hn
  have hd : ∀ d ∈ [d0, d1, d2, d3, d4, d5, d6, d7], d < 256 := by simp [h0, h1, h2, h3, h4, h5, h6, h7]
  have s1 := stage (s := 2) (m := 85) 128 (by decide) (by decide) (by decide) f1 (fun d c hd hc => f1_c ⟨d, hd⟩ ⟨c, hc⟩) _ hd
  have hd1 : ∀ d ∈ [d0, d1, d2, d3, d4, d5, d6, d7].map f1, d < 256 := fun d h => by
    obtain ⟨x, hx, rfl⟩ := List.mem_map.1 h
    exact f1_lt ⟨x, hd x hx⟩
  have s2 := stage (s := 4) (m := 51) 64 (by decide) (by decide) (by decide) f2 (fun d c hd hc => f2_c ⟨d, hd⟩ ⟨c, hc⟩) _ hd1
  have hd2 : ∀ d ∈ ([d0, d1, d2, d3, d4, d5, d6, d7].map f1).map f2, d / 16 ≤ 4 ∧ d % 16 ≤ 4 := fun d h => by
    obtain ⟨y, hy, rfl⟩ := List.mem_map.1 h
    obtain ⟨x, hx, rfl⟩ := List.mem_map.1 hy
    have := f2_lt ⟨x, hd x hx⟩
    exact ⟨this.1, this.2.1⟩
  have s3 := (stage3 _ hd2).1
  have e1 : pop1 (num [d0, d1, d2, d3, d4, d5, d6, d7]) = num ([d0, d1, d2, d3, d4, d5, d6, d7].map f1) := s1
  have e2 : pop2 (num ([d0, d1, d2, d3, d4, d5, d6, d7].map f1)) = num (([d0, d1, d2, d3, d4, d5, d6, d7].map f1).map f2) := s2
  have e3 : pop3 (num (([d0, d1, d2, d3, d4, d5, d6, d7].map f1).map f2)) = num ((([d0, d1, d2, d3, d4, d5, d6, d7].map f1).map f2).map f3) := s3
  have pcb : ∀ d, d < 256 → f3 (f2 (f1 d)) = (List.range 8).countP (fun i => d.testBit i) := fun d hd => pc_c ⟨d, hd⟩
  have le8 : ∀ d, d < 256 → f3 (f2 (f1 d)) ≤ 8 := fun d hd => by rw [pcb d hd]; exact List.countP_le_length
  refine ⟨f3 (f2 (f1 d0)), f3 (f2 (f1 d1)), f3 (f2 (f1 d2)), f3 (f2 (f1 d3)), f3 (f2 (f1 d4)), f3 (f2 (f1 d5)), f3 (f2 (f1 d6)), f3 (f2 (f1 d7)), by rw [e1, e2, e3]; rfl, ⟨le8 _ h0, le8 _ h1, le8 _ h2, le8 _ h3, le8 _ h4, le8 _ h5, le8 _ h6, le8 _ h7⟩, ?_⟩
  have hc := cnt_num [d0, d1, d2, d3, d4, d5, d6, d7] hd
  rw [show [d0, d1, d2, d3, d4, d5, d6, d7].length = 8 from rfl] at hc
  rw [hc, pcb _ h0, pcb _ h1, pcb _ h2, pcb _ h3, pcb _ h4, pcb _ h5, pcb _ h6, pcb _ h7]
  simp only [List.map_cons, List.map_nil, List.sum_cons, List.sum_nil]
  omega
set_option maxHeartbeats 2000000 in
/-- the last sums -/
theorem pop_end (n : Nat) (hn : n < 18446744073709551616) (x y z : Nat) (hx : x = pop3 (pop2 (pop1 n)) + pop3 (pop2 (pop1 n)) / 256) (hy : y = x + x / 65536) (hz : z = y + y / 4294967296) : z % 128 = cntJ 8 n ∧ z < 18446744073709551616 := by
  obtain ⟨a0, a1, a2, a3, a4, a5, a6, a7, he, hb, hc⟩ := pop_num n hn
  obtain ⟨h0, h1, h2, h3, h4, h5, h6, h7⟩ := hb
  rw [he] at hx
  have e0 : num [a0, a1, a2, a3, a4, a5, a6, a7] = a0 + 256 * (a1 + 256 * (a2 + 256 * (a3 + 256 * (a4 + 256 * (a5 + 256 * (a6 + 256 * (a7 + 256 * 0))))))) := rfl
  rw [e0] at hx
  rw [← hc]
  clear he hc e0
  have e1 : x = (a0 + a1) + 256 * (a1 + a2) + 65536 * ((a2 + a3) + 256 * (a3 + a4) + 65536 * (a4 + a5) + 16777216 * (a5 + a6) + 4294967296 * (a6 + a7) + 1099511627776 * a7) := by omega
  clear hx
  have e2 : y = (a0 + a1 + (a2 + a3)) + 256 * (a1 + a2 + (a3 + a4)) + 65536 * (a2 + a3 + (a4 + a5)) + 16777216 * (a3 + a4 + (a5 + a6)) + 4294967296 * ((a4 + a5 + (a6 + a7)) + 256 * (a5 + a6 + a7) + 65536 * (a6 + a7) + 16777216 * a7) := by omega
  clear hy e1
  have e3 : z = (a0 + a1 + (a2 + a3) + (a4 + a5 + (a6 + a7))) + 256 * ((a1 + a2 + (a3 + a4) + (a5 + a6 + a7)) + 256 * (a2 + a3 + (a4 + a5) + (a6 + a7)) + 65536 * (a3 + a4 + (a5 + a6) + a7) + 16777216 * ((a4 + a5 + (a6 + a7)) + 256 * (a5 + a6 + a7) + 65536 * (a6 + a7) + 16777216 * a7)) := by omega
  clear hz e2
  omega
theorem pop1_le (n : Nat) : pop1 n < 18446744073709551616 := by
  have h1 : (n / 2) &&& 6148914691236517205 ≤ 6148914691236517205 := Nat.and_le_right
  have h2 : n &&& 6148914691236517205 ≤ 6148914691236517205 := Nat.and_le_right
  unfold pop1; omega
theorem cnt_pop (a : Int) : cnt a = cntJ 8 a.toNat := rfl
end Go.Proofs.Ytnlhgnioedalpaa.Pri
