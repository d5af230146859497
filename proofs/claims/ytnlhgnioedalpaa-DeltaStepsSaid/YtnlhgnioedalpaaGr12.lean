/- DelQ, DelD, DelL, DelS, laid together. -/
import Derived.Test.YtnlhgnioedalpaaGr11
import Derived.Test.YtnlhgnioedalpaaGr09

/- delta: changes are read. -/
set_option linter.unusedSimpArgs false
set_option linter.unusedVariables false
namespace Go.Proofs.Ytnlhgnioedalpaa.Cod
open Go.RowKit Go.Shelf Go.Proofs.YtnlhgnioedalpaaW.PrintWords Go.Proofs.Ytnlhgnioedalpaa.CodL
open Go.Proofs.Ytnlhgnioedalpaa.Pri (Ch dC tF tC)
attribute [local go_sem] Oper.semAt_some

theorem neg_any (W : World) (x y z : Int) : Calls Try.prog 87 #[.agg #[.int .i64 x, .int .u64 y, .int .i64 z]] W fun e w' => e = .returned (.bool (decide (x < 0))) ∧ Below W.heap.size W w' := by
  have HB := Lib.hid (show Below W.heap.size W (W.alloc (.cells #[.int .i64 x, .int .u64 y, .int .i64 z] tC)) from (Below.refl _ W).alloc (Nat.le_refl _) _)
  have c0 := (Blk.new W [.int .i64 x, .int .u64 y, .int .i64 z] tC).cell (i := 0) rfl
  go_enter Try.func87, Try.ntmps87
  go_wp2_with fail
  go_ret
  exact ⟨rfl, HB.out⟩
def negC (q : Ch) : Bool := decide (q.1 < 0)
set_option maxRecDepth 100000 in
set_option maxHeartbeats 4000000 in
theorem idxC_any (W : World) (v : Value) (cs : List Ch) (hv : PC W v cs) (hl : cs.length ≤ 1099511627776) :
    Calls Try.prog 113 #[v, .func (.func 87) #[] #[]] W fun e w' => ∃ r, e = .returned (.int .i64 r) ∧ ((r = -1 ∧ cs.any negC = false) ∨ (0 ≤ r ∧ cs.any negC = true)) ∧ Below W.heap.size W w' := by
  have HV := Lib.hid hv
  obtain ⟨Av, cv, rfl, -⟩ := hv
  go_enter Try.func113, Try.ntmps113
  go_wp2_with fail
  go_loopw [8] (fun i wr => ∃ k : Nat, k ≤ cs.length ∧ i = .int .i64 (k : Int) ∧ Below W.heap.size W wr ∧ ∀ j, j < k → negC (cs.getD j dC) = false) (fun i _ => cs.length - (intOf i).toNat)
  case atStart => exact ⟨0, Nat.zero_le _, rfl, Below.refl _ W, fun j hj => by omega⟩
  case round =>
    obtain ⟨k, hk, rfl, hB, hno⟩ := hrel
    by_cases hlt : k < cs.length
    · obtain ⟨⟨x, y, z⟩, hx⟩ : ∃ x, cs[k] = x := ⟨_, rfl⟩
      have hx2 : cs[k]? = some (x, y, z) := by rw [List.getElem?_eq_getElem hlt, hx]
      have hgd : cs.getD k dC = (x, y, z) := by rw [List.getD_eq_getElem?_getD, hx2]; rfl
      obtain ⟨b3, off3, c4, e1, hlb, r0, r1, r2⟩ := (HV.out.below hB).at hx2
      obtain ⟨rfl, rfl⟩ : Av = some ⟨b3, off3, none⟩ ∧ cv = c4 := by injection e1 with e1 e2 e3; exact ⟨e1, e3⟩
      simp only at r0 r1 r2
      have P1 := neg_any wr x y z
      have HB := Lib.hid hB; have HNO := Lib.hid hno
      obtain ⟨o, ho⟩ : ∃ o, decide (x < 0) = o := ⟨_, rfl⟩
      rw [ho] at P1
      have HP1 := Lib.hid P1
      have HO := Lib.hid (show negC (cs.getD k dC) = o by rw [hgd]; exact ho)
      clear hx hx2 hgd e1 P1 hB hno ho
      go_wp2_with fail
      refine HP1.out.mono ?_; rintro e w1 ⟨rfl, hb1⟩
      have HB1 := Lib.hid (HB.out.trans (hb1.mono HB.out.size))
      clear hb1
      cases o with
      | true =>
        go_wp2_with fail
        exact bodyPost_ret (v := .int .i64 (k : Int)) (by simp [results, Try.f113, go_sem]) rfl ⟨_, rfl, .inr ⟨by omega, List.any_eq_true.2 ⟨_, List.getElem_mem hlt, by have := HO.out; rwa [show cs.getD k dC = cs[k] from by simp [List.getD, hlt]] at this⟩⟩, HB1.out⟩
      | false =>
        go_wp2_with fail
        go_roundw
        case rel => exact ⟨k + 1, by omega, by simp, HB1.out, fun j hj => by rcases Nat.lt_succ_iff_lt_or_eq.1 hj with h | rfl; exact HNO.out j h; exact HO.out⟩
        case measure => simp [intOf]; omega
    · obtain rfl : k = cs.length := by omega
      have HNO := Lib.hid hno
      clear hno
      go_wp2_with fail
      exact bodyPost_ret (v := .int .i64 (-1)) (by simp [results, Try.f113, go_sem]) rfl ⟨_, rfl, .inl ⟨rfl, by
        rw [Bool.eq_false_iff]
        intro hc
        obtain ⟨e, he, hg⟩ := List.any_eq_true.1 hc
        obtain ⟨j, hj, rfl⟩ := List.getElem_of_mem he
        have := HNO.out j hj
        rw [show cs.getD j dC = cs[j] from by simp [List.getD, hj]] at this
        rw [this] at hg; cases hg⟩, hB⟩
theorem containsC_any (W : World) (v : Value) (cs : List Ch) (hv : PC W v cs) (hl : cs.length ≤ 1099511627776) :
    Calls Try.prog 86 #[v, .func (.func 87) #[] #[]] W fun e w' => e = .returned (.bool (cs.any negC)) ∧ Below W.heap.size W w' := by
  have IX := Lib.hid (idxC_any W v cs hv hl)
  obtain ⟨o, ho⟩ : ∃ o, cs.any negC = o := ⟨_, rfl⟩
  rw [ho] at IX ⊢
  obtain ⟨Av, cv, rfl, -⟩ := hv
  clear ho
  go_enter Try.func86, Try.ntmps86
  go_wp2_with fail
  refine IX.out.mono ?_; rintro e w1 ⟨r, rfl, hr, hb⟩
  have HB := Lib.hid hb
  clear hb
  rcases hr with ⟨rfl, rfl⟩ | ⟨h0, rfl⟩
  · go_wp2_with fail
    go_ret
    exact ⟨by simp, HB.out⟩
  · go_wp2_with fail
    go_ret
    exact ⟨by simp [h0], HB.out⟩
/-- what bytes are read as -/
def readC (bs : List Int) : List Ch × Int := if (allN takeC bs 4096).2 = 0 ∧ (allN takeC bs 4096).1.any negC = true then ([], 20) else allN takeC bs 4096
theorem readC_neg {bs : List Int} {out : List Ch} (h : allN takeC bs 4096 = (out, 0)) (hn : out.any negC = true) : readC bs = ([], 20) := by unfold readC; rw [h]; exact if_pos ⟨rfl, hn⟩
theorem readC_ok {bs : List Int} {out : List Ch} {er : Int} (h : allN takeC bs 4096 = (out, er)) (hn : ¬ (er = 0 ∧ out.any negC = true)) : readC bs = (out, er) := by unfold readC; rw [h]; exact if_neg hn
set_option maxRecDepth 100000 in
set_option maxHeartbeats 1000000 in
theorem read_any (W : World) (bs : List Int) (A : Option Addr) (c : Nat) (hx : (Kd.int .u8).C W A bs.length bs) (hA0 : A = none → c = 0) (hb : ∀ x ∈ bs, 0 ≤ x ∧ x < 256) (hl : bs.length ≤ 1099511627776) (hr : (allN takeC bs 4096).1.length ≤ 1000000) :
    Calls Try.prog 51 #[.slice A bs.length c] W fun e w' => ∃ v, e = .returned (.tuple #[v, .int .i64 (readC bs).2]) ∧ PC w' v (readC bs).1 ∧ Below W.heap.size W w' := by
  have AL := Lib.hid (all_any W bs A c hx hA0 hb hl takeC 85 #[] takeC1 4096 (by decide))
  obtain ⟨ro, re, hRR⟩ : ∃ ro re, readC bs = (ro, re) := ⟨_, _, rfl⟩
  have HRR := Lib.hid hRR
  rw [hRR]
  obtain ⟨out, er, hR⟩ : ∃ out er, allN takeC bs 4096 = (out, er) := ⟨_, _, rfl⟩
  rw [hR] at AL hr
  have HR := Lib.hid hR
  dsimp only at AL hr ⊢
  clear hR hx hRR
  go_enter Try.func51, Try.ntmps51
  go_wp2_with fail
  refine AL.out.mono ?_; rintro e w1 ⟨v, rfl, ho, hb1⟩
  have hpc := pc_own ho
  obtain ⟨A1, c1, rfl, -⟩ := id hpc
  have HPC := Lib.hid hpc; have HB1 := Lib.hid hb1
  clear hpc ho hb1 AL
  by_cases he : er = 0
  · subst he
    obtain ⟨o, ho⟩ : ∃ o, out.any negC = o := ⟨_, rfl⟩
    have HO := Lib.hid ho
    clear ho
    go_wp2_with fail
    refine (containsC_any w1 _ out HPC.out (by omega)).mono ?_; rintro e w2 ⟨rfl, hb2⟩
    rw [HO.out]
    have HB2 := Lib.hid (HB1.out.trans (hb2.mono HB1.out.size)); have HPC2 := Lib.hid (HPC.out.below hb2)
    clear hb2
    cases o with
    | true =>
      have hq := HRR.out.symm.trans (readC_neg HR.out HO.out)
      injection hq with h1 h2
      subst h1; subst h2
      go_wp2_with fail
      exact bodyPost_ret (v := .tuple #[.slice none 0 0, .int .i64 20]) (by simp [results, Try.f51, go_sem]) rfl ⟨_, rfl, ⟨none, 0, rfl, fun i q hq => by simp at hq⟩, HB2.out⟩
    | false =>
      have hq := HRR.out.symm.trans (readC_ok HR.out (fun h => by have := h.2; rw [HO.out] at this; cases this))
      injection hq with h1 h2
      subst h1; subst h2
      go_wp2_with fail
      exact bodyPost_ret (v := .tuple #[.slice A1 ro.length c1, .int .i64 0]) (by simp [results, Try.f51, go_sem]) rfl ⟨_, rfl, HPC2.out, HB2.out⟩
  · have hq := HRR.out.symm.trans (readC_ok HR.out (fun h => he h.1))
    injection hq with h1 h2
    subst h1; subst h2
    go_wp2_with fail
    exact bodyPost_ret (v := .tuple #[.slice A1 ro.length c1, .int .i64 re]) (by simp [results, Try.f51, go_sem]) rfl ⟨_, rfl, HPC.out, HB1.out⟩
end Go.Proofs.Ytnlhgnioedalpaa.Cod

/- delta: what has risen. -/
set_option linter.unusedSimpArgs false
set_option linter.unusedVariables false
namespace Go.Proofs.Ytnlhgnioedalpaa.Pri
open Go.RowKit Go.Proofs.YtnlhgnioedalpaaW.PrintWords Go.Proofs.Ytnlhgnioedalpaa.PPricePlays Go.Maps
attribute [local go_sem] Oper.semAt_some

/-- a book's stores, and the slices that they hold -/
theorem BK.bv {B : Nat} {ps : List Nat} {ls : List (List En)} {o : Value} {A : World} (h : BK B ps ls o A) : ∃ vs, BV ps vs ls o A := by
  obtain ⟨Ao, co, rfl⟩ := own_sl h.own
  have key : ∀ n, n ≤ ls.length → ∃ vs : List Value, vs.length = n ∧ ∀ (i : Nat) l, i < n → ls[i]? = some l → ∃ g p v, Ao = some ⟨g, 0, none⟩ ∧ ps[i]? = some p ∧ vs[i]? = some v ∧ g < A.heap.size ∧ A.cell? ⟨g, i, none⟩ = some (.pointer (some ⟨p, 0, none⟩)) ∧ A.cell? ⟨p, 0, none⟩ = some v ∧ PE A v l := by
    intro n
    induction n with
    | zero => intro _; exact ⟨[], rfl, fun i l hi => by omega⟩
    | succ n ih =>
      intro hn
      obtain ⟨vs, hv, hq⟩ := ih (by omega)
      obtain ⟨l, hl⟩ : ∃ l, ls[n]? = some l := ⟨ls[n], List.getElem?_eq_getElem (by omega)⟩
      obtain ⟨g, c, p, e1, hp, hc, hS, hg⟩ := h.at hl
      obtain ⟨v, hb, hpe⟩ := hS.pr
      injection e1 with e1 _ _
      refine ⟨vs ++ [v], by simp [hv], fun i l' hi hl' => ?_⟩
      by_cases hin : i < n
      · obtain ⟨g', p', v', a1, a2, a3, a4⟩ := hq i l' hin hl'
        exact ⟨g', p', v', a1, a2, by rw [List.getElem?_append_left (by omega)]; exact a3, a4⟩
      · obtain rfl : i = n := by omega
        rw [hl] at hl'
        cases hl'
        exact ⟨g, p, v, e1, hp, by rw [List.getElem?_append_right (by omega), hv, Nat.sub_self]; rfl, hg, hc, hb.cell rfl, hpe⟩
  obtain ⟨vs, _, hq⟩ := key ls.length (Nat.le_refl _)
  exact ⟨vs, Ao, co, rfl, fun i l hl => hq i l (List.getElem?_eq_some_iff.1 hl).1 hl⟩
theorem ball_any (W : World) (A : Option Addr) (n c : Nat) :
    Calls Try.prog 79 #[.slice A n c] W fun e w' => e = .returned (.func (.func 105) #[] #[.pointer (some ⟨W.heap.size, 0, none⟩)]) ∧ w' = W.alloc (.cells #[.slice A n c] 122) := by
  go_enter Try.func79, Try.ntmps79
  go_wp2_with fail
  go_ret
  exact ⟨rfl, rfl⟩
/-- what has risen -/
def diffL (was now : List (List En)) : List Ch := (chT (now.map ofL) now.length).filter (fun c => decide (askL (lsAt (was.map ofL) c.1) c.2.1 < c.2.2))
/-! a cell that holds a slice is written -/
theorem SR.wrote {A C : World} {p b : Nat} {l : List En} {t : TypeId} {A2 : Option Addr} {n2 c2 : Nat} (h : SR A p l) (hb : Blk A b t [.slice A2 n2 c2]) (ht : tS ≠ t) (hg : A.grownBy C (some b)) : SR C p l := by
  obtain ⟨v, kb, hpe⟩ := h.pr
  exact ⟨⟨v, kb.kept hg (by have := blk_ne kb hb ht; simpa using this), hpe.turn hb hg⟩, h.ue, h.ti, h.len⟩
theorem ST.wrote {l : List (Option (Nat × List En))} {o : Value} {A C : World} {b : Nat} {t : TypeId} {A2 : Option Addr} {n2 c2 : Nat} (h : ST l o A) (hb : Blk A b t [.slice A2 n2 c2]) (ht : tS ≠ t) (hg : A.grownBy C (some b)) : ST l o C := fun i p es hi => by
  obtain ⟨h1, h2⟩ := h i p es hi
  obtain ⟨v, kb, _⟩ := h1.pr
  have kb' := kb.kept hg (by have := blk_ne kb hb ht; simpa using this)
  refine ⟨h1.wrote hb ht hg, fun v' hv q hq => ?_⟩
  obtain rfl : v' = v := by have := (hv.inj kb').2; injection this
  have := h2 v' kb q hq
  exact ⟨Nat.lt_of_lt_of_le this.1 hg.size, this.2⟩
theorem BK.wrote {B : Nat} {ps : List Nat} {ls : List (List En)} {o : Value} {A C : World} {b : Nat} {t : TypeId} {A2 : Option Addr} {n2 c2 : Nat} (h : BK B ps ls o A) (hb : Blk A b t [.slice A2 n2 c2]) (ht : tS ≠ t) (ht2 : t ≠ tP) (hg : A.grownBy C (some b)) : BK B ps ls o C := by
  refine ⟨h.n, h.nd, fun p hp => ⟨(h.lt p hp).1, Nat.lt_of_lt_of_le (h.lt p hp).2 hg.size⟩, h.own.kept hg ?_, h.st.wrote hb ht hg⟩
  cases hv : o.ownBlock with
  | none => exact .inl rfl
  | some q => exact .inr (fun e => own_apart hb h.own ht2 (hv.trans e))
theorem BV.wrote {B : Nat} {ps : List Nat} {vs : List Value} {ls : List (List En)} {o : Value} {A C : World} {b : Nat} {t : TypeId} {A2 : Option Addr} {n2 c2 : Nat} (h : BV ps vs ls o A) (hK : BK B ps ls o A) (hb : Blk A b t [.slice A2 n2 c2]) (ht : tS ≠ t) (ht2 : t ≠ tP) (hg : A.grownBy C (some b)) : BV ps vs ls o C := by
  have hKC := hK.wrote hb ht ht2 hg
  obtain ⟨Ao, co, rfl, hq⟩ := h
  refine ⟨Ao, co, rfl, fun i l hl => ?_⟩
  obtain ⟨g, p, v, e, hp, hv, hgl, c1, c2, hpe⟩ := hq i l hl
  obtain ⟨g', c', p', e', hp', hc', hS', hg'⟩ := hKC.at hl
  rw [hp] at hp'
  cases hp'
  subst e
  injection e' with e1 _ _
  injection e1 with e1
  injection e1 with e1 _
  subst e1
  obtain ⟨g2, c3, p2, _, hp2, _, hS2, _⟩ := hK.at hl
  rw [hp] at hp2
  cases hp2
  obtain ⟨v2, kb, _⟩ := hS2.pr
  have hvv : v2 = v := by have := kb.cell (i := 0) rfl; rw [c2] at this; injection this with this; exact this.symm
  have kb' := kb.kept hg (by have := blk_ne kb hb ht; simpa using this)
  exact ⟨g, p, v, rfl, hp, hv, hg', hc', by rw [← hvv]; exact kb'.cell rfl, hpe.turn hb hg⟩
end Go.Proofs.Ytnlhgnioedalpaa.Pri

/- delta, in plain words: a book in which changes are put; what is put, told and put again. -/
set_option linter.unusedSimpArgs false
set_option linter.unusedVariables false
namespace Go.Proofs.Ytnlhgnioedalpaa.Pri

/-- a book of n lists or more -/
def extB (b : List (List En)) (n : Nat) : List (List En) := b ++ List.replicate (n - b.length) []
/-- a change is put -/
def stepB (b : List (List En)) (c : Ch) : List (List En) :=
  if 0 ≤ c.1 ∧ c.1 < 64 then (extB b (c.1.toNat + 1)).set c.1.toNat (putP (b.getD c.1.toNat []) c.2.1 c.2.2) else b
/-- a book in which changes are put -/
def applyL (old : List (List En)) (cs : List Ch) : List (List En) := cs.foldl stepB (old.map ofL)
theorem ext_len (b : List (List En)) (n : Nat) : (extB b n).length = max b.length n := by unfold extB; rw [List.length_append, List.length_replicate]; omega
theorem ext_at (b : List (List En)) (n i : Nat) : (extB b n).getD i [] = b.getD i [] := by
  unfold extB
  rw [List.getD_eq_getElem?_getD, List.getD_eq_getElem?_getD]
  by_cases h : i < b.length
  · rw [List.getElem?_append_left h]
  · rw [List.getElem?_append_right (by omega), List.getElem?_eq_none (l := b) (by omega), List.getElem?_replicate]
    split <;> rfl
theorem step_len (b : List (List En)) (c : Ch) : (stepB b c).length = if 0 ≤ c.1 ∧ c.1 < 64 then max b.length (c.1.toNat + 1) else b.length := by
  unfold stepB
  split
  · rw [List.length_set, ext_len]
  · rfl
theorem step_at (b : List (List En)) (c : Ch) (i : Nat) : (stepB b c).getD i [] = if c.1 = (i : Int) ∧ i < 64 then putP (b.getD i []) c.2.1 c.2.2 else b.getD i [] := by
  unfold stepB
  by_cases h : 0 ≤ c.1 ∧ c.1 < 64
  · rw [if_pos h]
    by_cases hi : c.1.toNat = i
    · rw [if_pos (by omega), List.getD_eq_getElem?_getD, hi, List.getElem?_set_self (by rw [ext_len]; omega)]
      rfl
    · rw [if_neg (by omega), List.getD_eq_getElem?_getD, List.getElem?_set_ne hi, ← List.getD_eq_getElem?_getD, ext_at]
  · rw [if_neg h, if_neg (by omega)]
theorem fold_len (k : Nat) : ∀ (cs : List Ch) (b : List (List En)), k < (cs.foldl stepB b).length ↔ k < b.length ∨ ∃ c ∈ cs, 0 ≤ c.1 ∧ c.1 < 64 ∧ (k : Int) ≤ c.1
  | [], b => by simp
  | c :: cs, b => by
    rw [List.foldl_cons, fold_len k cs, step_len]
    constructor
    · rintro (h | ⟨d, hd, h⟩)
      · split at h
        · by_cases hk : k < b.length
          · exact .inl hk
          · exact .inr ⟨c, List.mem_cons_self, by omega, by omega, by omega⟩
        · exact .inl h
      · exact .inr ⟨d, List.mem_cons_of_mem _ hd, h⟩
    · rintro (h | ⟨d, hd, h1, h2, h3⟩)
      · left; split <;> omega
      · rcases List.mem_cons.1 hd with rfl | hd
        · left; rw [if_pos ⟨h1, h2⟩]; omega
        · exact .inr ⟨d, hd, h1, h2, h3⟩
/-- what is asked of a bidder's list behind changes -/
theorem fold_ask (i : Nat) (x t : Int) : ∀ (cs : List Ch) (b : List (List En)), x ≤ askL ((cs.foldl stepB b).getD i []) t ↔ x ≤ askL (b.getD i []) t ∨ ∃ c ∈ cs, c.1 = (i : Int) ∧ i < 64 ∧ c.2.1 ≠ 0 ∧ c.2.2 ≤ most ∧ wi c.2.1 t = true ∧ x ≤ c.2.2
  | [], b => by simp
  | c :: cs, b => by
    rw [List.foldl_cons, fold_ask i x t cs, step_at]
    constructor
    · rintro (h | ⟨d, hd, h⟩)
      · by_cases hc : c.1 = (i : Int) ∧ i < 64
        · rw [if_pos hc, ask_put] at h
          split at h
          · rename_i hp
            by_cases hx : x ≤ askL (b.getD i []) t
            · exact .inl hx
            · exact .inr ⟨c, List.mem_cons_self, hc.1, hc.2, hp.1, hp.2.1, hp.2.2, by omega⟩
          · exact .inl h
        · rw [if_neg hc] at h; exact .inl h
      · exact .inr ⟨d, List.mem_cons_of_mem _ hd, h⟩
    · rintro (h | ⟨d, hd, h1, h2, h3, h4, h5, h6⟩)
      · left
        split
        · rw [ask_put]; split <;> omega
        · exact h
      · rcases List.mem_cons.1 hd with rfl | hd
        · left; rw [if_pos ⟨h1, h2⟩, ask_put, if_pos ⟨h3, h4, h5⟩]; omega
        · exact .inr ⟨d, hd, h1, h2, h3, h4, h5, h6⟩
theorem fold_tight : ∀ (cs : List Ch) (b : List (List En)), (∀ c ∈ cs, U c.2.1) → (∀ i, Tight (b.getD i [])) → ∀ i, Tight ((cs.foldl stepB b).getD i [])
  | [], b, _, h, i => h i
  | c :: cs, b, hU, h, i => fold_tight cs _ (fun d hd => hU d (List.mem_cons_of_mem _ hd)) (fun j => by
      rw [step_at]
      split
      · exact (h j).put (hU c List.mem_cons_self) _
      · exact h j) i
theorem at_mem {L : List (List En)} {i : Nat} (h : L.getD i [] ≠ []) : i < L.length ∧ L.getD i [] ∈ L := by
  by_cases hi : i < L.length
  · refine ⟨hi, ?_⟩
    rw [List.getD_eq_getElem?_getD, List.getElem?_eq_getElem hi]
    exact List.getElem_mem hi
  · exact absurd (by rw [List.getD_eq_getElem?_getD, List.getElem?_eq_none (by omega)]; rfl) h
theorem at_ue {L : List (List En)} (h : ∀ l ∈ L, UE l) (i : Nat) : UE (L.getD i []) := by
  by_cases h0 : L.getD i [] = []
  · rw [h0]; intro e he; simp at he
  · exact h _ (at_mem h0).2
theorem at_map (L : List (List En)) (i : Nat) : (L.map ofL).getD i [] = ofL (L.getD i []) := by
  rw [List.getD_eq_getElem?_getD, List.getD_eq_getElem?_getD, List.getElem?_map]
  cases L[i]? <;> rfl
theorem ofs_tight {old : List (List En)} (hU : ∀ l ∈ old, UE l) (i : Nat) : Tight ((old.map ofL).getD i []) := by
  rw [at_map]
  exact tight_ofL (at_ue hU i)
theorem apply_tight {old : List (List En)} {cs : List Ch} (hU : ∀ l ∈ old, UE l) (hc : ∀ c ∈ cs, U c.2.1) (i : Nat) : Tight ((applyL old cs).getD i []) := fold_tight cs _ hc (ofs_tight hU) i
theorem apply_ask {old : List (List En)} {cs : List Ch} {i : Nat} {x t : Int} : x ≤ askL ((applyL old cs).getD i []) t ↔ x ≤ askL (ofL (old.getD i [])) t ∨ ∃ c ∈ cs, c.1 = (i : Int) ∧ i < 64 ∧ c.2.1 ≠ 0 ∧ c.2.2 ≤ most ∧ wi c.2.1 t = true ∧ x ≤ c.2.2 := by
  unfold applyL
  rw [fold_ask, at_map]
theorem apply_len {old : List (List En)} {cs : List Ch} {k : Nat} : k < (applyL old cs).length ↔ k < old.length ∨ ∃ c ∈ cs, 0 ≤ c.1 ∧ c.1 < 64 ∧ (k : Int) ≤ c.1 := by
  unfold applyL
  rw [fold_len, List.length_map]
theorem ch_mem {ls : List (List En)} {c : Ch} : ∀ {k : Nat}, c ∈ chT ls k ↔ ∃ i, i < k ∧ ∃ e ∈ ls.getD i [], c = ((i : Int), e.1, e.2) := by
  intro k
  unfold chT
  rw [List.mem_flatMap]
  constructor
  · rintro ⟨i, hi, h⟩
    rw [List.mem_map] at h
    obtain ⟨e, he, h⟩ := h
    exact ⟨i, List.mem_range.1 hi, e, he, h.symm⟩
  · rintro ⟨i, hi, e, he, h⟩
    exact ⟨i, List.mem_range.2 hi, List.mem_map.2 ⟨e, he, h.symm⟩⟩
theorem lsAt_nat (ls : List (List En)) (i : Nat) : lsAt ls (i : Int) = ls.getD i [] := by
  unfold lsAt
  rw [if_neg (by omega), Int.toNat_natCast]
theorem diff_mem {was now : List (List En)} {c : Ch} : c ∈ diffL was now ↔ ∃ i, i < now.length ∧ ∃ e ∈ ofL (now.getD i []), c = ((i : Int), e.1, e.2) ∧ askL (ofL (was.getD i [])) e.1 < e.2 := by
  unfold diffL
  rw [List.mem_filter, ch_mem]
  constructor
  · rintro ⟨⟨i, hi, e, he, rfl⟩, h⟩
    rw [at_map] at he
    dsimp only at h
    rw [lsAt_nat, at_map, decide_eq_true_eq] at h
    exact ⟨i, hi, e, he, rfl, h⟩
  · rintro ⟨i, hi, e, he, rfl, h⟩
    refine ⟨⟨i, hi, e, by rw [at_map]; exact he, rfl⟩, ?_⟩
    dsimp only
    rw [lsAt_nat, at_map, decide_eq_true_eq]
    exact h
/-- all that has risen since a book, put into one that is as it, is the book now -/
theorem back_at {cop old now : List (List En)} (hU : ∀ l ∈ cop, UE l) (hn : ∀ i, Tight (now.getD i [])) (he : ∀ i, ofL (cop.getD i []) = ofL (old.getD i [])) (hm : ∀ i t, askL (ofL (old.getD i [])) t ≤ askL (now.getD i []) t) (hl : now.length ≤ 64) (i : Nat) :
    (applyL cop (diffL old now)).getD i [] = now.getD i [] := by
  refine (apply_tight hU (fun c hc => ?_) i).ext (hn i) (fun t _ => ask_eq (fun x => ?_))
  · obtain ⟨j, _, e, hej, rfl, _⟩ := diff_mem.1 hc
    rw [(hn j).of_self] at hej
    exact ((hn j).ok e hej).1
  · rw [apply_ask, he i]
    constructor
    · rintro (h | ⟨c, hc, h1, h2, h3, h4, h5, h6⟩)
      · exact Int.le_trans h (hm i t)
      · obtain ⟨j, _, e, hej, rfl, _⟩ := diff_mem.1 hc
        dsimp only at h1 h3 h4 h5 h6
        obtain rfl : j = i := by omega
        rw [(hn j).of_self] at hej
        exact ask_ge.2 (.inr ⟨e, hej, h5, h6⟩)
    · intro h
      rcases ask_ge.1 h with h0 | ⟨e, hej, h5, h6⟩
      · exact .inl (Int.le_trans h0 (ask_nonneg _ _))
      · by_cases hr : askL (ofL (old.getD i [])) e.1 < e.2
        · have hne : now.getD i [] ≠ [] := fun h0 => by rw [h0] at hej; simp at hej
          have hi := (at_mem hne).1
          have hok := (hn i).ok e hej
          exact .inr ⟨((i : Int), e.1, e.2), diff_mem.2 ⟨i, hi, e, by rw [(hn i).of_self]; exact hej, rfl, hr⟩, rfl, by omega, hok.2.1, hok.2.2.2, h5, h6⟩
        · have := ask_mono (ofL (old.getD i [])) h5
          left
          omega
theorem apply_mono {old : List (List En)} {cs : List Ch} (i : Nat) (t : Int) : askL (ofL (old.getD i [])) t ≤ askL ((applyL old cs).getD i []) t := apply_ask.2 (.inl (Int.le_refl _))
theorem apply_len64 {old : List (List En)} {cs : List Ch} (hl : old.length ≤ 64) : (applyL old cs).length ≤ 64 := by
  by_cases h : (applyL old cs).length ≤ 64
  · exact h
  · rcases apply_len.1 (show 64 < (applyL old cs).length by omega) with h | ⟨c, _, h1, h2, h3⟩ <;> omega
end Go.Proofs.Ytnlhgnioedalpaa.Pri

/- delta: a row of changes behind a cell, while all of a book comes. -/
set_option linter.unusedSimpArgs false
set_option linter.unusedVariables false
namespace Go.Proofs.Ytnlhgnioedalpaa.Pri
open Go.RowKit Go.Proofs.YtnlhgnioedalpaaW.PrintWords Go.Proofs.Ytnlhgnioedalpaa.PPricePlays Go.Maps
open Go.Proofs.Ytnlhgnioedalpaa.Cod (PC cP3 cP3_length pc_own infoC grown_own KTy.setOther)
attribute [local go_sem] Oper.semAt_some

abbrev tCs : TypeId := 80
abbrev tBk : TypeId := 122
theorem ko_row {A B : World} {row : Option Nat} (hg : A.grownBy B row) (hr : ∀ r, row = some r → ∃ cs e fr, A.heap[r]? = some (.cells cs e fr)) : KeepsOthers A B :=
  ⟨hg.size, fun k o ha ho => (hg.block k (Array.getElem?_eq_some_iff.1 ha).1 (fun e => by
    obtain ⟨cs, t, fr, h⟩ := hr k e.symm
    rw [ha] at h
    cases h
    simp [Obj.isCells] at ho)).trans ha⟩
theorem kty_row {A B : World} {row : Option Nat} {t u : TypeId} (hg : A.grownBy B row) (hr : ∀ r, row = some r → ∃ cs fr, A.heap[r]? = some (.cells cs u fr)) (ht : t ≠ u) : KTy t A B :=
  ⟨hg.size, fun b cs fr hb => (hg.block b (Array.getElem?_eq_some_iff.1 hb).1 (fun e => by
    obtain ⟨cs', fr', h⟩ := hr b e.symm
    rw [hb] at h
    injection h with h
    injection h with _ h2
    exact ht h2)).trans hb⟩
/-- changes behind a cell of the walk's own; nothing else is written -/
structure DI (w3 : World) (b6 : Nat) (L : List Ch) (A : Option Addr) (c : Nat) (W' : World) : Prop where
  b : Blk W' b6 tCs [.slice A L.length c]
  own : W'.ownsRow w3.heap.size tC 3 (.slice A L.length c) L.length (cellsOf cP3 L)
  g : w3.grownBy W' (some b6)
theorem DI.start {w3 : World} {b6 : Nat} (h : Blk w3 b6 tCs [.slice none 0 0]) : DI w3 b6 [] none 0 w3 := ⟨h, World.ownsRow_nil _ _ _ _, below_gb (Below.refl _ w3)⟩
theorem DI.row {w3 : World} {b6 : Nat} {L : List Ch} {A : Option Addr} {c : Nat} {X Y : World} {row : Option Nat} (h : DI w3 b6 L A c X) (hg : X.grownBy Y row) (hr : ∀ r, row = some r → w3.heap.size ≤ r ∧ ∃ o : Obj, X.heap[r]? = some o ∧ o.isCells = false) : DI w3 b6 L A c Y :=
  ⟨blk_row1 h.b hg (fun r e => (hr r e).2), own_row h.own hg (fun r e => (hr r e).2), grown_own h.g hg (fun r e => (hr r e).1)⟩
theorem DI.below {w3 : World} {b6 : Nat} {L : List Ch} {A : Option Addr} {c : Nat} {X Y : World} (h : DI w3 b6 L A c X) (hb : Below X.heap.size X Y) : DI w3 b6 L A c Y := h.row (gb_none hb) (fun r e => by cases e)
theorem DI.blk {w3 : World} {b6 : Nat} {L : List Ch} {A : Option Addr} {c : Nat} {X : World} (h : DI w3 b6 L A c X) {b : Nat} {t : TypeId} {l : List Value} (hb : Blk w3 b t l) (hn : b ≠ b6) : Blk X b t l := hb.kept h.g (by simpa using hn)
theorem DI.push {w3 : World} {b6 : Nat} {L : List Ch} {A : Option Addr} {c : Nat} {X Y : World} {v9 : Value} {q : Ch} (h : DI w3 b6 L A c X) (hown : Y.ownsRow w3.heap.size tC 3 v9 (L.length + 1) (cellsOf cP3 L ++ cP3 q)) (hg : X.grownBy Y (Value.slice A L.length c).ownBlock) :
    (∃ A9 c9, DI w3 b6 (L ++ [q]) A9 c9 (Y.setCell ⟨b6, 0, none⟩ v9)) ∧ KeepsOthers X (Y.setCell ⟨b6, 0, none⟩ v9) ∧ ∀ t, AllTs t → KTy t X (Y.setCell ⟨b6, 0, none⟩ v9) := by
  have hne := own_apart h.b h.own (by decide)
  have hbY : Blk Y b6 tCs [.slice A L.length c] := h.b.kept hg (Ne.symm hne)
  obtain ⟨A9, c9, rfl⟩ := own_sl hown
  have hn2 := own_apart hbY hown (by decide)
  have hrow : ∀ r, (Value.slice A L.length c).ownBlock = some r → w3.heap.size ≤ r ∧ ∃ cs fr, X.heap[r]? = some (.cells cs tC fr) := own_typ h.own
  refine ⟨⟨A9, c9, ?_, ?_, ?_⟩, (ko_row hg (fun r e => by obtain ⟨_, cs, fr, hh⟩ := hrow r e; exact ⟨cs, _, fr, hh⟩)).trans (KeepsOthers.setCell _ _ _), fun t ht => (kty_row hg (fun r e => (hrow r e).2) ?_).trans (KTy.setOther hbY ?_ _)⟩
  · have := hbY.set 0 (.slice A9 (L.length + 1) c9)
    rw [List.length_append]
    exact this
  · rw [List.length_append, cellsOf_append, cellsOf_one]
    exact own_setCell hown hn2 0 _
  · exact gb_trans (grown_own h.g hg (fun r e => (hrow r e).1)) (grownBy_setAt Y b6 0 _)
  · rcases ht with rfl | rfl | rfl <;> decide
  · rcases ht with rfl | rfl | rfl <;> decide
theorem ch_len {ls : List (List En)} {m : Nat} (h : ∀ l ∈ ls, l.length ≤ m) : ∀ k, (chT ls k).length ≤ k * m
  | 0 => by unfold chT; simp
  | k + 1 => by
    rw [chT_succ, List.length_append, List.length_map, Nat.add_mul]
    have := ch_len h k
    have h2 : (ls.getD k []).length ≤ m := by
      by_cases h0 : ls.getD k [] = []
      · rw [h0]; simp
      · exact h _ (at_mem h0).2
    omega
theorem ch_u {now : List (List En)} (hU : ∀ l ∈ now, UE l) {k : Nat} {q : Ch} (h : q ∈ chT (now.map ofL) k) : U q.2.1 := by
  obtain ⟨i, _, e, he, rfl⟩ := ch_mem.1 h
  rw [at_map] at he
  exact ((tight_ofL (at_ue hU i)).ok e he).1
/-! and where the cell holds a number -/
theorem BK.one {B : Nat} {ps : List Nat} {ls : List (List En)} {o : Value} {A C : World} {b : Nat} {t : TypeId} {x : Value} (h : BK B ps ls o A) (hb : Blk A b t [x]) (ht : tS ≠ t) (ht2 : t ≠ tP) (hx : ∀ z, x ≠ .int .u64 z) (hg : A.grownBy C (some b)) : BK B ps ls o C := by
  refine ⟨h.n, h.nd, fun p hp => ⟨(h.lt p hp).1, Nat.lt_of_lt_of_le (h.lt p hp).2 hg.size⟩, h.own.kept hg ?_, h.st.one hb ht hx hg⟩
  cases hv : o.ownBlock with
  | none => exact .inl rfl
  | some q => exact .inr (fun e => own_apart hb h.own ht2 (hv.trans e))
theorem BV.one {B : Nat} {ps : List Nat} {vs : List Value} {ls : List (List En)} {o : Value} {A C : World} {b : Nat} {t : TypeId} {x : Value} (h : BV ps vs ls o A) (hK : BK B ps ls o A) (hb : Blk A b t [x]) (ht : tS ≠ t) (ht2 : t ≠ tP) (hx : ∀ z, x ≠ .int .u64 z) (hg : A.grownBy C (some b)) : BV ps vs ls o C := by
  have hKC := hK.one hb ht ht2 hx hg
  obtain ⟨Ao, co, rfl, hq⟩ := h
  refine ⟨Ao, co, rfl, fun i l hl => ?_⟩
  obtain ⟨g, p, v, e, hp, hv, hgl, c1, c2, hpe⟩ := hq i l hl
  obtain ⟨g', c', p', e', hp', hc', hS', hg'⟩ := hKC.at hl
  rw [hp] at hp'
  cases hp'
  subst e
  injection e' with e1 _ _
  injection e1 with e1
  injection e1 with e1 _
  subst e1
  obtain ⟨g2, c3, p2, _, hp2, _, hS2, _⟩ := hK.at hl
  rw [hp] at hp2
  cases hp2
  obtain ⟨v2, kb, _⟩ := hS2.pr
  have hvv : v2 = v := by have := kb.cell (i := 0) rfl; rw [c2] at this; injection this with this; exact this.symm
  have kb' := kb.kept hg (by have := blk_ne kb hb ht; simpa using this)
  exact ⟨g, p, v, rfl, hp, hv, hg', hc', by rw [← hvv]; exact kb'.cell rfl, hpe.one hb hx hg⟩
end Go.Proofs.Ytnlhgnioedalpaa.Pri
