/- ChkR, PriR, PriceClones, laid together. -/
import Derived.Test.YtnlhgnioedalpaaGr06
import Derived.BigRegionIn
import Derived.Test.YtnlhgnioedalpaaPPricePlaysx5
import Derived.Test.YtnlhgnioedalpaaPPricePlaysx6

/- check: the report. -/
set_option linter.unusedSimpArgs false
set_option linter.unusedVariables false
namespace Go.Proofs.Ytnlhgnioedalpaa.Pri
open Go.RowKit Go.Proofs.YtnlhgnioedalpaaW.PrintWords Go.Proofs.Ytnlhgnioedalpaa.PPricePlays Go.Maps
attribute [local go_sem] Oper.semAt_some

/-- the slice v reads as slices that read as the lists of L -/
def PEE (W : World) (v : Value) (L : List (List En)) : Prop := ∃ A c, v = .slice A L.length c ∧ ∀ (i : Nat) l, L[i]? = some l → ∃ b off A1 c1, A = some ⟨b, off, none⟩ ∧ b < W.heap.size ∧ W.cell? ⟨b, off + i, none⟩ = some (.slice A1 l.length c1) ∧ PE W (.slice A1 l.length c1) l
theorem PEE.below {W W' : World} {v : Value} {L : List (List En)} (h : PEE W v L) (hb : Below W.heap.size W W') : PEE W' v L := by
  obtain ⟨A, c, rfl, h1⟩ := h
  refine ⟨A, c, rfl, fun i l hl => ?_⟩
  obtain ⟨b, off, A1, c1, e, hlt, hc, hp⟩ := h1 i l hl
  exact ⟨b, off, A1, c1, e, Nat.lt_of_lt_of_le hlt hb.size, (hb.cell (p := ⟨b, off + i, none⟩) hlt).trans hc, hp.below hb⟩
/-- the slice v reads as pointers to stores, or nil -/
def PS (W : World) (v : Value) (S : List (Option (Nat × List En))) : Prop := ∃ A c, v = .slice A S.length c ∧ ∀ (i : Nat) o, S[i]? = some o → ∃ b off, A = some ⟨b, off, none⟩ ∧ b < W.heap.size ∧ W.cell? ⟨b, off + i, none⟩ = some (.pointer (o.map (fun q => ⟨q.1, 0, none⟩))) ∧ ∀ q, o = some q → SR W q.1 q.2
theorem PS.below {W W' : World} {v : Value} {S : List (Option (Nat × List En))} (h : PS W v S) (hb : Below W.heap.size W W') : PS W' v S := by
  obtain ⟨A, c, rfl, h1⟩ := h
  refine ⟨A, c, rfl, fun i o ho => ?_⟩
  obtain ⟨b, off, e, hlt, hc, hp⟩ := h1 i o ho
  exact ⟨b, off, e, Nat.lt_of_lt_of_le hlt hb.size, (hb.cell (p := ⟨b, off + i, none⟩) hlt).trans hc, fun q hq => (hp q hq).below hb⟩
theorem PEE.at {W : World} {v : Value} {L : List (List En)} (h : PEE W v L) {k : Nat} {l : List En} (hl : L[k]? = some l) : ∃ b off c A1 c1, v = .slice (some ⟨b, off, none⟩) L.length c ∧ b < W.heap.size ∧ W.cell? ⟨b, off + k, none⟩ = some (.slice A1 l.length c1) ∧ PE W (.slice A1 l.length c1) l := by
  obtain ⟨A, c, rfl, h1⟩ := h
  obtain ⟨b, off, A1, c1, rfl, hlt, hc, hp⟩ := h1 k l hl
  exact ⟨b, off, c, A1, c1, rfl, hlt, hc, hp⟩
end Go.Proofs.Ytnlhgnioedalpaa.Pri

/- price: the document's functions in plain words. -/
set_option linter.unusedSimpArgs false
set_option linter.unusedVariables false
namespace Go.Proofs.Ytnlhgnioedalpaa.Pri
open Go.RowKit Go.Proofs.YtnlhgnioedalpaaW.PrintWords Go.Proofs.Ytnlhgnioedalpaa.PPricePlays
attribute [local go_sem] Oper.semAt_some

theorem has_l0 (b : Nat) : ∀ e i (n : Nat), i + e = b → n < 18446744073709551616 → b < 64 → Ev (fun k => saleroomref02_Has.l0 k (n : Int) (b : Int) (i : Int)) (n.testBit e) := by
  intro e
  induction e with
  | zero =>
    intro i n hi hn hb
    have e1 : n.testBit 0 = (Int.tmod (n : Int) 2 == 1) := by
      rw [Nat.testBit_zero, Int.tmod_eq_emod_of_nonneg (by omega), Bool.eq_iff_iff, decide_eq_true_eq, beq_iff_eq]
      omega
    rw [e1]
    refine Ev.step (f := fun _ => some (Int.tmod (n : Int) 2 == 1)) (fun k => ?_) (Ev.now _)
    simp only [saleroomref02_Has.l0]
    rw [if_neg (by omega)]
  | succ e ih =>
    intro i n hi hn hb
    rw [Nat.testBit_succ]
    refine Ev.step (f := fun k => saleroomref02_Has.l0 k ((n / 2 : Nat) : Int) (b : Int) ((i + 1 : Nat) : Int)) (fun k => ?_) (ih (i + 1) (n / 2) (by omega) (by omega) hb)
    simp only [saleroomref02_Has.l0]
    rw [if_pos (by omega), wrap_succ (by omega), IntKind.wrap_u64, Int.tdiv_eq_ediv_of_nonneg (by omega)]
    congr 1
    omega
theorem has_ev {s : Int} (hs : U s) {i : Nat} (hi : i < 64) : Ev (fun k => saleroomref02_Has.f k s (i : Int)) (s.toNat.testBit i) := by
  have h := has_l0 i i 0 s.toNat (by omega) (by have := hs.2; have := hs.1; omega) hi
  rw [Int.toNat_of_nonneg hs.1] at h
  have h2 : Ev (fun k => saleroomref02_Has.j0 k s (i : Int) false) (s.toNat.testBit i) := by
    refine Ev.step (f := fun k => saleroomref02_Has.l0 k s (i : Int) 0) (fun k => ?_) h
    simp only [saleroomref02_Has.j0]
    rw [if_neg (by simp)]
  refine Ev.congr (fun k => ?_) h2
  simp only [saleroomref02_Has.f]
  rw [if_neg (by omega), decide_eq_false (by omega)]
theorem range_drop {i n : Nat} (h : i < n) : (List.range n).drop i = i :: (List.range n).drop (i + 1) := by
  rw [List.drop_eq_getElem_cons (by simpa using h)]
  simp
theorem within_ev {a b : Int} (ha : U a) (hb : U b) : Ev (fun k => saleroomref02_Within.f k a b) (wi a b) := by
  have key : ∀ e i : Nat, i + e = 64 → Ev (fun k => saleroomref02_Within.l0 k a b (i : Int)) (((List.range 64).drop i).all (fun i => !(a.toNat.testBit i) || b.toNat.testBit i)) := by
    intro e
    induction e with
    | zero =>
      intro i hi
      rw [List.drop_eq_nil_of_le (by simp; omega), List.all_nil]
      refine Ev.step (f := fun _ => some true) (fun k => ?_) (Ev.now _)
      simp only [saleroomref02_Within.l0]
      rw [if_neg (by omega)]
    | succ e ih =>
      intro i hi
      rw [range_drop (by omega), List.all_cons]
      refine Ev.step (f := fun k => (saleroomref02_Has.f k a (i : Int)).bind fun t122 => (if t122 = true then ((saleroomref02_Has.f k b (i : Int)).bind fun t123 => (if t123 = true then (saleroomref02_Within.l0 k a b ((i + 1 : Nat) : Int)) else (some false))) else (saleroomref02_Within.l0 k a b ((i + 1 : Nat) : Int)))) (fun k => ?_) (Ev.bind (has_ev ha (by omega)) ?_)
      · simp only [saleroomref02_Within.l0]
        rw [if_pos (by omega), wrap_succ (by omega)]
      · cases h1 : a.toNat.testBit i with
        | false =>
          refine Ev.congr (fun k => if_neg (by decide)) ?_
          simpa using ih (i + 1) (by omega)
        | true =>
          refine Ev.congr (fun k => if_pos rfl) (Ev.bind (has_ev hb (by omega)) ?_)
          cases h2 : b.toNat.testBit i with
          | false => exact Ev.congr (fun k => if_neg (by decide)) (Ev.now _)
          | true =>
            refine Ev.congr (fun k => if_pos rfl) ?_
            simpa using ih (i + 1) (by omega)
  exact key 64 0 rfl
theorem rask_ev (l : List En) (s : Int) (hU : UE l) (hs : U s) (hl : l.length ≤ 1099511627776) : Ev (fun k => saleroomref11_Ask.f k (l.map toE) s) (askL l s) := by
  have key : ∀ e i (o : Int), i + e = l.length → Ev (fun k => saleroomref11_Ask.l0 k (l.map toE) s o (i : Int)) ((l.drop i).foldl (fun o e => if wi e.1 s = true then max o e.2 else o) o) := by
    intro e
    induction e with
    | zero =>
      intro i o hi
      rw [List.drop_eq_nil_of_le (by omega), List.foldl_nil]
      refine Ev.step (f := fun _ => some o) (fun k => ?_) (Ev.now _)
      simp only [saleroomref11_Ask.l0, List.length_map]
      rw [if_neg (by omega)]
    | succ e ih =>
      intro i o hi
      have hil : i < l.length := by omega
      rw [show l.drop i = l[i] :: l.drop (i + 1) from (List.getElem_cons_drop ..).symm, List.foldl_cons]
      refine Ev.step (f := fun k => (saleroomref02_Within.f k l[i].1 s).bind fun t125 => (if t125 = true then (if l[i].2 > o then (saleroomref11_Ask.l0 k (l.map toE) s l[i].2 ((i + 1 : Nat) : Int)) else (saleroomref11_Ask.l0 k (l.map toE) s o ((i + 1 : Nat) : Int))) else (saleroomref11_Ask.l0 k (l.map toE) s o ((i + 1 : Nat) : Int)))) (fun k => ?_) (Ev.bind (within_ev (hU _ (List.getElem_mem hil)) hs) ?_)
      · simp only [saleroomref11_Ask.l0, List.length_map]
        rw [if_pos (by omega), if_pos (by omega), rdE l hil, wrap_succ (by omega)]
        rfl
      · cases h1 : wi l[i].1 s with
        | false =>
          refine Ev.congr (fun k => if_neg (by decide)) ?_
          simpa using ih (i + 1) o (by omega)
        | true =>
          refine Ev.congr (fun k => if_pos rfl) ?_
          simp only [if_true]
          by_cases h2 : l[i].2 > o
          · rw [Int.max_eq_right (by omega)]
            exact Ev.congr (fun k => if_pos h2) (ih (i + 1) _ (by omega))
          · rw [Int.max_eq_left (by omega)]
            exact Ev.congr (fun k => if_neg h2) (ih (i + 1) _ (by omega))
  exact key l.length 0 0 (by omega)
def lisL (s : Int) : List Int := ((List.range 64).filter (fun i => s.toNat.testBit i)).map Int.ofNat
theorem lisL_len (s : Int) : (lisL s).length = cnt s := by
  unfold lisL cnt
  rw [List.length_map, List.countP_eq_length_filter]
theorem list_ev {s : Int} (hs : U s) : Ev (fun k => saleroomref02_List.f k s) (lisL s) := by
  have key : ∀ e i (acc : List Int), i + e = 64 → acc.length ≤ i → Ev (fun k => saleroomref02_List.l0 k s acc (i : Int)) (acc ++ (((List.range 64).drop i).filter (fun i => s.toNat.testBit i)).map Int.ofNat) := by
    intro e
    induction e with
    | zero =>
      intro i acc hi hl
      rw [List.drop_eq_nil_of_le (by simp; omega), List.filter_nil, List.map_nil, List.append_nil]
      refine Ev.step (f := fun _ => some acc) (fun k => ?_) (Ev.now _)
      simp only [saleroomref02_List.l0]
      rw [if_neg (by omega)]
    | succ e ih =>
      intro i acc hi hl
      rw [range_drop (by omega)]
      refine Ev.step (f := fun k => (saleroomref02_Has.f k s (i : Int)).bind fun t131 => (if t131 = true then (if acc.length < 17592186044416 then (saleroomref02_List.l0 k s (acc ++ [(i : Int)]) ((i + 1 : Nat) : Int)) else (none)) else (saleroomref02_List.l0 k s acc ((i + 1 : Nat) : Int)))) (fun k => ?_) (Ev.bind (has_ev hs (by omega)) ?_)
      · simp only [saleroomref02_List.l0]
        rw [if_pos (by omega), wrap_succ (by omega)]
      · cases h1 : s.toNat.testBit i with
        | false =>
          refine Ev.congr (fun k => if_neg (by decide)) ?_
          rw [List.filter_cons_of_neg (by simp [h1])]
          exact ih (i + 1) acc (by omega) (by omega)
        | true =>
          refine Ev.congr (fun k => if_pos rfl) ?_
          rw [List.filter_cons_of_pos (by simp [h1]), List.map_cons]
          have := ih (i + 1) (acc ++ [(i : Int)]) (by omega) (by simp; omega)
          rw [List.append_assoc] at this
          exact Ev.congr (fun k => if_pos (by omega)) this
  have := key 64 0 [] rfl (by simp)
  unfold saleroomref02_List.f
  simpa [lisL] using this
def cmpR (a b : Int) : Int := if ltS a b = true then -1 else if ltS b a = true then 1 else 0
theorem cmp_ev {a b : Int} (ha : U a) (hb : U b) : Ev (fun k => saleroomref02_Cmp.f k a b) (cmpR a b) := by
  have hj : ∀ t : Bool, t = ltS a b → Ev (fun k => saleroomref02_Cmp.j0 k a b (cnt a : Int) (cnt b : Int) t) (cmpR a b) := by
    rintro t rfl
    unfold cmpR
    cases h1 : ltS a b with
    | true =>
      refine Ev.step (f := fun _ => some (-1)) (fun k => ?_) (Ev.now _)
      simp only [saleroomref02_Cmp.j0]
      rw [if_pos trivial]
    | false =>
      rw [if_neg (by decide)]
      have h3 : ¬ (cnt a < cnt b ∨ cnt a = cnt b ∧ a < b) := fun h => by rw [ltS_iff.2 h] at h1; cases h1
      cases h2 : ltS b a with
      | true =>
        rw [if_pos rfl]
        have h4 := ltS_iff.1 h2
        refine Ev.step (f := fun _ => some 1) (fun k => ?_) (Ev.now _)
        simp only [saleroomref02_Cmp.j0]
        rw [if_neg (by decide)]
        by_cases h5 : (cnt a : Int) > (cnt b : Int)
        · rw [if_pos h5]
        · rw [if_neg h5, if_pos (by omega)]
      | false =>
        rw [if_neg (by decide)]
        have h4 : ¬ (cnt b < cnt a ∨ cnt b = cnt a ∧ b < a) := fun h => by rw [ltS_iff.2 h] at h2; cases h2
        refine Ev.step (f := fun _ => some 0) (fun k => ?_) (Ev.now _)
        simp only [saleroomref02_Cmp.j0]
        rw [if_neg (by decide), if_neg (by omega), if_neg (by omega)]
  have hb2 : Ev (fun k => (fun (t135 t138 : List Int) => (if (t135.length : Int) < (t138.length : Int) then (saleroomref02_Cmp.j0 k a b (t135.length : Int) (t138.length : Int) true) else (if (t135.length : Int) = (t138.length : Int) then (saleroomref02_Cmp.j0 k a b (t135.length : Int) (t138.length : Int) (decide (a < b))) else (saleroomref02_Cmp.j0 k a b (t135.length : Int) (t138.length : Int) false)))) (lisL a) (lisL b)) (cmpR a b) := by
    dsimp only
    rw [lisL_len, lisL_len]
    by_cases h1 : (cnt a : Int) < (cnt b : Int)
    · exact Ev.congr (fun k => if_pos h1) (hj true (ltS_iff.2 (.inl (by omega))).symm)
    · refine Ev.congr (fun k => if_neg h1) ?_
      by_cases h2 : (cnt a : Int) = (cnt b : Int)
      · refine Ev.congr (fun k => if_pos h2) (hj _ ?_)
        rw [Bool.eq_iff_iff, decide_eq_true_eq, ltS_iff]
        omega
      · refine Ev.congr (fun k => if_neg h2) (hj _ ?_)
        rw [Bool.eq_iff_iff, ltS_iff]
        simp
        omega
  exact Ev.bind (f := fun k t135 => (saleroomref02_List.f k b).bind fun t138 => (if (t135.length : Int) < (t138.length : Int) then (saleroomref02_Cmp.j0 k a b (t135.length : Int) (t138.length : Int) true) else (if (t135.length : Int) = (t138.length : Int) then (saleroomref02_Cmp.j0 k a b (t135.length : Int) (t138.length : Int) (decide (a < b))) else (saleroomref02_Cmp.j0 k a b (t135.length : Int) (t138.length : Int) false)))) (list_ev ha) (Ev.bind (f := fun k t138 => (fun (t135 t138 : List Int) => (if (t135.length : Int) < (t138.length : Int) then (saleroomref02_Cmp.j0 k a b (t135.length : Int) (t138.length : Int) true) else (if (t135.length : Int) = (t138.length : Int) then (saleroomref02_Cmp.j0 k a b (t135.length : Int) (t138.length : Int) (decide (a < b))) else (saleroomref02_Cmp.j0 k a b (t135.length : Int) (t138.length : Int) false)))) (lisL a) t138) (list_ev hb) hb2)
theorem cmpR_neg (a b : Int) : cmpR a b < 0 ↔ ltS a b = true := by
  unfold cmpR
  split
  · simp_all
  · split <;> simp_all
theorem rput_ev (l : List En) (s a : Int) (hU : UE l) (hs : U s) (hl : l.length ≤ 1000000000) : Ev (fun k => saleroomref11_Put.f k (l.map toE) s a) ((putP l s a).map toE, okP l s a) := by
  have key : (∀ e ∈ l, e.1 = s → e.2 ≤ a) → ∀ e i (out : List En) (done : Bool), i + e = l.length → out.length ≤ 2 * i → Ev (fun k => saleroomref11_Put.l0 k (l.map toE) s a (out.map toE) done (i : Int)) ((out ++ (if done = true then delL (l.drop i) s a else insL (delL (l.drop i) s a) s a)).map toE, true) := by
    intro hse e
    induction e with
    | zero =>
      intro i out done hi hlo
      rw [List.drop_eq_nil_of_le (by omega)]
      cases done with
      | true =>
        rw [if_pos rfl, show delL [] s a = [] from rfl, List.append_nil]
        refine Ev.step (f := fun _ => some (out.map toE, true)) (fun k => ?_) (Ev.now _)
        simp only [saleroomref11_Put.l0, List.length_map]
        rw [if_neg (by omega), if_pos trivial]
      | false =>
        rw [if_neg (by decide), show insL (delL [] s a) s a = [(s, a)] from rfl]
        refine Ev.step (f := fun _ => some ((out ++ [(s, a)]).map toE, true)) (fun k => ?_) (Ev.now _)
        simp only [saleroomref11_Put.l0, List.length_map]
        rw [if_neg (by omega), if_neg (by decide), if_pos (by omega)]
        simp [toE]
    | succ e ih =>
      intro i out done hi hlo
      have hil : i < l.length := by omega
      have hme := List.getElem_mem hil
      rw [show l.drop i = l[i] :: l.drop (i + 1) from (List.getElem_cons_drop ..).symm]
      have hj : ∀ t : Bool, t = (wi s l[i].1 && decide (l[i].2 ≤ a)) → Ev (fun k => saleroomref11_Put.j2 k (l.map toE) s a (out.map toE) done (i : Int) t l[i].1 l[i].2) ((out ++ (if done = true then delL (l[i] :: l.drop (i + 1)) s a else insL (delL (l[i] :: l.drop (i + 1)) s a) s a)).map toE, true) := by
        rintro t rfl
        cases ht : (wi s l[i].1 && decide (l[i].2 ≤ a)) with
        | true =>
          rw [show delL (l[i] :: l.drop (i + 1)) s a = delL (l.drop (i + 1)) s a from List.filter_cons_of_neg (by simp [ht])]
          refine Ev.step (f := fun k => saleroomref11_Put.l0 k (l.map toE) s a (out.map toE) done ((i + 1 : Nat) : Int)) (fun k => ?_) (ih (i + 1) out done (by omega) (by omega))
          simp only [saleroomref11_Put.j2]
          rw [if_pos trivial, wrap_succ (by omega)]
        | false =>
          rw [show delL (l[i] :: l.drop (i + 1)) s a = l[i] :: delL (l.drop (i + 1)) s a from List.filter_cons_of_pos (by simp [ht])]
          cases done with
          | true =>
            have h := ih (i + 1) (out ++ [l[i]]) true (by omega) (by simp; omega)
            rw [if_pos rfl, List.append_assoc] at h
            rw [if_pos rfl]
            refine Ev.step (f := fun k => saleroomref11_Put.l0 k (l.map toE) s a ((out ++ [l[i]]).map toE) true ((i + 1 : Nat) : Int)) (fun k => ?_) h
            simp only [saleroomref11_Put.j2, List.length_map]
            rw [if_neg (by decide), if_pos trivial, if_pos (by omega), wrap_succ (by omega), List.map_append]
            rfl
          | false =>
            rw [if_neg (by decide)]
            refine Ev.step (f := fun k => (saleroomref02_Cmp.f k s l[i].1).bind fun t154 => (if t154 < 0 then (saleroomref11_Put.l0 k (l.map toE) s a ((out ++ [(s, a), l[i]]).map toE) true ((i + 1 : Nat) : Int)) else (saleroomref11_Put.l0 k (l.map toE) s a ((out ++ [l[i]]).map toE) false ((i + 1 : Nat) : Int)))) (fun k => ?_) (Ev.bind (cmp_ev hs (hU _ hme)) ?_)
            · simp only [saleroomref11_Put.j2, List.length_map]
              rw [if_neg (by decide), if_neg (by decide), wrap_succ (by omega)]
              congr 1
              funext t154
              by_cases ht0 : t154 < 0
              · rw [if_pos ht0, if_pos ht0, if_pos (by omega)]
                simp only [Option.bind_some, List.length_append, List.length_map, List.length_cons, List.length_nil]
                rw [if_pos (by omega)]
                simp [toE]
              · rw [if_neg ht0, if_neg ht0, if_pos (by omega)]
                simp [toE]
            · by_cases hlt : ltS s l[i].1 = true
              · refine Ev.congr (fun k => if_pos ((cmpR_neg _ _).2 hlt)) ?_
                have h := ih (i + 1) (out ++ [(s, a), l[i]]) true (by omega) (by simp; omega)
                rw [if_pos rfl, List.append_assoc] at h
                rw [show insL (l[i] :: delL (l.drop (i + 1)) s a) s a = (s, a) :: l[i] :: delL (l.drop (i + 1)) s a from by simp only [insL]; rw [if_neg (by rw [ltS_asym hlt]; decide)]]
                exact h
              · refine Ev.congr (fun k => if_neg (fun h => hlt ((cmpR_neg _ _).1 h))) ?_
                have hlt0 : ltS s l[i].1 = false := by simpa using hlt
                have hne : l[i].1 ≠ s := fun h => by
                  have := hse _ hme h
                  rw [h, wi_refl, Bool.true_and, decide_eq_false_iff_not] at ht
                  exact ht this
                have hlt1 : ltS l[i].1 s = true := by
                  cases h : ltS l[i].1 s with
                  | true => rfl
                  | false => exact absurd (ltS_tot h hlt0) hne
                have h := ih (i + 1) (out ++ [l[i]]) false (by omega) (by simp; omega)
                rw [if_neg (by decide), List.append_assoc] at h
                rw [show insL (l[i] :: delL (l.drop (i + 1)) s a) s a = l[i] :: insL (delL (l.drop (i + 1)) s a) s a from by simp only [insL]; rw [if_pos hlt1]]
                exact h
      refine Ev.step (f := fun k => (saleroomref02_Within.f k s l[i].1).bind fun t150 => (if t150 = true then (saleroomref11_Put.j2 k (l.map toE) s a (out.map toE) done (i : Int) (decide (l[i].2 ≤ a)) l[i].1 l[i].2) else (saleroomref11_Put.j2 k (l.map toE) s a (out.map toE) done (i : Int) false l[i].1 l[i].2))) (fun k => ?_) (Ev.bind (within_ev hs (hU _ hme)) ?_)
      · simp only [saleroomref11_Put.l0, List.length_map]
        rw [if_pos (by omega), if_pos (by omega), rdE l hil]
        rfl
      · cases hw : wi s l[i].1 with
        | true => exact Ev.congr (fun k => if_pos rfl) (hj _ (by rw [hw, Bool.true_and]))
        | false => exact Ev.congr (fun k => if_neg (by decide)) (hj _ (by rw [hw, Bool.false_and]))
  have hno : ∀ t : Bool, t = true → okP l s a = false → Ev (fun k => saleroomref11_Put.j0 k (l.map toE) s a t) ((putP l s a).map toE, okP l s a) := by
    rintro t rfl h
    have hp : putP l s a = l := by unfold putP; rw [h]; rfl
    rw [h, hp]
    refine Ev.step (f := fun _ => some (l.map toE, false)) (fun k => ?_) (Ev.now _)
    simp only [saleroomref11_Put.j0]
    rw [if_pos trivial]
  unfold saleroomref11_Put.f
  by_cases h0 : s = 0
  · exact Ev.congr (fun k => if_pos h0) (hno true rfl (by unfold okP; simp [h0]))
  · refine Ev.congr (fun k => if_neg h0) ?_
    by_cases h1 : a > 2199023255552
    · exact Ev.congr (fun k => if_pos h1) (hno true rfl (by unfold okP most; simp; omega))
    · refine Ev.congr (fun k => if_neg h1) (Ev.bind (rask_ev l s hU hs (by omega)) ?_)
      by_cases h2 : a ≤ askL l s
      · exact hno _ (decide_eq_true h2) (by unfold okP; simp; omega)
      · rw [decide_eq_false h2]
        have hok : okP l s a = true := ok_iff.2 ⟨h0, by unfold most; omega, by omega⟩
        have hp : putP l s a = insL (delL l s a) s a := by unfold putP; rw [hok]; rfl
        rw [hok, hp]
        refine Ev.step (f := fun k => saleroomref11_Put.l0 k (l.map toE) s a [] false 0) (fun k => ?_) ?_
        · simp only [saleroomref11_Put.j0]
          rw [if_neg (by decide)]
        · have := key (fun e he hes => by
            have : e.2 ≤ askL l s := ask_ge.2 (.inr ⟨e, he, by rw [hes]; exact wi_refl s, Int.le_refl _⟩)
            omega) l.length 0 [] false (by omega) (by simp)
          simpa using this
theorem rof_ev (l : List En) (hU : UE l) (hl : l.length ≤ 1000000) : Ev (fun k => saleroomref11_Of.f k (l.map toE)) ((ofL l).map toE) := by
  have key : ∀ e i, i + e = l.length → Ev (fun k => saleroomref11_Of.l0 k (l.map toE) ((ofL (l.take i)).map toE) (i : Int)) ((ofL l).map toE) := by
    intro e
    induction e with
    | zero =>
      intro i hi
      rw [List.take_of_length_le (by omega)]
      refine Ev.step (f := fun _ => some ((ofL l).map toE)) (fun k => ?_) (Ev.now _)
      simp only [saleroomref11_Of.l0, List.length_map]
      rw [if_neg (by omega)]
    | succ e ih =>
      intro i hi
      have hil : i < l.length := by omega
      have hut : UE (ofL (l.take i)) := fun e he => ((tight_ofL (es := l.take i) (fun e he => hU e (List.mem_of_mem_take he))).ok e he).1
      have hlen : (ofL (l.take i)).length ≤ 1000000000 := by
        have h1 : ∀ (es o : List En), (es.foldl (fun o e => putP o e.1 e.2) o).length ≤ o.length + es.length := by
          intro es
          induction es with
          | nil => intro o; simp
          | cons e es ih => intro o; have := ih (putP o e.1 e.2); have := put_len o e.1 e.2; simp only [List.foldl_cons, List.length_cons]; omega
        have := h1 (l.take i) []
        have h3 : (l.take i).length ≤ l.length := by rw [List.length_take]; omega
        unfold ofL
        simp at this
        omega
      have h2 := ih (i + 1) (by omega)
      rw [ofL_take hil, show l.getD i dE = l[i] from by simp [List.getD, hil]] at h2
      refine Ev.step (f := fun k => (saleroomref11_Put.f k ((ofL (l.take i)).map toE) l[i].1 l[i].2).bind fun bt178 => (saleroomref11_Of.l0 k (l.map toE) bt178.1 ((i + 1 : Nat) : Int))) (fun k => ?_) (Ev.bind (rput_ev _ _ _ hut (hU _ (List.getElem_mem hil)) hlen) h2)
      simp only [saleroomref11_Of.l0, List.length_map]
      rw [if_pos (by omega), if_pos (by omega), rdE l hil, wrap_succ (by omega)]
      rfl
  exact key l.length 0 (by omega)
theorem rsame_ev (l m : List En) (hl : l.length ≤ 1099511627776) : Ev (fun k => saleroomref11_Same.f k (l.map toE) (m.map toE)) (decide (l = m)) := by
  have key : l.length = m.length → ∀ e i, i + e = l.length → Ev (fun k => saleroomref11_Same.l0 k (l.map toE) (m.map toE) (i : Int)) (decide (l.drop i = m.drop i)) := by
    intro he e
    induction e with
    | zero =>
      intro i hi
      rw [List.drop_eq_nil_of_le (show l.length ≤ i by omega), List.drop_eq_nil_of_le (show m.length ≤ i by omega), decide_eq_true rfl]
      refine Ev.step (f := fun _ => some true) (fun k => ?_) (Ev.now _)
      simp only [saleroomref11_Same.l0, List.length_map]
      rw [if_neg (by omega)]
    | succ e ih =>
      intro i hi
      have hil : i < l.length := by omega
      have him : i < m.length := by omega
      have e1 : l.drop i = l[i] :: l.drop (i + 1) := (List.getElem_cons_drop ..).symm
      have e2 : m.drop i = m[i] :: m.drop (i + 1) := (List.getElem_cons_drop ..).symm
      by_cases h : l[i] = m[i]
      · have hd : decide (l.drop i = m.drop i) = decide (l.drop (i + 1) = m.drop (i + 1)) := decide_eq_decide.2 (by rw [e1, e2, h]; exact ⟨fun q => (List.cons.inj q).2, fun q => by rw [q]⟩)
        rw [hd]
        refine Ev.step (f := fun k => saleroomref11_Same.l0 k (l.map toE) (m.map toE) ((i + 1 : Nat) : Int)) (fun k => ?_) (ih (i + 1) (by omega))
        simp only [saleroomref11_Same.l0, List.length_map]
        rw [if_pos (by omega), if_pos (by omega), if_pos (by omega), rdE l hil, rdE m him, h, if_neg (by simp), wrap_succ (by omega)]
      · have hd : decide (l.drop i = m.drop i) = false := by rw [e1, e2]; exact decide_eq_false (fun q => h (List.cons.inj q).1)
        rw [hd]
        refine Ev.step (f := fun _ => some false) (fun k => ?_) (Ev.now _)
        simp only [saleroomref11_Same.l0, List.length_map]
        rw [if_pos (by omega), if_pos (by omega), if_pos (by omega), rdE l hil, rdE m him, if_pos]
        have : ¬ (l[i].1 = m[i].1 ∧ l[i].2 = m[i].2) := fun hh => h (Prod.ext hh.1 hh.2)
        simp only [toE]
        by_cases h1 : l[i].1 = m[i].1
        · have h2 : ¬ l[i].2 = m[i].2 := fun hh => this ⟨h1, hh⟩
          simp [h1, h2]
        · simp [h1]
  by_cases he : l.length = m.length
  · refine Ev.congr (fun k => ?_) (key he l.length 0 (by omega))
    simp only [saleroomref11_Same.f, List.length_map]
    rw [if_pos (by omega)]
    rfl
  · have hd : decide (l = m) = false := by simp; intro h; exact he (congrArg List.length h)
    rw [hd]
    refine Ev.congr (fun k => ?_) (Ev.now (r := false))
    simp only [saleroomref11_Same.f, List.length_map]
    rw [if_neg (by omega)]

/-! the contracts -/
theorem rask_any (W : World) (v : Value) (l : List En) (s : Int) (h : PE W v l) (hU : UE l) (hs : U s) (hl : l.length ≤ 1099511627776) :
    Calls Try.prog 22 #[v, .int .u64 s] W fun e w' => e = .returned (.int .i64 (askL l s)) ∧ Below W.heap.size W w' := by
  obtain ⟨A, c, rfl, h1, _, h2⟩ := h
  obtain ⟨n, hn⟩ := (rask_ev l s hU hs hl).rounds
  have := saleroomref11_Ask.calls n A c (l.map toE) s (askL l s) W (by rw [List.length_map]; exact h2) (by rw [List.length_map]; exact h1) hn
  rw [List.length_map] at this
  exact this.mono fun e w' ⟨x, y⟩ => ⟨x, y.below⟩
theorem rsame_any (W : World) (v u : Value) (l m : List En) (h : PE W v l) (k : PE W u m) (hl : l.length ≤ 1099511627776) :
    Calls Try.prog 16 #[v, u] W fun e w' => e = .returned (.bool (decide (l = m))) ∧ Below W.heap.size W w' := by
  obtain ⟨A, c, rfl, h1, _, h2⟩ := h
  obtain ⟨B, d, rfl, k1, _, k2⟩ := k
  obtain ⟨n, hn⟩ := (rsame_ev l m hl).rounds
  have := saleroomref11_Same.calls n A c (l.map toE) B d (m.map toE) (decide (l = m)) W (by rw [List.length_map]; exact h2) (by rw [List.length_map]; exact h1) (by rw [List.length_map]; exact k2) (by rw [List.length_map]; exact k1) hn
  rw [List.length_map, List.length_map] at this
  exact this.mono fun e w' ⟨x, y⟩ => ⟨x, y.below⟩
/-- a row of the reference's own is entries -/
theorem pe_R {W : World} {base : Nat} {ok : Nat → Prop} {v : Value} {l : List En} (h : Kd.R k41 41 W base ok v (l.map toE)) : PE W v l := by
  obtain ⟨A, c, rfl, h1, h2⟩ := Kd.R_reads h
  refine ⟨A, c, by rw [List.length_map], by rw [List.length_map] at h1; exact h1, fun e => ?_, by rw [List.length_map] at h2; exact h2⟩
  obtain ⟨_, inner, ho, _⟩ := h
  subst e
  rcases ho.2 with ⟨h3, _⟩ | ⟨g, cap, cur, h3, _⟩
  · injection h3
  · cases h3
theorem rof_any (W : World) (v : Value) (l : List En) (h : PE W v l) (hU : UE l) (hl : l.length ≤ 1000000) :
    Calls Try.prog 24 #[v] W fun e w' => ∃ v0, e = .returned v0 ∧ PE w' v0 (ofL l) ∧ Below W.heap.size W w' := by
  obtain ⟨A, c, rfl, h1, _, h2⟩ := h
  obtain ⟨n, hn⟩ := (rof_ev l hU hl).rounds
  have := saleroomref11_Of.calls n A c (l.map toE) _ W (by rw [List.length_map]; exact h2) (by rw [List.length_map]; exact h1) hn
  rw [List.length_map] at this
  exact this.mono fun e w' ⟨v0, x, y, z⟩ => ⟨v0, x, pe_R y, z⟩
end Go.Proofs.Ytnlhgnioedalpaa.Pri

/- PriceClones: a clone goes its own way. -/
set_option linter.unusedSimpArgs false
set_option linter.unusedVariables false
namespace Go.Proofs.Ytnlhgnioedalpaa.Pri
open Go.RowKit Go.Proofs.YtnlhgnioedalpaaW.PrintWords Go.Proofs.Ytnlhgnioedalpaa.PPricePlays
attribute [local go_sem] Oper.semAt_some

theorem blk_ne {W : World} {a b : Nat} {t u : TypeId} {l m : List Value} (h : Blk W a t l) (k : Blk W b u m) (hn : t ≠ u) : a ≠ b := fun e => by
  subst e
  exact hn (h.inj k).1
/-- the result's cell and that of the number asked for -/
structure C0 (W : World) (mo : Int) (W' : World) : Prop where
  b5 : Blk W' W.heap.size 3 [.int .i64 mo]
  b6 : Blk W' (W.heap.size + 1) 4 [.bool false]
  bel : Below W.heap.size W W'
theorem C0.below {W : World} {mo : Int} {A B : World} (h : C0 W mo A) (hb : Below A.heap.size A B) : C0 W mo B := ⟨h.b5.belowS hb, h.b6.belowS hb, h.bel.trans (hb.mono h.bel.size)⟩
theorem C0.row {W : World} {mo : Int} {A B : World} (h : C0 W mo A) {row : Option Nat} (hg : A.grownBy B row) (hr : ∀ r, row = some r → W.heap.size ≤ r ∧ ∃ o : Obj, A.heap[r]? = some o ∧ o.isCells = false) : C0 W mo B :=
  have k : RowOk A row := fun r e => (hr r e).2
  ⟨blk_row1 h.b5 hg k, blk_row1 h.b6 hg k, h.bel.grown hg h.bel.size (fun r e => (hr r e).1)⟩
theorem C0.turn {W : World} {mo : Int} {A B : World} {q : Nat} {m : List En} (h : C0 W mo A) (hq : PR A q m) (hw : W.heap.size ≤ q) (hg : A.grownBy B (some q)) : C0 W mo B := by
  obtain ⟨v, hb, _⟩ := hq
  exact ⟨h.b5.kept hg (by have := blk_ne h.b5 hb (by decide); simpa using this), h.b6.kept hg (by have := blk_ne h.b6 hb (by decide); simpa using this), h.bel.grown hg h.bel.size (fun r e => by cases e; exact hw)⟩
/-- and the store, and what it was -/
structure CK (W : World) (p b8 : Nat) (v1 : Value) (P : List En) (mo : Int) (W' : World) : Prop where
  c : C0 W mo W'
  bw : Blk W' b8 tL [v1]
  lt : W.heap.size + 1 < b8
  p : SR W' p P
  v : PE W' v1 P
theorem CK.below {W : World} {p b8 : Nat} {v1 : Value} {P : List En} {mo : Int} {A B : World} (h : CK W p b8 v1 P mo A) (hb : Below A.heap.size A B) : CK W p b8 v1 P mo B :=
  ⟨h.c.below hb, h.bw.belowS hb, h.lt, h.p.below hb, h.v.below hb⟩
theorem CK.row {W : World} {p b8 : Nat} {v1 : Value} {P : List En} {mo : Int} {A B : World} (h : CK W p b8 v1 P mo A) {row : Option Nat} (hg : A.grownBy B row) (hr : ∀ r, row = some r → W.heap.size ≤ r ∧ ∃ o : Obj, A.heap[r]? = some o ∧ o.isCells = false) : CK W p b8 v1 P mo B :=
  have k : RowOk A row := fun r e => (hr r e).2
  ⟨h.c.row hg hr, blk_row1 h.bw hg k, h.lt, h.p.row hg k, h.v.row hg k⟩
theorem CK.turn {W : World} {p b8 q : Nat} {v1 : Value} {P m : List En} {mo : Int} {A B : World} (h : CK W p b8 v1 P mo A) (hq : SR A q m) (hw : W.heap.size ≤ q) (hne : p ≠ q) (hg : A.grownBy B (some q)) : CK W p b8 v1 P mo B := by
  have h2 := h.p.turn hq hne hg
  have h1 := h.c.turn hq.pr hw hg
  obtain ⟨u, hb, hpe⟩ := hq.pr
  obtain ⟨A2, c2, rfl, -⟩ := hpe
  exact ⟨h1, h.bw.kept hg (by have := blk_ne h.bw hb (by decide); simpa using this), h.lt, h2, h.v.turn hb hg⟩
theorem PE.one {W W' : World} {v : Value} {l : List En} {b : Nat} {t : TypeId} {x : Value} (h : PE W v l) (hb : Blk W b t [x]) (hx : ∀ z, x ≠ .int .u64 z) (hg : W.grownBy W' (some b)) : PE W' v l := by
  have hat := fun j q (hj : l[j]? = some q) => h.at hj
  obtain ⟨A, c, rfl, h1, h2, h3⟩ := h
  refine ⟨A, c, rfl, h1, h2, h3.1, h3.2.1, fun hpos => ?_⟩
  obtain ⟨a, rfl, hr⟩ := h3.2.2 hpos
  obtain ⟨b', off, c', e, hlt, r0, _⟩ := hat 0 _ (List.getElem?_eq_getElem (by simpa using hpos))
  injection e with e _ _
  injection e with e
  subst e
  have hne : b' ≠ b := fun e => by
    subst e
    have hrow := cell_of_row W b' (off + 0 * 2) [x].toArray t (0, 0) hb
    rw [hrow] at r0
    obtain ⟨o, ho⟩ : ∃ o, off + 0 * 2 = o := ⟨_, rfl⟩
    rw [ho] at r0
    cases o with
    | zero => exact hx _ (by simpa using r0)
    | succ o => simp at r0
  refine ⟨_, rfl, fun j q hq => ?_⟩
  obtain ⟨cs, hl, hk, hc⟩ := hr j q hq
  obtain rfl := k41_open hk
  refine ⟨_, hl, k41_mk W' q, fun i u hu => ?_⟩
  have hcu := hc i u hu
  rw [addr_add] at hcu ⊢
  have e : W'.cell? ⟨b', off + (j * k41.sz + i), none⟩ = W.cell? ⟨b', off + (j * k41.sz + i), none⟩ := by
    unfold World.cell?
    rw [hg.block _ hlt (by simpa using hne)]
  rw [e]; exact hcu
theorem SR.one {W W' : World} {p : Nat} {l : List En} {b : Nat} {t : TypeId} {x : Value} (h : SR W p l) (hb : Blk W b t [x]) (ht : tS ≠ t) (hx : ∀ z, x ≠ .int .u64 z) (hg : W.grownBy W' (some b)) : SR W' p l := by
  obtain ⟨v, kb, hpe⟩ := h.pr
  exact ⟨⟨v, kb.kept hg (by have := blk_ne kb hb ht; simpa using this), hpe.one hb hx hg⟩, h.ue, h.ti, h.len⟩
theorem CK.num {W : World} {p b8 : Nat} {v1 : Value} {P : List En} {mo : Int} {A : World} (h : CK W p b8 v1 P mo A) (m : Int) : CK W p b8 v1 P m (A.setCell ⟨W.heap.size, 0, none⟩ (.int .i64 m)) := by
  have hg := grownBy_setAt A W.heap.size 0 (.int .i64 m)
  have b5 := h.c.b5
  exact ⟨⟨b5.set 0 _, h.c.b6.other (p := ⟨W.heap.size, 0, none⟩) (by simp) _, h.c.bel.setCell (p := ⟨W.heap.size, 0, none⟩) (Nat.le_refl _) _⟩, h.bw.other (p := ⟨W.heap.size, 0, none⟩) (by have := h.lt; simp; omega) _, h.lt, h.p.one b5 (by decide) (by simp) hg, h.v.one b5 (by simp) hg⟩
/-- while entries go on: how many there were -/
def RI (w : World) (p : Nat) (x : Int) (W' : World) : Prop := Blk W' w.heap.size 3 [.int .i64 x] ∧ Blk W' (w.heap.size + 1) 25 [.pointer (some ⟨p, 0, none⟩)] ∧ Below w.heap.size w W'
theorem RI.ownF (w : World) (p : Nat) (x : Int) {b : Nat} (hb : w.heap.size ≤ b) : OwnFrom b (fun (_ : Unit) W' => RI w p x W') := fun s A B row hs hg hr => by
  have k : RowOk A row := fun r e => (hr r e).2
  exact ⟨blk_row1 hs.1 hg k, blk_row1 hs.2.1 hg k, hs.2.2.grown hg hs.2.2.size (fun r e => Nat.le_trans hb (hr r e).1)⟩
/-- a row of the call's own, of entries whose asks are numbers -/
def AR (W : World) (B : Nat) (A : Option Addr) (n : Nat) : Prop := n = 0 ∨ ∃ g L, A = some ⟨g, 0, none⟩ ∧ B ≤ g ∧ Blk W g tE L ∧ ∀ i, i < n → ∃ y, L[i * 2 + 1]? = some (.int .i64 y)
theorem AR.own {W : World} {B : Nat} {A : Option Addr} {c : Nat} {es : List En} (h : W.ownsRow B tE 2 (.slice A es.length c) es.length (cellsOf cE es)) : AR W B A es.length := by
  rcases h.2 with ⟨_, h0⟩ | ⟨g, cap, cur, e, hB, hg, _, _, _, ht⟩
  · exact .inl h0
  · injection e with e1 e2 e3
    refine .inr ⟨g, cur.toList, e1, hB, by unfold Blk; rw [Array.toArray_toList]; exact hg, fun i hi => ⟨(es.getD i dE).2, ?_⟩⟩
    have h1 := cellsOf_at cE_length es dE (i := i) (j := 1) hi (by omega)
    rw [← ht, List.getElem?_take, if_pos (by omega)] at h1
    rw [h1]; rfl
theorem AR.set {W : World} {B n i : Nat} {A : Option Addr} {g : Nat} (h : AR W B A n) (hA : A = some ⟨g, 0, none⟩) (hi : i < n) (y : Int) : AR (W.setCell ⟨g, i * 2 + 1, none⟩ (.int .i64 y)) B A n := by
  rcases h with h0 | ⟨g', L, e, hB, hb, hl⟩
  · omega
  · subst hA
    injection e with e
    injection e with e
    subst e
    refine .inr ⟨g, _, rfl, hB, hb.set (i * 2 + 1) _, fun j hj => ?_⟩
    rw [List.getElem?_set]
    by_cases hij : i * 2 + 1 = j * 2 + 1
    · obtain ⟨z, hz⟩ := hl i hi
      rw [if_pos hij, if_pos (List.getElem?_eq_some_iff.1 hz).1]
      exact ⟨y, rfl⟩
    · rw [if_neg hij]
      exact hl j hj
theorem AR.at {W : World} {B n i : Nat} {A : Option Addr} (h : AR W B A n) (hi : i < n) : ∃ g y, A = some ⟨g, 0, none⟩ ∧ B ≤ g ∧ g < W.heap.size ∧ W.cell? ⟨g, i * 2 + 1, none⟩ = some (.int .i64 y) ∧ W.frozen? ⟨g, i * 2 + 1, none⟩ = false := by
  rcases h with h0 | ⟨g, L, rfl, hB, hb, hl⟩
  · omega
  · obtain ⟨y, hy⟩ := hl i hi
    exact ⟨g, y, rfl, hB, hb.lt, hb.cell hy, hb.frozen _⟩
end Go.Proofs.Ytnlhgnioedalpaa.Pri
