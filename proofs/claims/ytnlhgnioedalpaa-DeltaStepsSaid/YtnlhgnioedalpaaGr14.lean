/- DelU, DelV, DelW, DelR, laid together. -/
import Derived.Test.YtnlhgnioedalpaaGr13
import Derived.Test.YtnlhgnioedalpaaGr12

/- delta: the law's as and most, the document's Same. -/
set_option linter.unusedSimpArgs false
set_option linter.unusedVariables false
namespace Go.Proofs.Ytnlhgnioedalpaa.Pri
open Go.RowKit Go.Proofs.YtnlhgnioedalpaaW.PrintWords Go.Proofs.Ytnlhgnioedalpaa.PPricePlays Go.Maps
open Go.Proofs.Ytnlhgnioedalpaa.Cod (PC cP3 cP3_length pc_own infoC grown_own KTy.setOther)
attribute [local go_sem] Oper.semAt_some

abbrev tR : TypeId := 121
theorem infoR : (Try.prog.info? 121).map (fun i => (i.zero, i.size, i.bytes)) = some (some (.agg #[.int .i64 0, .int .u64 0, .int .i64 0]), 3, 24) := by kernel_rfl
theorem own0 (W : World) (t : TypeId) (size : Nat) : (W.alloc (.cells #[] t)).ownsRow W.heap.size t size (.slice (some ⟨W.heap.size, 0, none⟩) 0 0) 0 [] :=
  ⟨by simp, .inr ⟨W.heap.size, 0, #[], rfl, Nat.le_refl _, World.alloc_heap_new _ _, Nat.le_refl _, by unfold maxLen; omega, by simp, by simp⟩⟩
/-- a row of changes reads as changes, whatever their type -/
theorem pc_ownT {W : World} {B : Nat} {t : TypeId} {v : Value} {cs : List Ch} (h : W.ownsRow B t 3 v cs.length (cellsOf cP3 cs)) : PC W v cs := by
  rcases h.2 with ⟨h1, h2⟩ | ⟨g, cap, cur, e1, h2, h3, h4, h5, h6, h7⟩
  · obtain rfl : cs = [] := List.eq_nil_of_length_eq_zero h2
    exact ⟨none, 0, h1, fun i q hq => by simp at hq⟩
  · refine ⟨_, cap, e1, fun i q hq => ?_⟩
    have hi : i < cs.length := (List.getElem?_eq_some_iff.1 hq).1
    have hb : Blk W g t cur.toList := by unfold Blk; rw [Array.toArray_toList]; exact h3
    have key : ∀ j, j < 3 → cur.toList[i * 3 + j]? = (cP3 q)[j]? := fun j hj => by
      have h8 := cellsOf_at cP3_length cs dC hi hj
      have e : cs.getD i dC = q := by rw [List.getD_eq_getElem?_getD, hq]; rfl
      rw [e, ← h7, List.getElem?_take, if_pos (by omega)] at h8
      exact h8
    refine ⟨g, 0, rfl, hb.lt, ?_, ?_, ?_⟩
    · exact hb.cell (i := 0 + i * 3) (by rw [Nat.zero_add]; exact key 0 (by decide))
    · exact hb.cell (i := 0 + i * 3 + 1) (by rw [Nat.zero_add]; exact key 1 (by decide))
    · exact hb.cell (i := 0 + i * 3 + 2) (by rw [Nat.zero_add]; exact key 2 (by decide))
theorem cells_take (cs : List Ch) {k : Nat} (hk : k < cs.length) : cellsOf cP3 (cs.take (k + 1)) = cellsOf cP3 (cs.take k) ++ cP3 cs[k] := by
  rw [List.take_succ_eq_append_getElem hk, cellsOf_append, cellsOf_one]
set_option maxRecDepth 100000 in
set_option maxHeartbeats 4000000 in
theorem as_any (W : World) (v : Value) (cs : List Ch) (h : PC W v cs) (hl : cs.length ≤ 1000000) :
    Calls Try.prog 44 #[v] W fun e w' => ∃ o, e = .returned o ∧ w'.ownsRow W.heap.size tR 3 o cs.length (cellsOf cP3 cs) ∧ Below W.heap.size W w' := by
  have H := Lib.hid h
  obtain ⟨A, c, rfl, -⟩ := h
  obtain ⟨i0, hi0, hiz0, hiz1, hiz2⟩ := info_parts infoR
  go_enter Try.func44, Try.ntmps44
  go_wp2_with fail
  go_loopw [3, 9] (fun o i wr => ∃ k : Nat, k ≤ cs.length ∧ i = .int .i64 (k : Int) ∧ wr.ownsRow W.heap.size tR 3 o k (cellsOf cP3 (cs.take k)) ∧ Below W.heap.size W wr) (fun _ i _ => cs.length - (intOf i).toNat)
  case atStart => exact ⟨0, Nat.zero_le _, rfl, own0 W tR 3, (Below.refl _ W).alloc (Nat.le_refl _) _⟩
  case round =>
    obtain ⟨k, hk, rfl, hown, hB⟩ := hrel
    by_cases hlt : k < cs.length
    · obtain ⟨⟨x, y, z⟩, hx⟩ : ∃ x, cs[k] = x := ⟨_, rfl⟩
      have hx2 : cs[k]? = some (x, y, z) := by rw [List.getElem?_eq_getElem hlt, hx]
      obtain ⟨b3, off3, c4, e1, hlb, r0, r1, r2⟩ := (H.out.below hB).at hx2
      obtain ⟨rfl, rfl⟩ : A = some ⟨b3, off3, none⟩ ∧ c = c4 := by injection e1 with e1 e2 e3; exact ⟨e1, e3⟩
      dsimp only at r0 r1 r2
      have htk := cells_take cs hlt
      rw [hx] at htk
      have ha1 : Below wr.heap.size wr (wr.alloc (.cells #[.int .i64 x, .int .u64 y, .int .i64 z] tC)) := (Below.refl _ wr).alloc (Nat.le_refl _) _
      have ha2 : Below wr.heap.size wr ((wr.alloc (.cells #[.int .i64 x, .int .u64 y, .int .i64 z] tC)).alloc (.cells #[.int .i64 x, .int .u64 y, .int .i64 z] tR)) := ha1.alloc (by simp) _
      have hnb := news_blk (Blk.new (wr.alloc (.cells #[.int .i64 x, .int .u64 y, .int .i64 z] tC)) [.int .i64 x, .int .u64 y, .int .i64 z] tR)
      rw [World.size_alloc] at hnb
      have HTK := Lib.hid htk; have HB := Lib.hid (hB.trans (ha2.mono hB.size)); have HNB := Lib.hid hnb; have HOWN := Lib.hid (own_below hown ha2)
      clear hx hx2 e1 htk hB ha1 ha2 hnb hown
      go_wp2_with (first | (at_builtin; refine wpList_append_own_at _ rfl _ _ 78 rfl W.heap.size tR i0 _ 3 24 Try.underlying78 hi0 hiz0 hiz1 hiz2 rfl (by decide) _ k _ rfl HOWN.out ⟨wr.heap.size + 1, 0, none⟩ 1 1 [.int .i64 x, .int .u64 y, .int .i64 z] rfl rfl HNB.out (by simp [Value.oneCell']) (by unfold maxLen; omega) (by omega) HB.out.size ?_; intro v6 w6 hown6 hgrow6 hnil6 hloc6) | fail)
      have HN := Lib.hid (show w6.ownsRow W.heap.size tR 3 v6 (k + 1) (cellsOf cP3 (cs.take (k + 1))) ∧ Below W.heap.size W w6 from ⟨by rw [HTK.out]; exact hown6, HB.out.grown hgrow6 HB.out.size (fun r e => (own_typ HOWN.out r e).1)⟩)
      clear hown6 hgrow6 hnil6 hloc6
      go_roundw
      case rel => exact ⟨k + 1, by omega, by simp, HN.out⟩
      case measure => simp [intOf]; omega
    · obtain rfl : k = cs.length := by omega
      rw [List.take_length] at hown
      have HN := Lib.hid hown
      clear hown
      go_wp2_with fail
      exact bodyPost_ret (v := u3) (by simp [results, Try.f44, go_sem]) rfl ⟨u3, rfl, HN.out, hB⟩
set_option maxRecDepth 100000 in
set_option maxHeartbeats 4000000 in
theorem same12_any (W : World) (v u : Value) (L M : List Ch) (h : PC W v L) (k : PC W u M) (hl : L.length ≤ 1000000) :
    Calls Try.prog 43 #[v, u] W fun e w' => e = .returned (.bool (decide (L = M))) ∧ Below W.heap.size W w' := by
  have H := Lib.hid h; have K := Lib.hid k
  obtain ⟨A, c, rfl, -⟩ := h
  obtain ⟨A2, c2, rfl, -⟩ := k
  obtain ⟨R, hR⟩ : ∃ R, decide (L = M) = R := ⟨_, rfl⟩
  have HR := Lib.hid hR
  rw [hR]
  clear hR
  by_cases hn : L.length = M.length
  · have hn2 : (L.length : Int) = (M.length : Int) := by omega
    have HN := Lib.hid hn
    clear hn
    go_enter Try.func43, Try.ntmps43
    go_wp2_with fail
    go_loopw [5] (fun i wr => ∃ k : Nat, k ≤ L.length ∧ i = .int .i64 (k : Int) ∧ Below W.heap.size W wr ∧ ∀ j, j < k → L[j]? = M[j]?) (fun i _ => L.length - (intOf i).toNat)
    case atStart => exact ⟨0, Nat.zero_le _, rfl, Below.refl _ W, fun j hj => by omega⟩
    case round =>
      obtain ⟨k, hk, rfl, hB, hno⟩ := hrel
      have HNO := Lib.hid hno; have HB := Lib.hid hB
      clear hno
      by_cases hlt : k < L.length
      · obtain ⟨⟨x1, x2, x3⟩, hx⟩ : ∃ x, L[k] = x := ⟨_, rfl⟩
        have hx2 : L[k]? = some (x1, x2, x3) := by rw [List.getElem?_eq_getElem hlt, hx]
        obtain ⟨⟨y1, y2, y3⟩, hy⟩ : ∃ x, M[k]'(by have := HN.out; omega) = x := ⟨_, rfl⟩
        have hy2 : M[k]? = some (y1, y2, y3) := by rw [List.getElem?_eq_getElem (by have := HN.out; omega), hy]
        have hkm : (k : Int) < (M.length : Int) := by omega
        obtain ⟨b3, off3, c4, e1, hlb, r0, r1, r2⟩ := (H.out.below hB).at hx2
        obtain ⟨rfl, rfl⟩ : A = some ⟨b3, off3, none⟩ ∧ c = c4 := by injection e1 with e1 e2 e3; exact ⟨e1, e3⟩
        obtain ⟨b5, off5, c6, e2, hlb5, s0, s1, s2⟩ := (K.out.below hB).at hy2
        obtain ⟨rfl, rfl⟩ : A2 = some ⟨b5, off5, none⟩ ∧ c2 = c6 := by injection e2 with e1 e2 e3; exact ⟨e1, e3⟩
        dsimp only at r0 r1 r2 s0 s1 s2
        have HX := Lib.hid hx2; have HY := Lib.hid hy2
        clear hx hx2 hy hy2 e1 e2 hB
        by_cases h1 : x1 = y1 ∧ x2 = y2 ∧ x3 = y3
        · obtain ⟨rfl, rfl, rfl⟩ := h1
          go_wp2_with fail
          go_region_held3 (fun w' => w'.cell? ⟨b3, off3 + k * 3, none⟩ = some (.int .i64 x1) ∧ w'.cell? ⟨b3, off3 + k * 3 + 1, none⟩ = some (.int .u64 x2) ∧ w'.cell? ⟨b3, off3 + k * 3 + 2, none⟩ = some (.int .i64 x3) ∧ w'.cell? ⟨b5, off5 + k * 3, none⟩ = some (.int .i64 x1) ∧ w'.cell? ⟨b5, off5 + k * 3 + 1, none⟩ = some (.int .u64 x2) ∧ w'.cell? ⟨b5, off5 + k * 3 + 2, none⟩ = some (.int .i64 x3)) (go_keep) (fail)
          all_goals
            have HB1 := Lib.hid (HB.out.trans ((Below.refl _ wr).drew.mono HB.out.size))
            go_wp2_with fail
            go_roundw
            case rel => exact ⟨k + 1, by omega, by simp, HB1.out, fun j hj => by
              rcases Nat.lt_succ_iff_lt_or_eq.1 hj with h | rfl
              · exact HNO.out j h
              · rw [HX.out, HY.out]⟩
            case measure => simp [intOf]; omega
        · have hr : R = false := by
            rw [← HR.out]
            refine decide_eq_false (fun e => h1 ?_)
            have h2 := HX.out
            rw [e, HY.out] at h2
            injection h2 with h2
            injection h2 with h3 h4
            injection h4 with h4 h5
            exact ⟨h3.symm, h4.symm, h5.symm⟩
          have HRR := Lib.hid hr
          clear hr
          have hcs : x1 ≠ y1 ∨ x1 = y1 ∧ x2 ≠ y2 ∨ x1 = y1 ∧ x2 = y2 ∧ x3 ≠ y3 := by omega
          rcases hcs with hc | ⟨rfl, hc⟩ | ⟨rfl, rfl, hc⟩
          · go_wp2_with fail
            go_region_held3 (fun w' => w'.cell? ⟨b3, off3 + k * 3, none⟩ = some (.int .i64 x1) ∧ w'.cell? ⟨b3, off3 + k * 3 + 1, none⟩ = some (.int .u64 x2) ∧ w'.cell? ⟨b3, off3 + k * 3 + 2, none⟩ = some (.int .i64 x3) ∧ w'.cell? ⟨b5, off5 + k * 3, none⟩ = some (.int .i64 y1) ∧ w'.cell? ⟨b5, off5 + k * 3 + 1, none⟩ = some (.int .u64 y2) ∧ w'.cell? ⟨b5, off5 + k * 3 + 2, none⟩ = some (.int .i64 y3)) (go_keep) (fail)
            all_goals
              have HB1 := Lib.hid (HB.out.trans ((Below.refl _ wr).drew.mono HB.out.size))
              go_wp2_with fail
              go_ret
              exact ⟨by have := HRR.out; subst this; rfl, HB1.out⟩
          · go_wp2_with fail
            go_region_held3 (fun w' => w'.cell? ⟨b3, off3 + k * 3, none⟩ = some (.int .i64 x1) ∧ w'.cell? ⟨b3, off3 + k * 3 + 1, none⟩ = some (.int .u64 x2) ∧ w'.cell? ⟨b3, off3 + k * 3 + 2, none⟩ = some (.int .i64 x3) ∧ w'.cell? ⟨b5, off5 + k * 3, none⟩ = some (.int .i64 x1) ∧ w'.cell? ⟨b5, off5 + k * 3 + 1, none⟩ = some (.int .u64 y2) ∧ w'.cell? ⟨b5, off5 + k * 3 + 2, none⟩ = some (.int .i64 y3)) (go_keep) (fail)
            all_goals
              have HB1 := Lib.hid (HB.out.trans ((Below.refl _ wr).drew.mono HB.out.size))
              go_wp2_with fail
              go_ret
              exact ⟨by have := HRR.out; subst this; rfl, HB1.out⟩
          · go_wp2_with fail
            go_region_held3 (fun w' => w'.cell? ⟨b3, off3 + k * 3, none⟩ = some (.int .i64 x1) ∧ w'.cell? ⟨b3, off3 + k * 3 + 1, none⟩ = some (.int .u64 x2) ∧ w'.cell? ⟨b3, off3 + k * 3 + 2, none⟩ = some (.int .i64 x3) ∧ w'.cell? ⟨b5, off5 + k * 3, none⟩ = some (.int .i64 x1) ∧ w'.cell? ⟨b5, off5 + k * 3 + 1, none⟩ = some (.int .u64 x2) ∧ w'.cell? ⟨b5, off5 + k * 3 + 2, none⟩ = some (.int .i64 y3)) (go_keep) (fail)
            all_goals
              have HB1 := Lib.hid (HB.out.trans ((Below.refl _ wr).drew.mono HB.out.size))
              go_wp2_with fail
              go_ret
              exact ⟨by have := HRR.out; subst this; rfl, HB1.out⟩
      · obtain rfl : k = L.length := by omega
        have hr : R = true := by
          rw [← HR.out]
          refine decide_eq_true (List.ext_getElem? (fun j => ?_))
          by_cases hj : j < L.length
          · exact HNO.out j hj
          · rw [List.getElem?_eq_none (by omega), List.getElem?_eq_none (by have := HN.out; omega)]
        have HRR := Lib.hid hr
        clear hr
        go_wp2_with fail
        go_ret
        exact ⟨by have := HRR.out; subst this; rfl, hB⟩
  · have hn2 : ¬ (L.length : Int) = (M.length : Int) := by omega
    have hr : R = false := by
      rw [← HR.out]
      exact decide_eq_false (fun e => hn (by rw [e]))
    have HRR := Lib.hid hr
    clear hr hn
    go_enter Try.func43, Try.ntmps43
    go_wp2_with fail
    go_ret
    exact ⟨by have := HRR.out; subst this; rfl, Below.refl _ W⟩
end Go.Proofs.Ytnlhgnioedalpaa.Pri

/- delta: the document's Sum and Diff. -/
set_option linter.unusedSimpArgs false
set_option linter.unusedVariables false
namespace Go.Proofs.Ytnlhgnioedalpaa.Pri
open Go.RowKit Go.Proofs.YtnlhgnioedalpaaW.PrintWords Go.Proofs.Ytnlhgnioedalpaa.PPricePlays Go.Maps
open Go.Proofs.Ytnlhgnioedalpaa.Cod (PC cP3 cP3_length pc_own infoC grown_own KTy.setOther)
attribute [local go_sem] Oper.semAt_some

theorem PE.off {A B : World} {row : Option Nat} {v : Value} {l : List En} (h : PE A v l) (hg : A.grownBy B row) (hv : ∀ q, v.ownBlock = some q → row ≠ some q) : PE B v l := by
  obtain ⟨a, c, rfl, h1, h2, h3⟩ := h
  refine ⟨a, c, rfl, h1, h2, h3.1, h3.2.1, fun hpos => ?_⟩
  obtain ⟨a, rfl, hq⟩ := h3.2.2 hpos
  refine ⟨a, rfl, fun j x hx => ?_⟩
  obtain ⟨cs, hl, hk, hc⟩ := hq j x hx
  obtain rfl := k41_open hk
  refine ⟨_, hl, k41_mk B x, fun i u hu => ?_⟩
  have hcu := hc i u hu
  have hsp := cell_spot hcu
  rw [hsp.1] at hcu ⊢
  have e : B.cell? ⟨(a.add (j * k41.sz + i)).block, (a.add (j * k41.sz + i)).off, none⟩ = A.cell? ⟨(a.add (j * k41.sz + i)).block, (a.add (j * k41.sz + i)).off, none⟩ := by
    unfold World.cell?
    rw [hg.block _ hsp.2 (fun e => hv a.block rfl (by rw [← e]; unfold Addr.add; split <;> rfl))]
  rw [e]; exact hcu
theorem own_spot {w : World} {base n size : Nat} {e : TypeId} {v : Value} {xs : List Value} (h : w.ownsRow base e size v n xs) : ∀ q, v.ownBlock = some q → base ≤ q ∧ q < w.heap.size := fun q hq => by
  obtain ⟨h1, cs, fr, h2⟩ := own_typ h q hq
  exact ⟨h1, (Array.getElem?_eq_some_iff.1 h2).1⟩
end Go.Proofs.Ytnlhgnioedalpaa.Pri

/- delta: Apply. -/
set_option linter.unusedSimpArgs false
set_option linter.unusedVariables false
namespace Go.Proofs.Ytnlhgnioedalpaa.Pri
open Go.RowKit Go.Proofs.YtnlhgnioedalpaaW.PrintWords Go.Proofs.Ytnlhgnioedalpaa.PPricePlays Go.Maps
open Go.Proofs.Ytnlhgnioedalpaa.Cod (PC cP3 cP3_length pc_own infoC grown_own KTy.setOther)
attribute [local go_sem] Oper.semAt_some

theorem oL_sV : ∀ {ps : List Nat} {ls : List (List En)}, ps.length = ls.length → (oL ps ls).map sV = ps.map (fun p => Value.pointer (some ⟨p, 0, none⟩))
  | [], [], _ => rfl
  | p :: ps, l :: ls, h => by
    have := oL_sV (ps := ps) (ls := ls) (by simpa using h)
    unfold oL at *
    simp only [List.zip_cons_cons, List.map_cons] at *
    rw [this]
    rfl
  | [], l :: ls, h => by simp at h
  | p :: ps, [], h => by simp at h
theorem oL_at {ps : List Nat} {ls : List (List En)} {j q : Nat} {es : List En} (h : (oL ps ls)[j]? = some (some (q, es))) : ps[j]? = some q ∧ ls[j]? = some es := by
  unfold oL at h
  rw [List.getElem?_map, Option.map_eq_some_iff] at h
  obtain ⟨x, hx, h⟩ := h
  injection h with h
  subst h
  exact List.getElem?_zip_eq_some.1 hx
/-- one store of a book is written -/
theorem BK.put {B : Nat} {ps : List Nat} {ls : List (List En)} {o : Value} {A C : World} {i p : Nat} {ys : List En} (h : BK B ps ls o A) (hp : ps[i]? = some p) (hS : SR C p ys) (hg : A.grownBy C (some p)) (hn : NF A C p) : BK B ps (ls.set i ys) o C := by
  have hil : i < ls.length := by rw [← h.n]; exact (List.getElem?_eq_some_iff.1 hp).1
  obtain ⟨l, hl⟩ : ∃ l, ls[i]? = some l := ⟨_, List.getElem?_eq_getElem hil⟩
  have ho : (oL ps ls)[i]? = some (some (p, l)) := by
    unfold oL
    rw [List.getElem?_map, (List.getElem?_zip_eq_some (z := (p, l))).2 ⟨hp, hl⟩]
    rfl
  obtain ⟨hSA, hoff⟩ := h.st i p l ho
  obtain ⟨v, kb, hpe⟩ := hSA.pr
  have hnl : ps.length = (ls.set i ys).length := by rw [List.length_set]; exact h.n
  have hob : o.ownBlock ≠ some p := own_apart kb h.own (by decide)
  refine ⟨hnl, h.nd, fun q hq => ⟨(h.lt q hq).1, Nat.lt_of_lt_of_le (h.lt q hq).2 hg.size⟩, ?_, fun j q es hj => ?_⟩
  · rw [oL_sV hnl, List.length_set, ← oL_sV h.n]
    exact h.own.kept hg (by
      cases hv : o.ownBlock with
      | none => exact .inl rfl
      | some q => exact .inr (fun e => hob (hv.trans e)))
  · obtain ⟨hq, hes⟩ := oL_at hj
    by_cases hij : j = i
    · subst hij
      rw [hp] at hq
      obtain rfl : p = q := by injection hq
      obtain rfl : es = ys := by rw [List.getElem?_set_self hil] at hes; injection hes with hes; exact hes.symm
      refine ⟨hS, fun v' hv' q' hq' => ?_⟩
      rcases hn v' hv' with h1 | h1
      · refine ⟨(h1 q' hq').2, fun e => ?_⟩
        have h2 := (h1 q' hq').1
        have h3 := (own_spot h.own q' e).2
        omega
      · have := hoff v' h1 q' hq'
        exact ⟨Nat.lt_of_lt_of_le this.1 hg.size, this.2⟩
    · rw [List.getElem?_set_ne (Ne.symm hij)] at hes
      have hqp : q ≠ p := fun e => by
        subst e
        obtain ⟨h1, h2⟩ := List.getElem?_eq_some_iff.1 hq
        obtain ⟨h3, h4⟩ := List.getElem?_eq_some_iff.1 hp
        have hpw := List.pairwise_iff_getElem.1 h.nd
        rcases Nat.lt_or_gt_of_ne hij with hlt | hgt
        · exact hpw j i h1 h3 hlt (h2.trans h4.symm)
        · exact hpw i j h3 h1 hgt (h4.trans h2.symm)
      have hoj : (oL ps ls)[j]? = some (some (q, es)) := by
        unfold oL
        rw [List.getElem?_map, (List.getElem?_zip_eq_some (z := (q, es))).2 ⟨hq, hes⟩]
        rfl
      obtain ⟨hSq, hoffq⟩ := h.st j q es hoj
      refine ⟨hSq.turn hSA hqp hg, fun v' hv' q' hq' => ?_⟩
      have hA : Blk A q tS [v'] := (hg.block q (hSq.pr.lt) (by simpa using hqp)).symm.trans hv'
      have := hoffq v' hA q' hq'
      exact ⟨Nat.lt_of_lt_of_le this.1 hg.size, this.2⟩
/-- one more store, with nothing in it -/
theorem BK.more {B : Nat} {ps : List Nat} {ls : List (List En)} {o o' : Value} {A C : World} (h : BK B ps ls o A) (hB : B ≤ A.heap.size)
    (hown : C.ownsRow B tP 1 o' (ls.length + 1) ((oL ps ls).map sV ++ [.pointer (some ⟨A.heap.size, 0, none⟩)])) (hg : ((A.alloc (.cells #[.slice none 0 0] tS)).alloc (.cells #[.pointer (some ⟨A.heap.size, 0, none⟩)] tP)).grownBy C o.ownBlock) (hloc : o'.ownBlock = o.ownBlock ∨ o'.ownBlock = some ((A.alloc (.cells #[.slice none 0 0] tS)).alloc (.cells #[.pointer (some ⟨A.heap.size, 0, none⟩)] tP)).heap.size) : BK B (ps ++ [A.heap.size]) (ls ++ [[]]) o' C := by
  have ha1 : Below A.heap.size A (A.alloc (.cells #[.slice none 0 0] tS)) := (Below.refl _ A).alloc (Nat.le_refl _) _
  have ha2 : Below A.heap.size A ((A.alloc (.cells #[.slice none 0 0] tS)).alloc (.cells #[.pointer (some ⟨A.heap.size, 0, none⟩)] tP)) := ha1.alloc (by simp) _
  have hb : Blk ((A.alloc (.cells #[.slice none 0 0] tS)).alloc (.cells #[.pointer (some ⟨A.heap.size, 0, none⟩)] tP)) A.heap.size tS [.slice none 0 0] := (Blk.new A [.slice none 0 0] tS).alloc _
  refine (h.below ha2).push (fun hm => by have := (h.lt _ hm).2; omega) hB ((sr_nil A).alloc _) (fun v hv q hq => ?_) hown hg hloc
  obtain rfl : v = .slice none 0 0 := by have := (hv.inj hb).2; injection this
  cases hq
theorem ext_self (b : List (List En)) : extB b b.length = b := by unfold extB; simp
theorem ext_succ {b : List (List En)} {m : Nat} (h : b.length ≤ m) : extB b (m + 1) = extB b m ++ [[]] := by
  unfold extB
  rw [show m + 1 - b.length = (m - b.length) + 1 by omega, List.replicate_succ', List.append_assoc]
theorem ext_max {b : List (List En)} {m n : Nat} (h : b.length ≤ m) (h1 : m ≤ max b.length n) (h2 : n ≤ m) : extB b m = extB b n := by
  unfold extB
  rw [show m - b.length = n - b.length by omega]
def slLen : Value → Nat
  | .slice _ n _ => n
  | _ => 0
theorem step_short {b : List (List En)} {c : Ch} {m : Nat} (h : ∀ i, (b.getD i []).length ≤ m) (i : Nat) : ((stepB b c).getD i []).length ≤ m + 1 := by
  rw [step_at]
  have := h i
  split
  · have := put_len (b.getD i []) c.2.1 c.2.2; omega
  · omega
theorem step_ok {b : List (List En)} {x y z : Int} {n : Nat} (hx : x = (n : Int)) (hn : n < 64) : stepB b (x, y, z) = (extB b (n + 1)).set n (putP (b.getD n []) y z) := by
  unfold stepB
  dsimp only
  rw [if_pos (by omega), hx, Int.toNat_natCast]
theorem step_no {b : List (List En)} {x y z : Int} (hx : ¬ (0 ≤ x ∧ x < 64)) : stepB b (x, y, z) = b := by
  unfold stepB
  dsimp only
  rw [if_neg hx]
set_option maxRecDepth 100000 in
set_option maxHeartbeats 8000000 in
theorem apply_any (W : World) (v u : Value) (old : List (List En)) (cs : List Ch) (h : PEE W v old) (kk : PC W u cs) (hU : ∀ l ∈ old, UE l) (kU : ∀ c ∈ cs, U c.2.1) (hl : old.length ≤ 1000) (hl2 : ∀ l ∈ old, l.length ≤ 1000) (kl : cs.length ≤ 10000) :
    Calls Try.prog 50 #[v, u] W fun e w' => ∃ o vs, e = .returned o ∧ LR W.heap.size (applyL old cs) vs o w' ∧ Below W.heap.size W w' := by
  have H := Lib.hid h; have K := Lib.hid kk
  obtain ⟨A1, c1, rfl, -⟩ := h
  obtain ⟨A, c, rfl, -⟩ := kk
  obtain ⟨i0, hi0, hiz0, hiz1, hiz2⟩ := info_parts infoP
  go_enter Try.func50, Try.ntmps50
  go_wp2_with fail
  refine (open_any W _ old H.out hU (by omega) (fun l hl' => by have := hl2 l hl'; omega)).mono ?_; rintro e w1 ⟨o1, ps1, rfl, hK1, hb1⟩
  have HK1 := Lib.hid hK1; have HB1 := Lib.hid hb1
  clear hK1 hb1
  go_wp2_with fail
  go_loopw [5, 12] (fun o i wr => ∃ (k : Nat) (ps : List Nat) (ls : List (List En)), k ≤ cs.length ∧ i = .int .i64 (k : Int) ∧ ls = (cs.take k).foldl stepB (old.map ofL) ∧ BK W.heap.size ps ls o wr ∧ Below W.heap.size W wr ∧ ls.length ≤ 1000 ∧ ∀ i, (ls.getD i []).length ≤ 1000 + k) (fun _ i _ => cs.length - (intOf i).toNat)
  case atStart =>
    refine ⟨0, ps1, _, Nat.zero_le _, rfl, rfl, HK1.out, HB1.out, by simp; omega, fun i => ?_⟩
    show ((old.map ofL).getD i []).length ≤ 1000
    rw [at_map]
    refine Nat.le_trans (ofL_len _) ?_
    by_cases h0 : old.getD i [] = []
    · rw [h0]; simp
    · exact hl2 _ (at_mem h0).2
  case round =>
    obtain ⟨k, ps, ls, hk, rfl, hls, hK, hB, hlen, hsh⟩ := hrel
    by_cases hlt : k < cs.length
    · obtain ⟨⟨x, y, z⟩, hx⟩ : ∃ x, cs[k] = x := ⟨_, rfl⟩
      have hx2 : cs[k]? = some (x, y, z) := by rw [List.getElem?_eq_getElem hlt, hx]
      have huy := kU _ (List.mem_of_getElem? hx2)
      obtain ⟨b3, off3, c4, e1, hlb, r0, r1, r2⟩ := (K.out.below hB).at hx2
      obtain ⟨rfl, rfl⟩ : A = some ⟨b3, off3, none⟩ ∧ c = c4 := by injection e1 with e1 e2 e3; exact ⟨e1, e3⟩
      dsimp only at r0 r1 r2 huy
      have hst : (cs.take (k + 1)).foldl stepB (old.map ofL) = stepB ls (x, y, z) := by
        rw [List.take_succ_eq_append_getElem hlt, List.foldl_append, hx, ← hls]
        rfl
      have hsh2 := step_short (c := (x, y, z)) hsh
      have hln2 := step_len ls (x, y, z)
      have ha1 : Below wr.heap.size wr (wr.alloc (.cells #[.int .i64 x, .int .u64 y, .int .i64 z] tC)) := (Below.refl _ wr).alloc (Nat.le_refl _) _
      have HB1 := Lib.hid (Blk.new wr [.int .i64 x, .int .u64 y, .int .i64 z] tC)
      have HST := Lib.hid hst; have HSH := Lib.hid hsh; have HSH2 := Lib.hid hsh2; have HK := Lib.hid (hK.below ha1); have HB := Lib.hid (hB.trans (ha1.mono hB.size)); have HLN := Lib.hid hln2
      clear hx hx2 e1 hst hsh hsh2 hK hB ha1 hln2 hls
      by_cases h0 : x < 0
      · go_wp2_with fail
        refine ⟨⟨k + 1, ps, ls, by omega, by simp, by rw [HST.out, step_no (by omega)], HK.out, HB.out, hlen, fun i => by have := HSH.out i; omega⟩, ?_⟩
        simp [intOf]; omega
      by_cases h64 : 64 ≤ x
      · go_wp2_with fail
        refine ⟨⟨k + 1, ps, ls, by omega, by simp, by rw [HST.out, step_no (by omega)], HK.out, HB.out, hlen, fun i => by have := HSH.out i; omega⟩, ?_⟩
        simp [intOf]; omega
      obtain ⟨n, rfl⟩ : ∃ n : Nat, x = (n : Int) := ⟨x.toNat, by omega⟩
      have hn64 : n < 64 := by omega
      have hst2 := HST.out
      rw [step_ok rfl hn64] at hst2
      have HST2 := Lib.hid hst2
      have d0 := HB1.out.cell (i := 0) rfl
      clear hst2
      go_wp2_with fail
      obtain ⟨b7, hb7⟩ : ∃ b7, wr.heap.size = b7 := ⟨_, rfl⟩
      rw [hb7] at HB1 ⊢
      clear d0 hb7
      go_loopw [5] (fun o ws => ∃ (m : Nat) (ps' : List Nat), ls.length ≤ m ∧ m ≤ max ls.length (n + 1) ∧ BK W.heap.size ps' (extB ls m) o ws ∧ Below W.heap.size W ws ∧ Blk ws b7 tC [.int .i64 (n : Int), .int .u64 y, .int .i64 z]) (fun o _ => n + 1 - slLen o)
      case atStart => exact ⟨ls.length, ps, Nat.le_refl _, by omega, by rw [ext_self]; exact HK.out, HB.out, HB1.out⟩
      case round =>
        obtain ⟨m, ps', hm1, hm2, hK', hB', h7⟩ := hrel
        have hel : (extB ls m).length = m := by rw [ext_len]; omega
        have hown := hK'.own
        rw [hel] at hown
        obtain ⟨Ao, co, rfl⟩ := own_sl hown
        have m0 := h7.cell (i := 0) rfl
        have m1 := h7.cell (i := 1) rfl
        have m2 := h7.cell (i := 2) rfl
        by_cases hmn : m ≤ n
        · have ha1 : Below wr.heap.size wr (wr.alloc (.cells #[.slice none 0 0] tS)) := (Below.refl _ wr).alloc (Nat.le_refl _) _
          have ha2 : Below wr.heap.size wr ((wr.alloc (.cells #[.slice none 0 0] tS)).alloc (.cells #[.pointer (some ⟨wr.heap.size, 0, none⟩)] tP)) := ha1.alloc (by simp) _
          have hnb := news_blk (Blk.new (wr.alloc (.cells #[.slice none 0 0] tS)) [.pointer (some ⟨wr.heap.size, 0, none⟩)] tP)
          rw [World.size_alloc] at hnb
          have HNB := Lib.hid hnb; have HWK := Lib.hid (own_below hown ha2); have HKK := Lib.hid hK'; have H7 := Lib.hid (h7.belowS ha2); have HBB := Lib.hid (hB'.trans (ha2.mono hB'.size)); have HBW := Lib.hid hB'.size; have HEL := Lib.hid hel
          clear hnb hown hK' h7 hB' ha1 ha2 hel
          go_wp2_with (first | (at_builtin; refine wpList_append_own_at _ rfl _ _ 122 rfl W.heap.size tP i0 _ 1 8 Try.underlying122 hi0 hiz0 hiz1 hiz2 rfl (by decide) _ m _ rfl HWK.out ⟨wr.heap.size + 1, 0, none⟩ 1 1 [.pointer (some ⟨wr.heap.size, 0, none⟩)] rfl rfl HNB.out (by simp [Value.oneCell']) (by unfold maxLen; omega) (by omega) HBB.out.size ?_; intro v6 w6 hown6 hgrow6 hnil6 hloc6) | fail)
          obtain ⟨A6, c6, rfl⟩ := own_sl hown6
          refine ⟨⟨m + 1, ps' ++ [wr.heap.size], by omega, by omega, ?_, HBB.out.grown hgrow6 HBB.out.size (fun r e => (own_typ HWK.out r e).1), H7.out.kept hgrow6 (Ne.symm (own_apart H7.out HWK.out (by decide)))⟩, ?_⟩
          · rw [ext_succ hm1]
            exact HKK.out.more HBW.out (by rw [HEL.out]; exact hown6) hgrow6 hloc6
          · simp only [slLen]; omega
        · have hme : extB ls m = extB ls (n + 1) := ext_max hm1 hm2 (by omega)
          obtain ⟨l', hl'⟩ : ∃ l', (extB ls m)[n]? = some l' := ⟨_, List.getElem?_eq_getElem (by omega)⟩
          have hgl : ls.getD n [] = l' := by rw [← ext_at ls m n, List.getD_eq_getElem?_getD, hl']; rfl
          obtain ⟨g, c4, p, e1, hpn, hcell, hS, hgs⟩ := hK'.at hl'
          obtain ⟨rfl, rfl⟩ : Ao = some ⟨g, 0, none⟩ ∧ co = c4 := by injection e1 with e1 e2 e3; exact ⟨e1, e3⟩
          have hSl : l'.length < 100000000 := by have := HSH.out n; rw [hgl] at this; omega
          have hgp : g ≠ p := fun e => by
            obtain ⟨v, kb, _⟩ := hS.pr
            exact own_apart kb hown (by decide) (congrArg some e)
          have h7p : b7 ≠ p := by
            obtain ⟨v, kb, _⟩ := hS.pr
            exact blk_ne h7 kb (by decide)
          have hdr : Below wr.heap.size wr wr.drew := (Below.refl _ _).drew
          have hput := sput_anyF wr.drew p l' y z (hS.below hdr) huy
          have hno := fun (w5 : World) (hg5 : wr.drew.grownBy w5 (some p)) => (World.cell?_of_block (hg5.block g hgs (by simpa using hgp))).trans (show wr.drew.cell? ⟨g, n, none⟩ = _ from hcell)
          have hkn : (n : Int) < (m : Int) := by omega
          have hkn0 : (0 : Int) ≤ (n : Int) := Int.natCast_nonneg _
          have HPUT := Lib.hid hput; have HNO := Lib.hid hno; have HME := Lib.hid hme; have HGL := Lib.hid hgl; have HKD := Lib.hid (hK'.below hdr); have HSD := Lib.hid (hS.below hdr); have H7 := Lib.hid (h7.belowS hdr); have HBB := Lib.hid (hB'.trans (hdr.mono hB'.size)); have HPN := Lib.hid hpn; have HBW := Lib.hid hB'.size
          have hpW : W.heap.size ≤ p := (hK'.lt p (List.mem_of_getElem? hpn)).1
          clear hl' hgl e1 hpn hS hgs hgp hdr hput hno hme hK' hown h7 hB'
          go_wp2_with fail
          go_region_held3 (fun w' => w'.cell? ⟨b7, 0, none⟩ = some (.int .i64 (n : Int)) ∧ w'.cell? ⟨b7, 1, none⟩ = some (.int .u64 y) ∧ w'.cell? ⟨b7, 2, none⟩ = some (.int .i64 z) ∧ w'.cell? ⟨g, n, none⟩ = some (.pointer (some ⟨p, 0, none⟩))) (go_keep) ((go_at_call 25; refine HPUT.out.mono ?_; rintro e w5 ⟨rfl, hp5, hg5, hn5⟩; have h75 := H7.out.kept hg5 (by simpa using h7p); have q0 := h75.cell (i := 0) rfl; have q1 := h75.cell (i := 1) rfl; have q2 := h75.cell (i := 2) rfl; have q3 := HNO.out w5 hg5))
          have HK5 := Lib.hid (HKD.out.put HPN.out (HSD.out.put huy hp5 hSl) hg5 hn5)
          have HB5 := Lib.hid (HBB.out.grown hg5 HBB.out.size (fun r e => by cases e; exact hpW))
          clear hp5 hg5 hn5 h75 q0 q1 q2 q3 HPUT HNO m0 m1 m2
          go_wp2_with fail
          refine ⟨⟨k + 1, ps', _, by omega, by simp, rfl, ?_, HB5.out, ?_, fun i => ?_⟩, ?_⟩
          · rw [HST2.out, HGL.out, ← HME.out]; exact HK5.out
          · rw [HST2.out, List.length_set, ext_len]; omega
          · rw [HST.out]; exact HSH2.out i
          · simp [intOf]; omega
    · obtain rfl : k = cs.length := by omega
      rw [List.take_length] at hls
      obtain ⟨Ao, co, rfl⟩ := own_sl hK.own
      have HK := Lib.hid hK; have HSH := Lib.hid hsh; have HB := Lib.hid hB; have HLS := Lib.hid hls
      clear hK hsh hB hls
      go_wp2_with fail
      refine (lists_any wr _ ps ls _ HK.out (by omega) (fun l hl' => ?_)).mono ?_
      · obtain ⟨i, hi, rfl⟩ := List.getElem_of_mem hl'
        have := HSH.out i
        rw [List.getD_eq_getElem?_getD, List.getElem?_eq_getElem hi] at this
        simp at this
        omega
      · rintro e w4 ⟨v4, vs4, rfl, hL4, hb4⟩
        obtain ⟨A4, c4, rfl⟩ := own_sl hL4.own
        have HN := Lib.hid (show LR W.heap.size (applyL old cs) vs4 (.slice A4 ls.length c4) w4 ∧ Below W.heap.size W w4 from by
          have e : applyL old cs = ls := HLS.out.symm
          rw [e]
          exact ⟨⟨hL4.n, own_weaken hL4.own HB.out.size, fun i v l h1 h2 => own_weaken (hL4.each i v l h1 h2) HB.out.size⟩, HB.out.trans (hb4.mono HB.out.size)⟩)
        clear hL4 hb4
        go_wp2_with fail
        exact bodyPost_ret (v := .slice A4 ls.length c4) (by simp [results, Try.f50, go_sem]) rfl ⟨_, vs4, rfl, HN.out.1, HN.out.2⟩
end Go.Proofs.Ytnlhgnioedalpaa.Pri

/- delta: what is written is read as it. -/
set_option linter.unusedSimpArgs false
set_option linter.unusedVariables false
namespace Go.Proofs.Ytnlhgnioedalpaa.Cod
open Go.Proofs.Ytnlhgnioedalpaa.CodL
open Go.Proofs.Ytnlhgnioedalpaa.Pri (Ch)

theorem takeC_wr {q : Ch} (h0 : 0 ≤ q.1 ∧ q.1 < 64) (hu : 0 ≤ q.2.1 ∧ q.2.1 < 18446744073709551616) (ha : -9223372036854775808 ≤ q.2.2 ∧ q.2.2 ≤ 9223372036854775807) (rest : List Int) : takeC (wrC q ++ rest, 0) = ((rest, 0), q) := by
  obtain ⟨x, y, z⟩ := q
  dsimp only at h0 hu ha
  obtain ⟨n, rfl⟩ : ∃ n : Nat, x = (n : Int) := ⟨x.toNat, by omega⟩
  obtain ⟨m, rfl⟩ : ∃ n : Nat, y = (n : Int) := ⟨y.toNat, by omega⟩
  have e1 : (max (n : Int) 0).toNat = n := by omega
  unfold takeC wrC
  dsimp only
  rw [e1, Int.toNat_natCast, List.append_assoc, List.append_assoc, takeU_uv (by omega)]
  dsimp only
  rw [takeU_uv (by omega)]
  dsimp only
  rw [takeI_uv ha]
  dsimp only
  rw [if_pos (by omega)]
theorem takeL_wr {cs : List Ch} (h0 : ∀ q ∈ cs, (0 ≤ q.1 ∧ q.1 < 64) ∧ (0 ≤ q.2.1 ∧ q.2.1 < 18446744073709551616) ∧ (-9223372036854775808 ≤ q.2.2 ∧ q.2.2 ≤ 9223372036854775807)) (rest : List Int) : ∀ out : List Ch, takeL takeC cs.length (cs.flatMap wrC ++ rest, 0) out = ((rest, 0), out ++ cs) := by
  induction cs with
  | nil => intro out; simp [takeL]
  | cons n ns ih =>
    intro out
    obtain ⟨h1, h2, h3⟩ := h0 n List.mem_cons_self
    rw [List.length_cons, takeL, List.flatMap_cons, List.append_assoc]
    rw [takeC_wr h1 h2 h3]
    dsimp only
    rw [if_pos rfl, ih (fun x hx => h0 x (List.mem_cons_of_mem _ hx))]
    simp
theorem allC_wr {cs : List Ch} (h0 : ∀ q ∈ cs, (0 ≤ q.1 ∧ q.1 < 64) ∧ (0 ≤ q.2.1 ∧ q.2.1 < 18446744073709551616) ∧ (-9223372036854775808 ≤ q.2.2 ∧ q.2.2 ≤ 9223372036854775807)) (hl : cs.length ≤ 4096) : allN takeC (wrL cs) 4096 = (cs, 0) := by
  have h := takeL_wr h0 [] []
  rw [List.append_nil, List.nil_append] at h
  have hN : takeN takeC (wrL cs, 0) 4096 = (([], 0), cs) := by
    unfold takeN wrL
    rw [takeU_uv (by omega)]
    dsimp only
    rw [if_pos rfl, if_neg (by omega), h]
    dsimp only
    rw [if_pos rfl]
  unfold allN
  rw [hN]
  dsimp only
  rw [if_pos rfl, if_neg (by simp)]
theorem readC_wr {cs : List Ch} (h0 : ∀ q ∈ cs, (0 ≤ q.1 ∧ q.1 < 64) ∧ (0 ≤ q.2.1 ∧ q.2.1 < 18446744073709551616) ∧ (-9223372036854775808 ≤ q.2.2 ∧ q.2.2 ≤ 9223372036854775807)) (hl : cs.length ≤ 4096) : readC (wrL cs) = (cs, 0) := by
  refine readC_ok (allC_wr h0 hl) (fun h => ?_)
  have h2 := h.2
  rw [List.any_eq_true] at h2
  obtain ⟨q, hq, hn⟩ := h2
  unfold negC at hn
  have := (h0 q hq).1
  simp at hn
  omega
end Go.Proofs.Ytnlhgnioedalpaa.Cod
