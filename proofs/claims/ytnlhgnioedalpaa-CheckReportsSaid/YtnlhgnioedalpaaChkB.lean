/- check: Kept, All. -/
import Derived.Test.YtnlhgnioedalpaaChkA
set_option linter.unusedSimpArgs false
set_option linter.unusedVariables false
namespace Go.Proofs.Ytnlhgnioedalpaa.Pri
open Go.RowKit Go.Proofs.YtnlhgnioedalpaaW.PrintWords Go.Proofs.Ytnlhgnioedalpaa.PPricePlays Go.Maps
attribute [local go_sem] Oper.semAt_some

theorem mem_at {es : List En} {e : En} (h : e ∈ es) : ∃ j, j < es.length ∧ es.getD j dE = e := by
  obtain ⟨j, hj, rfl⟩ := List.getElem_of_mem h
  exact ⟨j, hj, by simp [List.getD, hj]⟩
/-- where b is first -/
structure Idx2 (es : List En) (b : En) (r : Int) : Prop where
  ends : (r = -1 ∧ es.contains b = false) ∨ (0 ≤ r ∧ es.contains b = true)
set_option maxRecDepth 100000 in
set_option maxHeartbeats 4000000 in
theorem index_any (W : World) (v : Value) (es : List En) (h : PE W v es) (hl : es.length ≤ 1099511627776) (x y : Int) :
    Calls Try.prog 104 #[v, .agg #[.int .u64 x, .int .i64 y]] W fun e w' => ∃ r, e = .returned (.int .i64 r) ∧ Idx2 es (x, y) r ∧ Below W.heap.size W w' := by
  have hal : Below W.heap.size W (W.alloc (.cells #[.int .u64 x, .int .i64 y] tB)) := (Below.refl _ W).alloc (Nat.le_refl _) _
  have H := Lib.hid (h.below hal); have HB := Lib.hid hal; have HBL := Lib.hid (blkB W x y)
  obtain ⟨W1, hW1⟩ : ∃ W1, W.alloc (.cells #[.int .u64 x, .int .i64 y] tB) = W1 := ⟨_, rfl⟩
  rw [hW1] at H HB HBL
  have HW1 := Lib.hid hW1
  obtain ⟨A, c, rfl, -⟩ := h
  clear hal hW1
  go_enter Try.func104, Try.ntmps104
  go_wp2_with fail
  rw [HW1.out]
  go_loopw [8] (fun i wr => ∃ k : Nat, k ≤ es.length ∧ i = .int .i64 (k : Int) ∧ Below W1.heap.size W1 wr ∧ ∀ j, j < k → es.getD j dE ≠ (x, y)) (fun i _ => es.length - (intOf i).toNat)
  case atStart => exact ⟨0, Nat.zero_le _, rfl, Below.refl _ W1, fun j hj => by omega⟩
  case round =>
    obtain ⟨k, hk, rfl, hB, hno⟩ := hrel
    have HN := Lib.hid hno; have HBr := Lib.hid hB
    by_cases hlt : k < es.length
    · obtain ⟨⟨x2, y2⟩, hx⟩ : ∃ x, es[k] = x := ⟨_, rfl⟩
      have hx2 : es[k]? = some (x2, y2) := by rw [List.getElem?_eq_getElem hlt, hx]
      have hgd : es.getD k dE = (x2, y2) := by rw [List.getD_eq_getElem?_getD, hx2]; rfl
      obtain ⟨b3, off3, c4, e1, hlb, r0, r1⟩ := (H.out.below hB).at hx2
      obtain ⟨rfl, rfl⟩ : A = some ⟨b3, off3, none⟩ ∧ c = c4 := by injection e1 with e1 e2 e3; exact ⟨e1, e3⟩
      simp only at r0 r1
      have q0 := (HBL.out.belowS hB).cell (i := 0) rfl
      have q1 := (HBL.out.belowS hB).cell (i := 1) rfl
      have HG := Lib.hid hgd
      clear hx hx2 hgd e1 hB hno
      by_cases he : x = x2 ∧ y = y2
      · obtain ⟨rfl, rfl⟩ := he
        go_wp2_with fail
        go_region_with (fail)
        all_goals
          go_wp2_with fail
          exact bodyPost_ret (v := .int .i64 (k : Int)) (by simp [results, Try.f104, go_sem]) rfl ⟨_, rfl, ⟨.inr ⟨by omega, by rw [List.contains_iff_mem, ← HG.out, show es.getD k dE = es[k] from by simp [List.getD, hlt]]; exact List.getElem_mem hlt⟩⟩, HB.out.trans ((HBr.out.drew).mono HB.out.size)⟩
      · have HNE := Lib.hid he
        by_cases hxx : x = x2
        · subst hxx
          have hyy : ¬ y = y2 := fun e => HNE.out ⟨rfl, e⟩
          go_wp2_with fail
          go_region_with (fail)
          all_goals
            go_wp2_with fail
            go_roundw
            case rel => exact ⟨k + 1, by omega, by simp, HBr.out.drew, fun j hj => by
              rcases Nat.lt_succ_iff_lt_or_eq.1 hj with h | rfl
              · exact HN.out j h
              · rw [HG.out]; intro e; injection e with e1 e2; exact hyy e2.symm⟩
            case measure => simp [intOf]; omega
        · go_wp2_with fail
          go_region_with (fail)
          all_goals
            go_wp2_with fail
            go_roundw
            case rel => exact ⟨k + 1, by omega, by simp, HBr.out.drew, fun j hj => by
              rcases Nat.lt_succ_iff_lt_or_eq.1 hj with h | rfl
              · exact HN.out j h
              · rw [HG.out]; intro e; injection e with e1 e2; exact hxx e1.symm⟩
            case measure => simp [intOf]; omega
    · obtain rfl : k = es.length := by omega
      have hc : es.contains (x, y) = false := by
        rw [Bool.eq_false_iff]
        intro hc
        obtain ⟨j, hj, e⟩ := mem_at (List.contains_iff_mem.1 hc)
        exact HN.out j hj e
      clear hno
      go_wp2_with fail
      exact bodyPost_ret (v := .int .i64 (-1)) (by simp [results, Try.f104, go_sem]) rfl ⟨_, rfl, ⟨.inl ⟨rfl, hc⟩⟩, HB.out.trans (HBr.out.mono HB.out.size)⟩
theorem contains_any (W : World) (v : Value) (es : List En) (h : PE W v es) (hl : es.length ≤ 1099511627776) (x y : Int) :
    Calls Try.prog 75 #[v, .agg #[.int .u64 x, .int .i64 y]] W fun e w' => e = .returned (.bool (es.contains (x, y))) ∧ Below W.heap.size W w' := by
  have hal : Below W.heap.size W (W.alloc (.cells #[.int .u64 x, .int .i64 y] tB)) := (Below.refl _ W).alloc (Nat.le_refl _) _
  have H := Lib.hid (h.below hal); have HB := Lib.hid hal
  have c0 := (blkB W x y).cell (i := 0) rfl
  have c1 := (blkB W x y).cell (i := 1) rfl
  obtain ⟨A, c, rfl, -⟩ := h
  obtain ⟨o, ho⟩ : ∃ o, es.contains (x, y) = o := ⟨_, rfl⟩
  have HO := Lib.hid ho
  rw [ho]
  clear hal ho
  go_enter Try.func75, Try.ntmps75
  go_wp2_with fail
  refine (index_any _ _ es H.out hl x y).mono ?_; rintro e w1 ⟨r, rfl, hr, hb⟩
  have HB1 := Lib.hid (HB.out.trans (hb.mono HB.out.size))
  clear hb c0 c1
  rcases hr.ends with ⟨rfl, hc⟩ | ⟨h0, hc⟩
  · rw [HO.out] at hc
    subst hc
    clear hr
    go_wp2_with fail
    go_ret
    exact ⟨by simp, HB1.out⟩
  · rw [HO.out] at hc
    subst hc
    clear hr
    go_wp2_with fail
    go_ret
    exact ⟨by simp [h0], HB1.out⟩
/-- a bid that was the last one, and is there no more -/
def goneB (now es : List En) (b : En) : Bool := decide (b.2 < askL es b.1) && !(now.contains b)
set_option maxHeartbeats 2000000 in
theorem kept1_any (W : World) (B1 B2 p : Nat) (es now : List En) (c : Nat) (A : Option Addr) (h1 : Blk W B1 25 [.pointer (some ⟨p, 0, none⟩)]) (h2 : Blk W B2 55 [.slice A now.length c]) (hn : PE W (.slice A now.length c) now) (h : SR W p es) (hl : now.length ≤ 1099511627776) (x y : Int) (hx : U x) :
    Calls Try.prog 74 #[.agg #[.int .u64 x, .int .i64 y], .pointer (some ⟨B1, 0, none⟩), .pointer (some ⟨B2, 0, none⟩)] W fun e w' => e = .returned (.bool (goneB now es (x, y))) ∧ Below W.heap.size W w' := by
  have hal : Below W.heap.size W (W.alloc (.cells #[.int .u64 x, .int .i64 y] tB)) := (Below.refl _ W).alloc (Nat.le_refl _) _
  have HB := Lib.hid hal; have HL := Lib.hid (blkB W x y)
  have d1 := (h1.belowS hal).cell (i := 0) rfl
  have d2 := (h2.belowS hal).cell (i := 0) rfl
  have c0 := (blkB W x y).cell (i := 0) rfl
  have c1 := (blkB W x y).cell (i := 1) rfl
  have H2 := Lib.hid (h2.belowS hal); have HN := Lib.hid (hn.below hal)
  have LA := last_any _ p es x y (h.below hal) hx
  obtain ⟨o, ho⟩ : ∃ o, decide (y < askL es x) = o := ⟨_, rfl⟩
  obtain ⟨q, hq⟩ : ∃ q, now.contains (x, y) = q := ⟨_, rfl⟩
  have e1 : goneB now es (x, y) = (o && !q) := by unfold goneB; rw [ho, hq]
  rw [e1]
  rw [ho] at LA
  have CO := fun (w : World) (hw : PE w (.slice A now.length c) now) => contains_any w _ now hw hl x y
  rw [hq] at CO
  have HLA := Lib.hid LA; have HCO := Lib.hid CO
  clear hal h1 h2 hn h LA CO ho hq e1
  go_enter Try.func74, Try.ntmps74
  go_wp2_with fail
  refine HLA.out.mono ?_; rintro e w1 ⟨rfl, hb1⟩
  have HB1 := Lib.hid (HB.out.trans (hb1.mono HB.out.size)); have HN1 := Lib.hid (HN.out.below hb1)
  have f2 := (H2.out.belowS hb1).cell (i := 0) rfl
  have f0 := (HL.out.belowS hb1).cell (i := 0) rfl
  have f1 := (HL.out.belowS hb1).cell (i := 1) rfl
  clear hb1 c0 c1 d1 d2
  cases o with
  | false =>
    go_wp2_with fail
    go_ret
    exact ⟨by simp, HB1.out⟩
  | true =>
    go_wp2_with fail
    refine (HCO.out _ HN1.out).mono ?_; rintro e w2 ⟨rfl, hb2⟩
    have HB2 := Lib.hid (HB1.out.trans (hb2.mono HB1.out.size))
    clear hb2
    go_wp2_with fail
    go_ret
    exact ⟨by simp, HB2.out⟩
set_option maxRecDepth 100000 in
set_option maxHeartbeats 4000000 in
theorem idxB_any (W : World) (v : Value) (old : List En) (hv : PE W v old) (hU : UE old) (hlo : old.length ≤ 1099511627776) (B1 B2 p : Nat) (es now : List En) (c : Nat) (A : Option Addr) (h1 : Blk W B1 25 [.pointer (some ⟨p, 0, none⟩)]) (h2 : Blk W B2 55 [.slice A now.length c]) (hn : PE W (.slice A now.length c) now) (h : SR W p es) (hl : now.length ≤ 1099511627776) :
    Calls Try.prog 103 #[v, .func (.func 74) #[] #[.pointer (some ⟨B1, 0, none⟩), .pointer (some ⟨B2, 0, none⟩)]] W fun e w' => ∃ r, e = .returned (.int .i64 r) ∧ ((r = -1 ∧ old.any (goneB now es) = false) ∨ (0 ≤ r ∧ old.any (goneB now es) = true)) ∧ Below W.heap.size W w' := by
  have HV := Lib.hid hv; have H1 := Lib.hid h1; have H2 := Lib.hid h2; have HN := Lib.hid hn; have HS := Lib.hid h
  obtain ⟨Av, cv, rfl, -⟩ := hv
  clear h1 h2 hn h
  go_enter Try.func103, Try.ntmps103
  go_wp2_with fail
  go_loopw [8] (fun i wr => ∃ k : Nat, k ≤ old.length ∧ i = .int .i64 (k : Int) ∧ Below W.heap.size W wr ∧ ∀ j, j < k → goneB now es (old.getD j dE) = false) (fun i _ => old.length - (intOf i).toNat)
  case atStart => exact ⟨0, Nat.zero_le _, rfl, Below.refl _ W, fun j hj => by omega⟩
  case round =>
    obtain ⟨k, hk, rfl, hB, hno⟩ := hrel
    by_cases hlt : k < old.length
    · obtain ⟨⟨x, y⟩, hx⟩ : ∃ x, old[k] = x := ⟨_, rfl⟩
      have hx2 : old[k]? = some (x, y) := by rw [List.getElem?_eq_getElem hlt, hx]
      have hgd : old.getD k dE = (x, y) := by rw [List.getD_eq_getElem?_getD, hx2]; rfl
      have hux : U x := hU _ (List.mem_of_getElem? hx2)
      obtain ⟨b3, off3, c4, e1, hlb, r0, r1⟩ := (HV.out.below hB).at hx2
      obtain ⟨rfl, rfl⟩ : Av = some ⟨b3, off3, none⟩ ∧ cv = c4 := by injection e1 with e1 e2 e3; exact ⟨e1, e3⟩
      simp only at r0 r1
      have P1 := kept1_any wr B1 B2 p es now c A (H1.out.belowS hB) (H2.out.belowS hB) (HN.out.below hB) (HS.out.below hB) hl x y hux
      have HB := Lib.hid hB; have HNO := Lib.hid hno
      obtain ⟨o, ho⟩ : ∃ o, goneB now es (x, y) = o := ⟨_, rfl⟩
      rw [ho] at P1
      have HP1 := Lib.hid P1
      have HO := Lib.hid (show goneB now es (old.getD k dE) = o by rw [hgd]; exact ho)
      clear hx hx2 hgd e1 P1 hB hno ho
      go_wp2_with fail
      refine HP1.out.mono ?_; rintro e w1 ⟨rfl, hb1⟩
      have HB1 := Lib.hid (HB.out.trans (hb1.mono HB.out.size))
      clear hb1
      cases o with
      | true =>
        go_wp2_with fail
        exact bodyPost_ret (v := .int .i64 (k : Int)) (by simp [results, Try.f103, go_sem]) rfl ⟨_, rfl, .inr ⟨by omega, List.any_eq_true.2 ⟨_, List.getElem_mem hlt, by have := HO.out; rwa [show old.getD k dE = old[k] from by simp [List.getD, hlt]] at this⟩⟩, HB1.out⟩
      | false =>
        go_wp2_with fail
        go_roundw
        case rel => exact ⟨k + 1, by omega, by simp, HB1.out, fun j hj => by rcases Nat.lt_succ_iff_lt_or_eq.1 hj with h | rfl; exact HNO.out j h; exact HO.out⟩
        case measure => simp [intOf]; omega
    · obtain rfl : k = old.length := by omega
      have HNO := Lib.hid hno
      clear hno
      go_wp2_with fail
      exact bodyPost_ret (v := .int .i64 (-1)) (by simp [results, Try.f103, go_sem]) rfl ⟨_, rfl, .inl ⟨rfl, by
        rw [Bool.eq_false_iff]
        intro hc
        obtain ⟨e, he, hg⟩ := List.any_eq_true.1 hc
        obtain ⟨j, hj, rfl⟩ := mem_at he
        rw [HNO.out j hj] at hg; cases hg⟩, hB⟩
theorem containsF_any (W : World) (v : Value) (old : List En) (hv : PE W v old) (hU : UE old) (hlo : old.length ≤ 1099511627776) (B1 B2 p : Nat) (es now : List En) (c : Nat) (A : Option Addr) (h1 : Blk W B1 25 [.pointer (some ⟨p, 0, none⟩)]) (h2 : Blk W B2 55 [.slice A now.length c]) (hn : PE W (.slice A now.length c) now) (h : SR W p es) (hl : now.length ≤ 1099511627776) :
    Calls Try.prog 73 #[v, .func (.func 74) #[] #[.pointer (some ⟨B1, 0, none⟩), .pointer (some ⟨B2, 0, none⟩)]] W fun e w' => e = .returned (.bool (old.any (goneB now es))) ∧ Below W.heap.size W w' := by
  have IX := Lib.hid (idxB_any W v old hv hU hlo B1 B2 p es now c A h1 h2 hn h hl)
  obtain ⟨o, ho⟩ : ∃ o, old.any (goneB now es) = o := ⟨_, rfl⟩
  rw [ho] at IX ⊢
  obtain ⟨Av, cv, rfl, -⟩ := hv
  clear h1 h2 hn h ho
  go_enter Try.func73, Try.ntmps73
  go_wp2_with fail
  refine IX.out.mono ?_; rintro e w1 ⟨r, rfl, hr, hb⟩
  have HB := Lib.hid hb
  clear hb
  rcases hr with ⟨rfl, rfl⟩ | ⟨h0, rfl⟩
  · go_wp2_with fail
    go_ret
    exact ⟨by simp, HB.out⟩
  · go_wp2_with fail
    go_ret
    exact ⟨by simp [h0], HB.out⟩
theorem kept_gone (old now es : List En) : keptB old now es = !(old.any (goneB now es)) := by
  unfold keptB goneB
  induction old with
  | nil => rfl
  | cons b r ih => rw [List.all_cons, List.any_cons, Bool.not_or, ih]; simp
set_option maxHeartbeats 2000000 in
theorem kept_any (W : World) (v u : Value) (old now : List En) (hv : PE W v old) (hU : UE old) (hlo : old.length ≤ 1099511627776) (hu : PE W u now) (hl : now.length ≤ 1099511627776) (p : Nat) (es : List En) (h : SR W p es) :
    Calls Try.prog 37 #[v, u, .pointer (some ⟨p, 0, none⟩)] W fun e w' => e = .returned (.bool (keptB old now es)) ∧ Below W.heap.size W w' := by
  obtain ⟨Av, cv, rfl, -⟩ := id hv
  obtain ⟨A, c, rfl, -⟩ := id hu
  have hal : Below W.heap.size W ((W.alloc (.cells #[.slice A now.length c] 55)).alloc (.cells #[.pointer (some ⟨p, 0, none⟩)] 25)) := ((Below.refl _ W).alloc (Nat.le_refl _) _).alloc (by simp) _
  have b1 : Blk ((W.alloc (.cells #[.slice A now.length c] 55)).alloc (.cells #[.pointer (some ⟨p, 0, none⟩)] 25)) W.heap.size 55 [.slice A now.length c] := (Blk.new W [.slice A now.length c] 55).alloc _
  have b2 := Blk.new2 W (.cells #[.slice A now.length c] 55) [.pointer (some ⟨p, 0, none⟩)] 25
  have IX := containsF_any _ _ old (hv.below hal) hU hlo (W.heap.size + 1) W.heap.size p es now c A b2 b1 (hu.below hal) (h.below hal) hl
  rw [kept_gone]
  obtain ⟨o, ho⟩ : ∃ o, old.any (goneB now es) = o := ⟨_, rfl⟩
  rw [ho] at IX ⊢
  have HIX := Lib.hid IX; have HB := Lib.hid hal
  clear IX hal b1 b2 hv hu h ho
  go_enter Try.func37, Try.ntmps37
  go_wp2_with fail
  refine HIX.out.mono ?_; rintro e w1 ⟨rfl, hb⟩
  have HB1 := Lib.hid (HB.out.trans (hb.mono HB.out.size))
  clear hb
  go_wp2_with fail
  go_ret
  exact ⟨rfl, HB1.out⟩
/-- the sets that were seen, in a map -/
def SM (W : World) (b n : Nat) (l : List Int) : Prop := ∃ D : DataW Unit, W.ownsMap Try.prog 32 (plainElem Try.prog 4) b n D ∧ ∀ s, U s → D.atKey (.int .u64 s) (.lit (.bool false)) = .lit (.bool (l.contains s))
theorem law32 : Keyed Try.prog 32 := int_keyed Try.underlying32
theorem zero4 (w : World) : (zeroValue 4).run Try.prog w = .ok (.bool false) w := by kernel_rfl
theorem u_wf {s : Int} (h : U s) : (Lit.int .u64 s).wf = true := by
  show (decide (IntKind.u64.min ≤ s) && decide (s ≤ IntKind.u64.max)) = true
  have h1 : IntKind.u64.min = 0 := by decide
  have h2 : IntKind.u64.max = 18446744073709551615 := by decide
  rw [h1, h2, decide_eq_true h.1, decide_eq_true (by have := h.2; omega)]
  rfl
theorem plain_bool_inv {P : Program} {e : TypeId} (he : P.underlying e = some .bool) {v : Value} {z : DataW Unit × List MemPlace} (h : plainElem P e v = some z) : ∃ x, v = .bool x ∧ z = (.lit (.bool x), []) := by
  unfold plainElem at h
  rw [he] at h
  cases v <;> simp at h
  exact ⟨_, rfl, h.symm⟩
theorem look_bool {P : Program} {t k e : TypeId} {w : World} {b n : Nat} {D : DataW Unit} (h : w.ownsMap P k (plainElem P e) b n D) (K : Keyed P k) (ht : P.underlying t = some (.map k e)) (he : P.underlying e = some .bool) (hz : (zeroValue e).run P w = .ok (.bool false) w)
    {key : Value} {kl : Lit} (hkey : keyOf P k key = some kl) : ∃ x, (Instr.lookup t (.map (some b)) key false).run P w = .ok (.bool x) w ∧ D.atKey kl (.lit (.bool false)) = .lit (.bool x) := by
  obtain ⟨v, ps, hrun, hv⟩ := h.lookup K ht hz (plainElem_bool he false) hkey
  obtain ⟨x, rfl, hx⟩ := plain_bool_inv he hv
  injection hx with hx _
  exact ⟨x, hrun, hx⟩
set_option maxRecDepth 100000 in
theorem SM.look {W : World} {b n : Nat} {l : List Int} (h : SM W b n l) {s : Int} (hs : U s) : (Instr.lookup 116 (.map (some b)) (.int .u64 s) false).run Try.prog W = .ok (.bool (l.contains s)) W := by
  obtain ⟨D, ho, hD⟩ := h
  obtain ⟨x, hrun, hx⟩ := look_bool ho law32 Try.underlying116 Try.underlying4 (zero4 W) (keyOf_int_mk Try.underlying32 (u_wf hs))
  have h2 := (hD s hs).symm.trans hx
  injection h2 with h2
  injection h2 with h2
  subst h2
  exact hrun
theorem isKey_int (q : IntKind) (s : Int) : WideAt.IsKeyLit (.int q s) := trivial
theorem SM.put {D : DataW Unit} {l : List Int} (hI : IsMap D) (hD : ∀ s, U s → D.atKey (.int .u64 s) (.lit (.bool false)) = .lit (.bool (l.contains s))) (x : Int) : ∀ s, U s → (D.put (.int .u64 x) (.lit (.bool true))).atKey (.int .u64 s) (.lit (.bool false)) = .lit (.bool ((x :: l).contains s)) := fun s hs => by
  by_cases hx : s = x
  · subst hx
    rw [atKey_put_same hI (isKey_int _ _)]
    simp
  · rw [atKey_put_other (fun e => hx (by injection e)), hD s hs]
    simp [hx]
theorem SM.kept {W W' : World} {b n : Nat} {l : List Int} {row : Option Nat} (h : SM W b n l) (hg : W.grownBy W' row) (hne : some b ≠ row) : SM W' b n l := by
  obtain ⟨D, ho, hD⟩ := h
  exact ⟨D, ho.kept hg hne, hD⟩
theorem SM.made (W : World) : SM (W.alloc (.map #[] 0)) W.heap.size 0 [] := ⟨_, World.ownsMap_made W _ _ _, fun s hs => rfl⟩
set_option maxRecDepth 100000 in
set_option maxHeartbeats 4000000 in
theorem all_any (W : World) (v : Value) (bs : List En) (hv : PE W v bs) (hU : UE bs) (p : Nat) (es : List En) (h : SR W p es) (items : Int) (hi : U items) :
    Calls Try.prog 35 #[v, .pointer (some ⟨p, 0, none⟩), .int .u64 items] W fun e w' => e = .returned (.int .i64 (allN bs es items)) ∧ Below W.heap.size W w' := by
  have HV := Lib.hid hv; have HS := Lib.hid h
  obtain ⟨A, c, rfl, -⟩ := hv
  clear h
  unfold allN
  by_cases hlong : 64 < bs.length
  · have g1 : (64 : Int) < (bs.length : Int) := by omega
    go_enter Try.func35, Try.ntmps35
    go_wp2_with fail
    go_ret
    exact ⟨rfl, Below.refl _ W⟩
  · have g1 : ¬ (64 : Int) < (bs.length : Int) := by omega
    rw [if_neg hlong]
    obtain ⟨R, hR⟩ : ∃ R, allR es items [] bs = R := ⟨_, rfl⟩
    have HR := Lib.hid (show allR es items [] (bs.drop 0) = R from by rw [List.drop_zero]; exact hR)
    rw [hR]
    have HM := Lib.hid (SM.made W); have HB := Lib.hid (show Below W.heap.size W (W.alloc (.map #[] 0)) from (Below.refl _ W).alloc (Nat.le_refl _) _)
    obtain ⟨B, hBn⟩ : ∃ B, W.heap.size = B := ⟨_, rfl⟩
    have HBn := Lib.hid hBn
    rw [hBn] at HM
    have hmm := @run_makeMap Try.prog
    clear hR hBn
    go_enter Try.func35, Try.ntmps35
    go_wp2_with fail
    rw [HBn.out]
    go_loopw [17] (fun i wr => ∃ k : Nat, ∃ l : List Int, k ≤ bs.length ∧ i = .int .i64 (k : Int) ∧ SM wr B k l ∧ Below W.heap.size W wr ∧ allR es items l (bs.drop k) = R) (fun i _ => bs.length - (intOf i).toNat)
    case atStart => exact ⟨0, [], Nat.zero_le _, rfl, HM.out, HB.out, HR.out⟩
    case round =>
      clear HM HB HR hmm
      obtain ⟨k, l, hk, rfl, hM, hB, hR⟩ := hrel
      by_cases hlt : k < bs.length
      · obtain ⟨⟨x, y⟩, hx⟩ : ∃ x, bs[k] = x := ⟨_, rfl⟩
        have hx2 : bs[k]? = some (x, y) := by rw [List.getElem?_eq_getElem hlt, hx]
        have hux : U x := hU _ (List.mem_of_getElem? hx2)
        obtain ⟨b3, off3, c4, e1, hlb, r0, r1⟩ := (HV.out.below hB).at hx2
        obtain ⟨rfl, rfl⟩ : A = some ⟨b3, off3, none⟩ ∧ c = c4 := by injection e1 with e1 e2 e3; exact ⟨e1, e3⟩
        simp only at r0 r1
        have hal : Below wr.heap.size wr (wr.alloc (.cells #[.int .u64 x, .int .i64 y] tB)) := (Below.refl _ wr).alloc (Nat.le_refl _) _
        have hdr : bs.drop k = (x, y) :: bs.drop (k + 1) := by rw [← hx]; exact (List.getElem_cons_drop ..).symm
        rw [hdr] at hR
        simp only [allR] at hR
        have ON := one_any _ p es x y items ((HS.out.below hB).below hal) hux hi
        obtain ⟨o, ho⟩ : ∃ o, oneN (x, y) es items = o := ⟨_, rfl⟩
        rw [ho] at ON hR
        have hM1 := hM.kept (gb_none hal) (by simp)
        have HON := Lib.hid ON; have HR := Lib.hid hR; have HB1 := Lib.hid (hB.trans (hal.mono hB.size)); have HM1 := Lib.hid hM1; have HBL := Lib.hid (blkB wr x y)
        have hMl : B < (wr.alloc (.cells #[.int .u64 x, .int .i64 y] tB)).heap.size := by obtain ⟨D, hD, _⟩ := hM1; exact hD.lt
        have HML := Lib.hid hMl
        clear hx hx2 e1 hal hdr hR ON ho hM hB hM1 hMl
        go_wp2_with fail
        refine HON.out.mono ?_; rintro e w1 ⟨rfl, hb1⟩
        have HB2 := Lib.hid (HB1.out.trans (hb1.mono HB1.out.size)); have hM2 := HM1.out.kept (gb_none hb1) (by simp)
        have c0 := (HBL.out.belowS hb1).cell (i := 0) rfl
        have c1 := (HBL.out.belowS hb1).cell (i := 1) rfl
        by_cases ho : o = 0
        · subst ho
          have hlk := hM2.look hux
          have HR2 := Lib.hid (show (if l.contains x = true then 5 else allR es items (x :: l) (bs.drop (k + 1))) = R from by have := HR.out; rwa [if_neg (by simp)] at this)
          obtain ⟨q, hq⟩ : ∃ q, l.contains x = q := ⟨_, rfl⟩
          rw [hq] at hlk HR2
          obtain ⟨D, hown, hD⟩ := hM2
          have HOWN := Lib.hid hown; have HD := Lib.hid hD; have HZ := Lib.hid hb1.size
          clear hb1 hown hD hq
          cases q with
          | true =>
            have HR3 := Lib.hid (show (5 : Int) = R from by have := HR2.out; rwa [if_pos rfl] at this)
            go_wp2_with fail
            go_ret
            exact ⟨by have := HR3.out; subst this; rfl, HB2.out⟩
          | false =>
            have HR3 := Lib.hid (show allR es items (x :: l) (bs.drop (k + 1)) = R from by have := HR2.out; rwa [if_neg (by simp)] at this)
            go_wp2_with (first | (at_mapUpdate; refine wpList_mapUpdate_own _ rfl _ _ _ 116 rfl 32 4 law32 Try.underlying116 _ B k _ rfl HOWN.out (by unfold maxLen; omega) _ _ _ rfl rfl (keyOf_int_mk Try.underlying32 (u_wf hux)) _ [] (plainElem_bool Try.underlying4 true) ?_; intro w2 hown2 hgrow2) | fail)
            have HN := Lib.hid (show SM w2 B (k + 1) (x :: l) ∧ Below W.heap.size W w2 from ⟨⟨_, hown2, SM.put HOWN.out.isMap HD.out x⟩, HB2.out.grown hgrow2 HB2.out.size (fun r e => by cases e; exact Nat.le_of_eq HBn.out)⟩)
            clear hown2 hgrow2
            go_wp2_with fail
            go_roundw
            case rel => exact ⟨k + 1, x :: l, by omega, by simp, HN.out.1, HN.out.2, HR3.out⟩
            case measure => simp [intOf]; omega
        · have HR2 := Lib.hid (show o = R from by have := HR.out; rwa [if_pos (by simpa using ho)] at this)
          clear hM2 hb1
          go_wp2_with fail
          go_ret
          exact ⟨by have := HR2.out; subst this; rfl, HB2.out⟩
      · obtain rfl : k = bs.length := by omega
        rw [List.drop_length] at hR
        have HR := Lib.hid (show (0 : Int) = R from hR)
        clear hR hM
        go_wp2_with fail
        go_ret
        exact ⟨by have := HR.out; subst this; rfl, hB⟩
end Go.Proofs.Ytnlhgnioedalpaa.Pri
