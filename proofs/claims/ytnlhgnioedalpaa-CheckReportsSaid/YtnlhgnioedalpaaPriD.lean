/- price: what a put takes out (slices.DeleteFunc). -/
import Derived.Test.YtnlhgnioedalpaaPriA
set_option linter.unusedSimpArgs false
set_option linter.unusedVariables false
namespace Go.Proofs.Ytnlhgnioedalpaa.Pri
open Go.RowKit Go.Proofs.YtnlhgnioedalpaaW.PrintWords Go.Proofs.Ytnlhgnioedalpaa.PPricePlays
attribute [local go_sem] Oper.semAt_some

/-- goes an entry out, where a is put for s? -/
def outP (s a : Int) (e : En) : Bool := wi s e.1 && decide (e.2 ≤ a)
theorem delL_eq (es : List En) (s a : Int) : delL es s a = es.filter (fun e => !(outP s a e)) := rfl
theorem put1_any (W : World) (B1 B2 : Nat) (s a x y : Int) (hs : U s) (hx : U x) (h1 : Blk W B1 32 [.int .u64 s]) (h2 : Blk W B2 2 [.int .i64 a]) :
    Calls Try.prog 64 #[.agg #[.int .u64 x, .int .i64 y], .pointer (some ⟨B1, 0, none⟩), .pointer (some ⟨B2, 0, none⟩)] W fun e w' => e = .returned (.bool (outP s a (x, y))) ∧ Below W.heap.size W w' := by
  have hal : Below W.heap.size W (W.alloc (.cells #[.int .u64 x, .int .i64 y] tE)) := (Below.refl _ W).alloc (Nat.le_refl _) _
  have c1 := h1.cell (i := 0) rfl
  have c2 := h2.cell (i := 0) rfl
  have l1 := h1.lt
  have l2 := h2.lt
  unfold outP
  dsimp only
  have HAL := Lib.hid hal
  clear hal h1 h2
  have WI := within_any (W.alloc (.cells #[.int .u64 x, .int .i64 y] tE)) s x hs hx
  cases hwi : wi s x with
  | false =>
    rw [hwi] at WI
    have HWI := Lib.hid WI
    clear WI hwi
    go_enter Try.func64, Try.ntmps64
    go_wp2_with fail
    refine HWI.out.mono ?_; rintro e w1 ⟨rfl, rfl⟩
    go_wp2_with fail
    go_ret
    exact ⟨rfl, HAL.out⟩
  | true =>
    rw [hwi] at WI
    have HWI := Lib.hid WI
    clear WI hwi
    go_enter Try.func64, Try.ntmps64
    go_wp2_with fail
    refine HWI.out.mono ?_; rintro e w1 ⟨rfl, rfl⟩
    go_wp2_with fail
    go_ret
    exact ⟨by simp, HAL.out⟩
/-- where the first one goes out -/
structure Idx (es : List En) (s a r : Int) : Prop where
  ends : (r = -1 ∧ ∀ e ∈ es, outP s a e = false) ∨ ∃ i : Nat, r = (i : Int) ∧ i < es.length ∧ outP s a (es.getD i dE) = true ∧ ∀ j, j < i → outP s a (es.getD j dE) = false
set_option maxRecDepth 100000 in
set_option maxHeartbeats 4000000 in
theorem idx_any (W : World) (v : Value) (es : List En) (h : PE W v es) (hU : UE es) (hl : es.length ≤ 1099511627776) (B1 B2 : Nat) (s a : Int) (hs : U s) (h1 : Blk W B1 32 [.int .u64 s]) (h2 : Blk W B2 2 [.int .i64 a]) :
    Calls Try.prog 96 #[v, .func (.func 64) #[] #[.pointer (some ⟨B1, 0, none⟩), .pointer (some ⟨B2, 0, none⟩)]] W fun e w' => ∃ r, e = .returned (.int .i64 r) ∧ Idx es s a r ∧ Below W.heap.size W w' := by
  have H := Lib.hid h; have H1 := Lib.hid h1; have H2 := Lib.hid h2
  obtain ⟨A, c, rfl, -⟩ := h
  clear h1 h2
  go_enter Try.func96, Try.ntmps96
  go_wp2_with fail
  go_loopw [8] (fun i wr => ∃ k : Nat, k ≤ es.length ∧ i = .int .i64 (k : Int) ∧ Below W.heap.size W wr ∧ ∀ j, j < k → outP s a (es.getD j dE) = false) (fun i _ => es.length - (intOf i).toNat)
  case atStart => exact ⟨0, Nat.zero_le _, rfl, Below.refl _ W, fun j hj => by omega⟩
  case round =>
    obtain ⟨k, hk, rfl, hB, hno⟩ := hrel
    by_cases hlt : k < es.length
    · obtain ⟨⟨x, y⟩, hx⟩ : ∃ x, es[k] = x := ⟨_, rfl⟩
      have hx2 : es[k]? = some (x, y) := by rw [List.getElem?_eq_getElem hlt, hx]
      have hgd : es.getD k dE = (x, y) := by rw [List.getD_eq_getElem?_getD, hx2]; rfl
      have hux : U x := hU _ (List.mem_of_getElem? hx2)
      obtain ⟨b3, off3, c4, e1, hlb, r0, r1⟩ := (H.out.below hB).at hx2
      obtain ⟨rfl, rfl⟩ : A = some ⟨b3, off3, none⟩ ∧ c = c4 := by injection e1 with e1 e2 e3; exact ⟨e1, e3⟩
      simp only at r0 r1
      have P1 := put1_any wr B1 B2 s a x y hs hux (H1.out.belowS hB) (H2.out.belowS hB)
      have HB := Lib.hid hB; have HNO := Lib.hid hno
      obtain ⟨o, ho⟩ : ∃ o, outP s a (x, y) = o := ⟨_, rfl⟩
      rw [ho] at P1
      have HP1 := Lib.hid P1
      have HO := Lib.hid (show outP s a (es.getD k dE) = o by rw [hgd]; exact ho)
      clear hx hx2 hgd e1 P1 hB hno ho
      go_wp2_with fail
      refine HP1.out.mono ?_; rintro e w1 ⟨rfl, hb1⟩
      have HB1 := Lib.hid (HB.out.trans (hb1.mono HB.out.size))
      clear hb1
      cases o with
      | true =>
        go_wp2_with fail
        exact bodyPost_ret (v := .int .i64 (k : Int)) (by simp [results, Try.f96, go_sem]) rfl ⟨_, rfl, ⟨.inr ⟨k, rfl, hlt, HO.out, HNO.out⟩⟩, HB1.out⟩
      | false =>
        go_wp2_with fail
        go_roundw
        case rel => exact ⟨k + 1, by omega, by simp, HB1.out, fun j hj => by rcases Nat.lt_succ_iff_lt_or_eq.1 hj with h | rfl; exact HNO.out j h; exact HO.out⟩
        case measure => simp [intOf]; omega
    · obtain rfl : k = es.length := by omega
      go_wp2_with fail
      exact bodyPost_ret (v := .int .i64 (-1)) (by simp [results, Try.f96, go_sem]) rfl ⟨_, rfl, ⟨.inl ⟨rfl, fun e he => by
        obtain ⟨j, hj, rfl⟩ := List.getElem_of_mem he
        have := hno j hj
        rw [show es.getD j dE = es[j] from by simp [List.getD, hj]] at this
        exact this⟩⟩, hB⟩

theorem own_cut {w : World} {base size g n cap k : Nat} {e : TypeId} {xs : List Value} (h : w.ownsRow base e size (.slice (some ⟨g, 0, none⟩) n cap) n xs) (hk : k ≤ n) : w.ownsRow base e size (.slice (some ⟨g, 0, none⟩) k cap) k (xs.take (k * size)) := by
  have hm : k * size ≤ n * size := Nat.mul_le_mul_right _ hk
  refine ⟨by rw [List.length_take, h.1]; omega, .inr ?_⟩
  rcases h.2 with ⟨h1, _⟩ | ⟨g', cap', cur, h1, h2, h3, h4, h5, h6, h7⟩
  · cases h1
  · injection h1 with e1 e2 e3
    injection e1 with e1
    injection e1 with e1
    subst e1; subst e3
    exact ⟨g, cap, cur, rfl, h2, h3, by omega, h5, h6, by rw [← h7, List.take_take, Nat.min_eq_left hm]⟩
theorem gb_none {W W' : World} (hb : Below W.heap.size W W') : W.grownBy W' none := ⟨hb.os, hb.tape, hb.output, hb.size, fun k hk _ => hb.block k hk⟩
theorem own_below {w w' : World} {base n size : Nat} {e : TypeId} {v : Value} {xs : List Value} (h : w.ownsRow base e size v n xs) (hb : Below w.heap.size w w') : w'.ownsRow base e size v n xs :=
  h.kept (gb_none hb) (by cases v.ownBlock with | none => exact .inl rfl | some k => exact .inr (by simp))
/-- 'clear(s)' on a slice: its cells hold the zero value's, as many as there are. -/
theorem run_clear_any {P : Program} (w : World) (t e ty : TypeId) (z : Value) (m : Nat) (hm : 0 < m) (zs : List Value) (ht : P.underlying t = some (.slice e)) (hv : ∀ w, (zeroValue e).run P w = .ok z w) (hz : (Builtin.zeroCells z.cells m).toList = zs) (h1 : ∀ v ∈ zs, v.oneCell' = true) (b o c : Nat)
    (hc : ∀ j, j < zs.length → (w.cell? ⟨b, o + j, none⟩).isSome = true) (hf : ∀ j, j < zs.length → w.frozen? ⟨b, o + j, none⟩ = false) :
    (Builtin.clear_ #[t] ty #[.slice (some ⟨b, o, none⟩) m c]).run P w = .ok (.tuple #[]) (w.setCells b o zs) := by
  have hst := run_storeCells_cells (P := P) b o zs 0 w (by simpa using hc) (by simpa using hf) h1
  simp only [Nat.add_zero] at hst
  cases m with
  | zero => omega
  | succ m => simp [Builtin.clear_, run_underlying ht, hv, hz, hst]
theorem filter_take_succ {es : List En} {q : En → Bool} {j : Nat} (hj : j < es.length) : (es.take (j + 1)).filter q = (es.take j).filter q ++ (if q (es.getD j dE) = true then [es.getD j dE] else []) := by
  rw [List.take_succ_eq_append_getElem hj, List.filter_append, show es.getD j dE = es[j] from by simp [List.getD, hj]]
  congr 1
  by_cases h : q es[j] = true
  · rw [if_pos h, List.filter_cons_of_pos h, List.filter_nil]
  · rw [if_neg h, List.filter_cons_of_neg h, List.filter_nil]
theorem filter_take_first {es : List En} {s a : Int} {i : Nat} (hi : i < es.length) (hp : outP s a (es.getD i dE) = true) (hno : ∀ j, j < i → outP s a (es.getD j dE) = false) : (es.take (i + 1)).filter (fun e => !(outP s a e)) = es.take i := by
  rw [filter_take_succ hi, if_neg (by rw [hp]; decide), List.append_nil]
  refine List.filter_eq_self.2 (fun e he => ?_)
  obtain ⟨j, hj, rfl⟩ := List.getElem_of_mem he
  have hji : j < i := by rw [List.length_take] at hj; omega
  have := hno j hji
  rw [show es.getD j dE = es[j]'(by omega) from by simp [List.getD, (show j < es.length by omega)]] at this
  rw [List.getElem_take, this]
  rfl
/-- the row while it is gone over: what stays, what is left over, what is to come -/
structure DelI (W : World) (base g cap : Nat) (es : List En) (s a : Int) (i j : Nat) (w : World) : Prop where
  ij : i < j
  jn : j ≤ es.length
  b : Below base W w
  row : ∃ G : List En, ((es.take j).filter (fun e => !(outP s a e))).length = i ∧ i + G.length = j ∧ w.ownsRow base tE 2 (.slice (some ⟨g, 0, none⟩) es.length cap) es.length (cellsOf cE ((es.take j).filter (fun e => !(outP s a e)) ++ G ++ es.drop j))
theorem set_mid {F G D : List En} {x : En} (hG : 0 < G.length) : (F ++ G ++ D).set F.length x = F ++ [x] ++ G.tail ++ D := by
  cases G with
  | nil => simp at hG
  | cons y G => rw [List.append_assoc, List.set_append_right _ _ (Nat.le_refl _), Nat.sub_self]; simp
theorem own_frozen {w : World} {base size g n cap : Nat} {e : TypeId} {xs : List Value} (h : w.ownsRow base e size (.slice (some ⟨g, 0, none⟩) n cap) n xs) (k : Nat) : w.frozen? ⟨g, k, none⟩ = false := by
  rcases h.2 with ⟨h1, _⟩ | ⟨g', cap', cur, h1, h2, h3, _⟩
  · cases h1
  · injection h1 with e1 e2 e3
    injection e1 with e1
    injection e1 with e1
    subst e1
    exact frozen_of_row w g k cur e h3
theorem own_some {w : World} {base g n cap : Nat} {e : TypeId} {size : Nat} {xs : List Value} (h : w.ownsRow base e size (.slice (some ⟨g, 0, none⟩) n cap) n xs) {k : Nat} (hk : k < xs.length) : ∃ v, w.cell? ⟨g, k, none⟩ = some v := by
  have := h.cellAt k (by rw [← h.1]; exact hk)
  rw [List.getElem?_eq_getElem hk] at this
  exact ⟨_, this⟩
def zeroE : Value := .agg #[.int .u64 0, .int .i64 0]
theorem zeroE_cells : zeroE.cells = #[.int .u64 0, .int .i64 0] := rfl
theorem zerosE (n : Nat) : (Builtin.zeroCells zeroE.cells n).toList.length = n * 2 ∧ ∀ v ∈ (Builtin.zeroCells zeroE.cells n).toList, v.oneCell' = true := by
  rw [zeroE_cells]
  refine ⟨by simp [Builtin.zeroCells], fun v hv => ?_⟩
  simp [Builtin.zeroCells] at hv
  obtain ⟨k, _, rfl⟩ := hv
  rcases (show k % 2 = 0 ∨ k % 2 = 1 by omega) with h | h <;> (simp [h]; rfl)
theorem setL_take {zs : List Value} {l : List Value} {o : Nat} (h : o + zs.length ≤ l.length) : (setL l o zs).take o = l.take o := by
  rw [setL_eq zs l o h, List.take_append_of_le_length (by rw [List.length_take]; omega), List.take_take, Nat.min_self]
theorem below_cells {B g : Nat} {w0 : World} (hg : B ≤ g) : ∀ (vs : List Value) {w : World} (o : Nat), Below B w0 w → Below B w0 (w.setCells g o vs)
  | [], _, _, h => h
  | v :: vs, w, o, h => below_cells hg vs (o + 1) (h.setCell (p := ⟨g, o, none⟩) hg v)
set_option maxRecDepth 100000 in
set_option maxHeartbeats 8000000 in
theorem del_any (W : World) (base : Nat) (v : Value) (es : List En) (h : W.ownsRow base tE 2 v es.length (cellsOf cE es)) (hbs : base ≤ W.heap.size) (hU : UE es) (hl : es.length ≤ 1099511627776) (B1 B2 : Nat) (s a : Int) (hs : U s) (h1 : Blk W B1 32 [.int .u64 s]) (h2 : Blk W B2 2 [.int .i64 a]) (hb1 : B1 < base) (hb2 : B2 < base) :
    Calls Try.prog 63 #[v, .func (.func 64) #[] #[.pointer (some ⟨B1, 0, none⟩), .pointer (some ⟨B2, 0, none⟩)]] W fun e w' => ∃ v', e = .returned v' ∧ w'.ownsRow base tE 2 v' (delL es s a).length (cellsOf cE (delL es s a)) ∧ Below base W w' := by
  have HO := Lib.hid h
  have hPE := pe_own hl h
  have ID := Lib.hid (idx_any W v es hPE hU hl B1 B2 s a hs h1 h2)
  have H1 := Lib.hid h1; have H2 := Lib.hid h2
  clear h1 h2 hPE
  go_enter Try.func63, Try.ntmps63
  go_wp2_with fail
  refine ID.out.mono ?_; rintro e w1 ⟨r, rfl, hid, hbw⟩
  have HB1 := Lib.hid (hbw.mono hbs)
  have HO1 := Lib.hid (own_below HO.out hbw)
  clear hbw
  rcases hid.ends with ⟨rfl, hno⟩ | ⟨i, rfl, hil, hpi, hno⟩
  · have hde : delL es s a = es := by
      rw [delL_eq]
      exact List.filter_eq_self.2 (fun e he => by rw [hno e he]; rfl)
    go_wp2_with fail
    exact bodyPost_ret (v := v) (by simp [results, Try.f63, go_sem]) rfl ⟨v, rfl, by rw [hde]; exact HO1.out, HB1.out⟩
  · rcases h.2 with ⟨rfl, hz⟩ | ⟨g, cap, cur, rfl, hg, -, -, -, -, -⟩
    · omega
    · have hI0 : DelI W base g cap es s a i (i + 1) w1 := ⟨by omega, by omega, HB1.out, [es.getD i dE], by
        rw [filter_take_first hil hpi hno, List.length_take]; omega, rfl, by
        rw [filter_take_first hil hpi hno]
        have e : es.take i ++ [es.getD i dE] ++ es.drop (i + 1) = es := by
          rw [show es.getD i dE = es[i] from by simp [List.getD, hil], ← List.take_succ_eq_append_getElem hil, List.take_append_drop]
        rw [e]
        exact HO1.out⟩
      have HI0 := Lib.hid hI0
      obtain ⟨ii, hii⟩ : ∃ ii : Int, (i : Int) = ii := ⟨_, rfl⟩
      have hb9 : ii + 1 ≤ 9223372036854775807 := by omega
      have hb8 : -9223372036854775808 ≤ ii + 1 := by omega
      have hb7 : (ii == -1) = false := by rw [beq_eq_false_iff_ne]; omega
      have HII := Lib.hid hii
      rw [hii]
      clear hI0 hid hpi hno hii h
      go_wp2_with fail
      go_loopw [5, 6] (fun x y wr => ∃ i j : Nat, x = .int .i64 (i : Int) ∧ y = .int .i64 (j : Int) ∧ DelI W base g cap es s a i j wr) (fun _ y _ => es.length - (intOf y).toNat)
      case atStart => exact ⟨i, i + 1, by rw [HII.out], by rw [← HII.out]; simp, HI0.out⟩
      case round =>
        clear HI0 HII hb7 hb8 hb9
        obtain ⟨i, j, rfl, rfl, hD⟩ := hrel
        obtain ⟨hij, hjn, hB, G, hF, hG, hrow⟩ := hD
        have hLl : ((es.take j).filter (fun e => !(outP s a e)) ++ G ++ es.drop j).length = es.length := by rw [List.length_append, List.length_append, List.length_drop]; omega
        have hsz := hB.size
        by_cases hlt : j < es.length
        · obtain ⟨⟨x, y⟩, hx⟩ : ∃ x, es[j] = x := ⟨_, rfl⟩
          have hgd : es.getD j dE = (x, y) := by simp [List.getD, hlt, hx]
          have hux : U x := hU (x, y) (by rw [← hx]; exact List.getElem_mem hlt)
          have hrow' : wr.ownsRow base tE 2 (.slice (some ⟨g, 0, none⟩) ((es.take j).filter (fun e => !(outP s a e)) ++ G ++ es.drop j).length cap) ((es.take j).filter (fun e => !(outP s a e)) ++ G ++ es.drop j).length (cellsOf cE ((es.take j).filter (fun e => !(outP s a e)) ++ G ++ es.drop j)) := by rw [hLl]; exact hrow
          have hat : ((es.take j).filter (fun e => !(outP s a e)) ++ G ++ es.drop j)[j]? = some (x, y) := by
            rw [List.getElem?_append_right (by rw [List.length_append]; omega), List.length_append, hF, hG, Nat.sub_self, List.getElem?_drop, Nat.add_zero, List.getElem?_eq_getElem hlt, hx]
          obtain ⟨b3, off3, c4, e1, hlb, r0, r1⟩ := (pe_own (by omega) hrow').at hat
          injection e1 with e1 e2 e3
          injection e1 with e1
          injection e1 with e1 e4
          subst e1; subst e4; subst e3
          simp only [Nat.zero_add] at r0 r1
          have kl : (j : Int) < (es.length : Int) := by omega
          have k0 : (0 : Int) ≤ (j : Int) := Int.natCast_nonneg _
          have hal : Below wr.heap.size wr (wr.alloc (.cells #[.int .u64 x, .int .i64 y] tE)) := (Below.refl _ wr).alloc (Nat.le_refl _) _
          have hbl := Blk.new wr [.int .u64 x, .int .i64 y] tE
          have P1 := put1_any _ B1 B2 s a x y hs hux (((H1.out.below hB (by omega))).belowS hal) ((H2.out.below hB (by omega)).belowS hal)
          obtain ⟨o, ho⟩ : ∃ o, outP s a (x, y) = o := ⟨_, rfl⟩
          rw [ho] at P1
          have HP1 := Lib.hid P1
          have hft := filter_take_succ (q := fun e => !(outP s a e)) hlt
          rw [hgd, ho] at hft
          have HFT := Lib.hid hft
          have HROW := Lib.hid (own_below hrow hal); have HB := Lib.hid (hB.trans (hal.mono (by omega))); have HBL := Lib.hid hbl
          have HX := Lib.hid hx; have HLL := Lib.hid hLl; have HF := Lib.hid hF; have HG := Lib.hid hG
          have hgl : g < wr.heap.size := hlb
          clear hrow hrow' hat hB hal hbl P1 ho hft hx hgd hLl hF hG
          go_wp2_with fail
          refine HP1.out.mono ?_; rintro e w2 ⟨rfl, hb2⟩
          have HB2 := Lib.hid (HB.out.trans (hb2.mono (by simp; omega)))
          have hrow2 := own_below HROW.out hb2
          have hbl2 := HBL.out.belowS hb2
          cases o with
          | true =>
            have HR2 := Lib.hid hrow2
            clear hrow2 hbl2 hb2
            go_wp2_with fail
            go_roundw
            case rel => exact ⟨i, j + 1, rfl, by simp, by omega, by omega, HB2.out, G ++ [(x, y)], by
              rw [HFT.out]; simpa using HF.out, by have := HG.out; simp; omega, by
              rw [HFT.out]
              have e : (es.take j).filter (fun e => !(outP s a e)) ++ (if (!true) = true then [(x, y)] else []) ++ (G ++ [(x, y)]) ++ es.drop (j + 1) = (es.take j).filter (fun e => !(outP s a e)) ++ G ++ es.drop j := by
                rw [← List.getElem_cons_drop hlt, HX.out]; simp
              rw [e]
              exact HR2.out⟩
            case measure => simp [intOf]; omega
          | false =>
            have d0 := hbl2.cell (i := 0) rfl
            have d1 := hbl2.cell (i := 1) rfl
            have hcl : (cellsOf cE ((es.take j).filter (fun e => !(outP s a e)) ++ G ++ es.drop j)).length = es.length * 2 := by rw [cellsOf_length cE_length, HLL.out]
            obtain ⟨z0, hz0⟩ := own_some hrow2 (k := i * 2) (by omega)
            obtain ⟨z1, hz1⟩ := own_some hrow2 (k := i * 2 + 1) (by omega)
            have f0 := own_frozen hrow2 (i * 2)
            have f1 := own_frozen hrow2 (i * 2 + 1)
            have hst := ownsRow_storedL (cE (x, y)) (i * 2) hrow2
            rw [← cellsOf_setL cE_length _ i (x, y) (by rw [HLL.out]; omega)] at hst
            have hsm := set_mid (F := (es.take j).filter (fun e => !(outP s a e))) (G := G) (D := es.drop j) (x := (x, y)) (by have := HG.out; omega)
            rw [HF.out] at hsm
            rw [hsm] at hst
            have HST := Lib.hid hst
            have li : (i : Int) < (es.length : Int) := by omega
            have l0 : (0 : Int) ≤ (i : Int) := Int.natCast_nonneg _
            clear hrow2 hbl2 hb2 hst hsm hcl
            go_wp2_with fail
            go_roundw
            case rel => exact ⟨i + 1, j + 1, by simp, by simp, by omega, by omega, (HB2.out.setCell (p := ⟨g, i * 2, none⟩) hg _).setCell (p := ⟨g, i * 2 + 1, none⟩) hg _, G.tail ++ [(x, y)], by
              rw [HFT.out, List.length_append, HF.out]; rfl, by have := HG.out; simp; omega, by
              rw [HFT.out]
              have e : (es.take j).filter (fun e => !(outP s a e)) ++ (if (!false) = true then [(x, y)] else []) ++ (G.tail ++ [(x, y)]) ++ es.drop (j + 1) = (es.take j).filter (fun e => !(outP s a e)) ++ [(x, y)] ++ G.tail ++ es.drop j := by
                rw [← List.getElem_cons_drop hlt, HX.out]; simp
              rw [e]
              exact HST.out⟩
            case measure => simp [intOf]; omega
        · obtain rfl : j = es.length := by omega
          rw [List.take_length, List.drop_length, List.append_nil] at hrow
          rw [List.take_length] at hF
          rw [← delL_eq] at hrow hF
          have li : (i : Int) ≤ (es.length : Int) := by omega
          have l0 : (0 : Int) ≤ (i : Int) := Int.natCast_nonneg _
          have hcap := own_le hrow
          have hic : i < cap := by omega
          have hin : i < es.length := hij
          obtain ⟨hzl, hzo⟩ := zerosE (es.length - i)
          obtain ⟨zs, hzs⟩ : ∃ zs, (Builtin.zeroCells zeroE.cells (es.length - i)).toList = zs := ⟨_, rfl⟩
          rw [hzs] at hzl hzo
          have hxl : (cellsOf cE (delL es s a ++ G)).length = es.length * 2 := hrow.1
          have CL := fun ty => run_clear_any (P := Try.prog) wr tL tE ty zeroE (es.length - i) (by omega) zs Try.underlying22 Try.zeroValue41 hzs hzo g (i * 2) (cap - i) (fun j hj => by obtain ⟨z, hz⟩ := own_some hrow (k := i * 2 + j) (by omega); rw [hz]; rfl) (fun j hj => own_frozen hrow _)
          have hst := own_cut (ownsRow_storedL zs (i * 2) hrow) (k := i) (by omega)
          rw [setL_take (by omega), cellsOf_take cE_length, ← hF, List.take_append_of_le_length (Nat.le_refl _), List.take_length] at hst
          have hB5 := below_cells (g := g) hg zs (i * 2) hB
          have HST := Lib.hid hst; have HB5 := Lib.hid hB5; have HF := Lib.hid hF
          clear hrow hst hB5 hzs hzo hzl hB
          go_wp2_with fail
          exact bodyPost_ret (v := .slice (some ⟨g, 0, none⟩) i cap) (by simp [results, Try.f63, go_sem]) rfl ⟨_, rfl, by have h := HST.out; rw [HF.out] at h ⊢; exact h, HB5.out⟩

end Go.Proofs.Ytnlhgnioedalpaa.Pri
