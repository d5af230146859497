/- price: entries in memory; a store; Clone; what is asked. -/
import Derived.Test.YtnlhgnioedalpaaPriM
import Derived.Maps.AppendAt
import Derived.Lib.SliceRun
set_option linter.unusedSimpArgs false
set_option linter.unusedVariables false
namespace Go.Proofs.Ytnlhgnioedalpaa.Pri
open Go.RowKit Go.Proofs.YtnlhgnioedalpaaW.PrintWords Go.Proofs.Ytnlhgnioedalpaa.PPricePlays
attribute [local go_sem] Oper.semAt_some

abbrev tE : TypeId := 41
abbrev tS : TypeId := 39
abbrev tL : TypeId := 22
def cE (e : En) : List Value := [.int .u64 e.1, .int .i64 e.2]
theorem cE_length (e : En) : (cE e).length = 2 := rfl
def toE (e : En) : S41 := ⟨e.1, e.2⟩
def dE : En := (0, 0)
theorem infoE : (Try.prog.info? 41).map (fun i => (i.zero, i.size, i.bytes)) = some (some (.agg #[.int .u64 0, .int .i64 0]), 2, 16) := by kernel_rfl
theorem info_parts {o : Option TypeInfo} {z : Option Value} {n m : Nat} (h : o.map (fun i => (i.zero, i.size, i.bytes)) = some (z, n, m)) : ∃ i, o = some i ∧ i.zero = z ∧ i.size = n ∧ i.bytes = m := by
  cases o with
  | none => simp at h
  | some i => simp at h; exact ⟨i, rfl, h.1, h.2.1, h.2.2⟩
/-- the slice v reads as the entries es -/
def PE (W : World) (v : Value) (es : List En) : Prop := ∃ A c, v = .slice A es.length c ∧ es.length ≤ c ∧ (A = none → c = 0) ∧ Kd.C k41 W A es.length (es.map toE)
theorem PE.below {W W' : World} {v : Value} {l : List En} (h : PE W v l) (hb : Below W.heap.size W W') : PE W' v l := by
  obtain ⟨A, c, rfl, h1, h2, h3⟩ := h
  exact ⟨A, c, rfl, h1, h2, Kd.C_below h3 hb⟩
theorem pe_nil (W : World) : PE W (.slice none 0 0) [] := ⟨none, 0, rfl, Nat.le_refl _, fun _ => rfl, rfl, by simp, fun h => absurd h (by simp)⟩
theorem own_le {W : World} {base n size : Nat} {e : TypeId} {A : Option Addr} {c : Nat} {xs : List Value} (h : W.ownsRow base e size (.slice A n c) n xs) : n ≤ c := by
  rcases h.2 with ⟨h1, h2⟩ | ⟨g, cap, cur, h1, _, _, h4, _⟩
  · injection h1; omega
  · injection h1; omega
/-- a row of the call's own is entries -/
theorem pe_own {W : World} {base : Nat} {v : Value} {zs : List En} (hl : zs.length ≤ 1099511627776) (h : W.ownsRow base tE 2 v zs.length (cellsOf cE zs)) : PE W v zs := by
  have h0 := h
  rcases h0.2 with ⟨rfl, hz⟩ | ⟨g, cap, cur, rfl, hb, hg, hc, hlc, _⟩
  · obtain rfl := List.eq_nil_of_length_eq_zero hz
    exact pe_nil W
  · refine ⟨some ⟨g, 0, none⟩, cap, rfl, own_le h, (fun e => by cases e), by simp, by omega, fun hpos => ⟨_, rfl, fun j x hx => ⟨[.int .u64 x.f0, .int .i64 x.f1], rfl, k41_mk W x, fun i u hu => ?_⟩⟩⟩
    rw [List.getElem?_map] at hx
    cases hq : zs[j]? with
    | none => rw [hq] at hx; simp at hx
    | some q =>
      rw [hq] at hx
      have hj : j < zs.length := (List.getElem?_eq_some_iff.1 hq).1
      have hi : i < 2 := by have := (List.getElem?_eq_some_iff.1 hu).1; simpa using this
      rw [show j * k41.sz + i = j * 2 + i from rfl, addr_add, Nat.zero_add, h.cellAt (j * 2 + i) (by omega), cellsOf_at cE_length zs (0, 0) hj hi, List.getD_eq_getElem?_getD, hq]
      obtain rfl : toE q = x := by simpa using hx
      exact hu
theorem PE.at {W : World} {v : Value} {l : List En} {j : Nat} {q : En} (h : PE W v l) (hj : l[j]? = some q) : ∃ b off c, v = .slice (some ⟨b, off, none⟩) l.length c ∧ b < W.heap.size ∧ W.cell? ⟨b, off + j * 2, none⟩ = some (.int .u64 q.1) ∧ W.cell? ⟨b, off + j * 2 + 1, none⟩ = some (.int .i64 q.2) := by
  obtain ⟨A, c, rfl, h1, _, h2⟩ := h
  have hlt := (List.getElem?_eq_some_iff.1 hj).1
  obtain ⟨a, rfl, hr⟩ := h2.2.2 (by omega)
  have hjq : (l.map toE)[j]? = some (toE q) := by rw [List.getElem?_map, hj]; rfl
  have hz : (l.map toE)[0]? = some (toE (l[0]'(by omega))) := by rw [List.getElem?_map, List.getElem?_eq_getElem (by omega)]; rfl
  obtain ⟨cs0, _, hk0, hc0⟩ := hr 0 _ hz
  obtain rfl := k41_open hk0
  have hsp := cell_spot (by simpa [Addr.add] using hc0 0 _ rfl)
  obtain ⟨b, off, s⟩ := a
  obtain rfl : s = none := by injection hsp.1
  obtain ⟨cs, _, hk, hc⟩ := hr j _ hjq
  obtain rfl := k41_open hk
  have h3 := hc 0 _ rfl
  have h4 := hc 1 _ rfl
  rw [addr_add] at h3 h4
  exact ⟨b, off, c, rfl, hsp.2, h3, h4⟩
theorem PE.rd {W : World} {v : Value} {l : List En} (h : PE W v l) : Rd cE 2 W.heap.size W v l := by
  by_cases hn : 0 < l.length
  · have h0 := h
    obtain ⟨A, c, rfl, _⟩ := h0
    obtain ⟨b, off, c', e1, hb, _, _⟩ := h.at (List.getElem?_eq_getElem hn)
    injection e1 with e1 e2 e3
    subst e1; subst e3
    refine .inr ⟨b, off, c, rfl, hb, fun j x hx i u hu => ?_⟩
    obtain ⟨b', off', c', e1, _, r0, r1⟩ := h.at hx
    injection e1 with e1 e2 e3
    injection e1 with e1
    injection e1 with e1 e2
    subst e1; subst e2
    have hi : i < 2 := by have := (List.getElem?_eq_some_iff.1 hu).1; simpa [cE] using this
    rcases (show i = 0 ∨ i = 1 by omega) with rfl | rfl
    · rw [Nat.add_zero, r0]; exact hu
    · rw [r1]; exact hu
  · have : l = [] := List.eq_nil_of_length_eq_zero (by omega)
    subst this
    obtain ⟨A, c, rfl, _⟩ := h
    exact .inl ⟨A, c, rfl, rfl⟩
/-- a store and its entries -/
def PR (W : World) (p : Nat) (es : List En) : Prop := ∃ v, Blk W p tS [v] ∧ PE W v es
theorem PR.lt {W : World} {p : Nat} {es : List En} (h : PR W p es) : p < W.heap.size := by obtain ⟨v, h1, _⟩ := h; exact h1.lt
theorem PR.below {W W' : World} {p : Nat} {es : List En} (h : PR W p es) (hb : Below W.heap.size W W') : PR W' p es := by
  obtain ⟨v, h1, h2⟩ := h
  exact ⟨v, h1.belowS hb, h2.below hb⟩
set_option maxRecDepth 100000 in
set_option maxHeartbeats 2000000 in
theorem clone_any (W : World) (v : Value) (es : List En) (h : PE W v es) (hl : es.length ≤ 1099511627776) :
    Calls Try.prog 58 #[v] W fun e w' => ∃ v', e = .returned v' ∧ w'.ownsRow W.heap.size tE 2 v' es.length (cellsOf cE es) ∧ Below W.heap.size W w' := by
  have hRd := h.rd
  obtain ⟨A, c, rfl, h1, h2, h3⟩ := h
  obtain ⟨i0, hi0, hiz0, hiz1, hiz2⟩ := info_parts infoE
  cases A with
  | none =>
    obtain rfl := h2 rfl
    have : es = [] := List.eq_nil_of_length_eq_zero (by omega)
    subst this
    show Calls Try.prog 58 #[.slice none 0 0] W fun e w' => ∃ v', e = .returned v' ∧ w'.ownsRow W.heap.size tE 2 v' 0 [] ∧ Below W.heap.size W w'
    clear h1 h3 hRd
    have eq0 := Lib.run_eql_slice_nil (P := Try.prog) W tL tE none 0 0 0 0 Try.underlying22
    go_enter Try.func58, Try.ntmps58
    go_wp2_with fail
    go_ret
    exact ⟨_, rfl, World.ownsRow_nil _ _ _ _, Below.refl _ W⟩
  | some ad =>
    have hnew : ∀ j u, (cellsOf cE es)[j]? = some u → W.cell? (ad.add j) = some u := fun j u hu => by
      have hj : j < es.length * 2 := by have := (List.getElem?_eq_some_iff.1 hu).1; rw [cellsOf_length cE_length] at this; exact this
      rcases hRd with ⟨a', c', e1, rfl⟩ | ⟨b, off, c', e1, hb, hc⟩
      · simp at hj
      · injection e1 with e1 e2 e3
        injection e1 with e1
        subst e1
        rw [addr_add]
        have hk : j / 2 < es.length := by omega
        have hx : es[j / 2]? = some es[j / 2] := List.getElem?_eq_getElem hk
        have hu2 : (cE es[j / 2])[j % 2]? = some u := by
          rw [show j = j / 2 * 2 + j % 2 from by omega, cellsOf_at cE_length es dE hk (by omega)] at hu
          rw [show es.getD (j / 2) dE = es[j / 2] from by simp [List.getD, hk]] at hu
          exact hu
        have := hc _ _ hx _ _ hu2
        rw [show off + j / 2 * 2 + j % 2 = off + j from by omega] at this
        exact this
    have h1c : ∀ u ∈ cellsOf cE es, u.oneCell' = true := fun u hu => by
      obtain ⟨x, _, hx⟩ := List.mem_flatMap.1 hu
      simp [cE] at hx
      rcases hx with rfl | rfl <;> rfl
    have hlit := World.ownsRow_lit (base := W.heap.size) (e := tE) (size := 2) W #[] 0 (Nat.le_refl _) (by decide) rfl
    have hal : Below W.heap.size W (W.alloc (.cells #[] tE)) := (Below.refl _ W).alloc (Nat.le_refl _) _
    have hnew2 : ∀ j u, (cellsOf cE es)[j]? = some u → (W.alloc (.cells #[] tE)).cell? (ad.add j) = some u := fun j u hu => by
      have h := hnew j u hu
      have hs := (cell_spot h).2
      have e := (cell_spot h).1
      rw [e] at h ⊢
      exact (hal.cell (p := ⟨(ad.add j).block, (ad.add j).off, none⟩) hs).trans h
    have hln : (cellsOf cE es).length = es.length * 2 := cellsOf_length cE_length es
    clear h3 hRd hnew
    have eq0 := Lib.run_eql_slice_nil (P := Try.prog) W tL tE (some ad) es.length c 0 0 Try.underlying22
    go_enter Try.func58, Try.ntmps58
    go_wp2_with (at_builtin; refine wpList_append_own _ rfl _ _ tL rfl W.heap.size tE i0 _ 2 16 Try.underlying22 hi0 hiz0 hiz1 hiz2 rfl (by decide) _ 0 _ rfl hlit ad es.length c (cellsOf cE es) rfl hln hnew2 h1c (by unfold maxLen; omega) (by omega) (by simp) ?_; intro v' w3 hown' hgrow _)
    go_ret
    rw [Nat.zero_add] at hown'
    exact ⟨_, rfl, hown', hal.grown hgrow hal.size (fun r e => by have e' : some W.heap.size = some r := e; injection e' with e'; omega)⟩

end Go.Proofs.Ytnlhgnioedalpaa.Pri
