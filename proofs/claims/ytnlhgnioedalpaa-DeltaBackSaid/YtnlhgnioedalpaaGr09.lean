/- DelO, It3, laid together. -/
import Derived.Test.YtnlhgnioedalpaaGr08
import Derived.Test.YtnlhgnioedalpaaGr02
import Derived.Test.YtnlhgnioedalpaaGr07

/- delta: a book's stores. -/
set_option linter.unusedSimpArgs false
set_option linter.unusedVariables false
namespace Go.Proofs.Ytnlhgnioedalpaa.Pri
open Go.RowKit Go.Proofs.YtnlhgnioedalpaaW.PrintWords Go.Proofs.Ytnlhgnioedalpaa.PPricePlays Go.Maps
attribute [local go_sem] Oper.semAt_some

/-- the stores ps that hold the lists ls -/
def oL (ps : List Nat) (ls : List (List En)) : List (Option (Nat × List En)) := (ps.zip ls).map some
theorem oL_snoc {ps : List Nat} {ls : List (List En)} (h : ps.length = ls.length) (p : Nat) (l : List En) : oL (ps ++ [p]) (ls ++ [l]) = oL ps ls ++ [some (p, l)] := by
  unfold oL
  rw [List.zip_append h, List.map_append]
  rfl
/-- a book of stores, in a row of the call's own -/
structure BK (B : Nat) (ps : List Nat) (ls : List (List En)) (o : Value) (A : World) : Prop where
  n : ps.length = ls.length
  nd : ps.Nodup
  lt : ∀ p ∈ ps, B ≤ p ∧ p < A.heap.size
  own : A.ownsRow B tP 1 o ls.length ((oL ps ls).map sV)
  st : ST (oL ps ls) o A
theorem BK.below {B : Nat} {ps : List Nat} {ls : List (List En)} {o : Value} {A C : World} (h : BK B ps ls o A) (hb : Below A.heap.size A C) : BK B ps ls o C :=
  ⟨h.n, h.nd, fun p hp => ⟨(h.lt p hp).1, Nat.lt_of_lt_of_le (h.lt p hp).2 hb.size⟩, own_below h.own hb, h.st.below hb⟩
theorem BK.nil (B : Nat) (W : World) : BK B [] [] (.slice none 0 0) W := ⟨rfl, List.nodup_nil, by simp, World.ownsRow_nil _ _ _ _, fun i p es hi => by simp [oL] at hi⟩
/-- one more store -/
theorem BK.push {B : Nat} {ps : List Nat} {ls : List (List En)} {o o' : Value} {A C : World} {p : Nat} {l : List En} (h : BK B ps ls o A) (hp : p ∉ ps) (hB : B ≤ p) (hS : SR A p l) (hF : ∀ v, Blk A p tS [v] → ∀ q, v.ownBlock = some q → q < A.heap.size ∧ o.ownBlock ≠ some q)
    (hown : C.ownsRow B tP 1 o' (ls.length + 1) ((oL ps ls).map sV ++ [.pointer (some ⟨p, 0, none⟩)])) (hg : A.grownBy C o.ownBlock) (hloc : o'.ownBlock = o.ownBlock ∨ o'.ownBlock = some A.heap.size) : BK B (ps ++ [p]) (ls ++ [l]) o' C := by
  have hlo : ∀ q, o'.ownBlock = some q → o.ownBlock = some q ∨ A.heap.size ≤ q := fun q hq => by
    rcases hloc with h1 | h1
    · exact .inl (h1 ▸ hq)
    · rw [h1] at hq; cases hq; exact .inr (Nat.le_refl _)
  have hst := (h.st.snoc (x := some (p, l)) (fun p' es' e => by cases e; exact ⟨hS, hF⟩)).step h.own hg hlo
  refine ⟨by simp [h.n], ?_, fun q hq => ?_, ?_, ?_⟩
  · rw [List.nodup_append]
    exact ⟨h.nd, by simp, fun a ha b hb e => by simp at hb; subst hb; subst e; exact hp ha⟩
  · rw [List.mem_append, List.mem_singleton] at hq
    rcases hq with hq | rfl
    · exact ⟨(h.lt q hq).1, Nat.lt_of_lt_of_le (h.lt q hq).2 hg.size⟩
    · exact ⟨hB, Nat.lt_of_lt_of_le hS.pr.lt hg.size⟩
  · rw [oL_snoc h.n, List.map_append, List.length_append]
    exact hown
  · rw [oL_snoc h.n]
    exact hst
set_option maxRecDepth 100000 in
set_option maxHeartbeats 4000000 in
theorem open_any (W : World) (v : Value) (L : List (List En)) (h : PEE W v L) (hU : ∀ l ∈ L, UE l) (hl : L.length ≤ 100000) (hl2 : ∀ l ∈ L, l.length ≤ 100000) :
    Calls Try.prog 78 #[v] W fun e w' => ∃ o ps, e = .returned o ∧ BK W.heap.size ps (L.map ofL) o w' ∧ Below W.heap.size W w' := by
  have H := Lib.hid h
  obtain ⟨A, c, rfl, -⟩ := h
  obtain ⟨i0, hi0, hiz0, hiz1, hiz2⟩ := info_parts infoP
  go_enter Try.func78, Try.ntmps78
  go_wp2_with fail
  go_loopw [3, 8] (fun o i wr => ∃ (k : Nat) (ps : List Nat), k ≤ L.length ∧ i = .int .i64 (k : Int) ∧ BK W.heap.size ps ((L.take k).map ofL) o wr ∧ Below W.heap.size W wr) (fun _ i _ => L.length - (intOf i).toNat)
  case atStart => exact ⟨0, [], Nat.zero_le _, rfl, BK.nil _ _, Below.refl _ W⟩
  case round =>
    obtain ⟨k, ps, hk, rfl, hK, hB⟩ := hrel
    have HK := Lib.hid hK
    clear hK
    by_cases hlt : k < L.length
    · obtain ⟨l, hx⟩ : ∃ x, L[k] = x := ⟨_, rfl⟩
      have hx2 : L[k]? = some l := by rw [List.getElem?_eq_getElem hlt, hx]
      have hUl : UE l := hU _ (List.mem_of_getElem? hx2)
      have hll := hl2 _ (List.mem_of_getElem? hx2)
      have hlk : ((L.take k).map ofL).length = k := by rw [List.length_map, List.length_take]; omega
      obtain ⟨b3, off3, c4, A3, c3, e1, hlb, r0, hpe⟩ := (H.out.below hB).at hx2
      obtain ⟨rfl, rfl⟩ : A = some ⟨b3, off3, none⟩ ∧ c = c4 := by injection e1 with e1 e2 e3; exact ⟨e1, e3⟩
      have htk : (L.take (k + 1)).map ofL = (L.take k).map ofL ++ [ofL l] := by rw [List.take_succ_eq_append_getElem hlt, List.map_append, hx]; rfl
      have HPE := Lib.hid hpe; have HTK := Lib.hid htk; have HB := Lib.hid hB; have HLK := Lib.hid hlk
      clear hx hx2 e1 hpe htk hB hlk
      go_wp2_with fail
      refine (of_anyF wr _ l HPE.out hUl (by omega)).mono ?_; rintro e w4 ⟨rfl, hS4, hl4, hb4, hO4⟩
      obtain ⟨p, hp⟩ : ∃ p, wr.heap.size = p := ⟨_, rfl⟩
      have hpn : p ∉ ps := fun hm => by have := (HK.out.lt p hm).2; omega
      have hWp : W.heap.size ≤ p := by rw [← hp]; exact HB.out.size
      have hal : Below w4.heap.size w4 (w4.alloc (.cells #[.pointer (some ⟨p, 0, none⟩)] tP)) := (Below.refl _ w4).alloc (Nat.le_refl _) _
      have hLA := (HK.out.below hb4).below hal
      rw [hp] at hS4 hO4 ⊢
      have hSA := hS4.below hal
      have hOA := hO4.below hS4.pr.lt hal
      have hol : ∀ q, u3.ownBlock = some q → q < p := fun q hq => by have := HK.out.own.lt q hq; omega
      have hFA : ∀ v, Blk (w4.alloc (.cells #[.pointer (some ⟨p, 0, none⟩)] tP)) p tS [v] → ∀ q, v.ownBlock = some q → q < (w4.alloc (.cells #[.pointer (some ⟨p, 0, none⟩)] tP)).heap.size ∧ u3.ownBlock ≠ some q := fun v hv q hq => by
        have h1 := hOA v hv q hq
        exact ⟨h1.2, fun e => by have := hol q e; omega⟩
      have hbA : Below W.heap.size W (w4.alloc (.cells #[.pointer (some ⟨p, 0, none⟩)] tP)) := (HB.out.trans (hb4.mono HB.out.size)).alloc (HB.out.trans (hb4.mono HB.out.size)).size _
      have HLA := Lib.hid hLA; have HSA := Lib.hid hSA; have HFA := Lib.hid hFA; have HBA := Lib.hid hbA; have HNB := Lib.hid (news_blk (Blk.new w4 [.pointer (some ⟨p, 0, none⟩)] tP))
      have hwk := hLA.own
      rw [HLK.out] at hwk
      have HWK := Lib.hid hwk
      clear hS4 hl4 hb4 hO4 hp hal hLA hSA hOA hFA hol hbA hwk
      go_wp2_with (first | (at_builtin; refine wpList_append_own_at _ rfl _ _ 122 rfl W.heap.size tP i0 _ 1 8 Try.underlying122 hi0 hiz0 hiz1 hiz2 rfl (by decide) _ k _ rfl HWK.out ⟨w4.heap.size, 0, none⟩ 1 1 [.pointer (some ⟨p, 0, none⟩)] rfl rfl HNB.out (by simp [Value.oneCell']) (by unfold maxLen; omega) (by omega) HBA.out.size ?_; intro v6 w6 hown6 hgrow6 hnil6 hloc6) | fail)
      have hn6 : w6.ownsRow W.heap.size tP 1 v6 (((L.take k).map ofL).length + 1) ((oL ps ((L.take k).map ofL)).map sV ++ [.pointer (some ⟨p, 0, none⟩)]) := by rw [HLK.out]; exact hown6
      have HN := Lib.hid (show BK W.heap.size (ps ++ [p]) ((L.take (k + 1)).map ofL) v6 w6 ∧ Below W.heap.size W w6 from ⟨by rw [HTK.out]; exact HLA.out.push hpn hWp HSA.out HFA.out hn6 hgrow6 hloc6, HBA.out.grown hgrow6 HBA.out.size (fun r e => (own_typ HWK.out r e).1)⟩)
      clear hown6 hgrow6 hnil6 hloc6 hn6
      go_roundw
      case rel => exact ⟨k + 1, ps ++ [p], by omega, by simp, HN.out⟩
      case measure => simp [intOf]; omega
    · obtain rfl : k = L.length := by omega
      have hK := HK.out
      rw [List.take_length] at hK
      have HK2 := Lib.hid hK
      clear hK HK
      go_wp2_with fail
      exact bodyPost_ret (v := u3) (by simp [results, Try.f78, go_sem]) rfl ⟨u3, ps, rfl, HK2.out, hB⟩
/-- a bidder's store's list -/
def lsAt (ls : List (List En)) (i : Int) : List En := if i < 0 then [] else ls.getD i.toNat []
set_option maxHeartbeats 2000000 in
theorem at_any (W : World) (B : Nat) (ps : List Nat) (ls : List (List En)) (o : Value) (h : BK B ps ls o W) (i : Int) (hl : ls.length ≤ 100000) :
    Calls Try.prog 80 #[o, .int .i64 i] W fun e w' => ∃ p : Nat, e = .returned (.pointer (some ⟨p, 0, none⟩)) ∧ SR w' p (lsAt ls i) ∧ Below W.heap.size W w' := by
  have HK := Lib.hid h
  obtain ⟨Ao, co, rfl⟩ := own_sl h.own
  have hnew := Lib.hid (sr_nil W)
  have hal := Lib.hid (show Below W.heap.size W (W.alloc (.cells #[.slice none 0 0] tS)) from (Below.refl _ W).alloc (Nat.le_refl _) _)
  clear h
  by_cases h0 : i < 0
  · have he : lsAt ls i = [] := by unfold lsAt; rw [if_pos h0]
    rw [he]
    clear he
    go_enter Try.func80, Try.ntmps80
    go_wp2_with fail
    exact bodyPost_ret (v := .pointer (some ⟨W.heap.size, 0, none⟩)) (by simp [results, Try.f80, go_sem]) rfl ⟨_, rfl, hnew.out, hal.out⟩
  · obtain ⟨k, rfl⟩ : ∃ k : Nat, i = (k : Int) := ⟨i.toNat, by omega⟩
    by_cases hk : k < ls.length
    · obtain ⟨l, hx⟩ : ∃ x, ls[k] = x := ⟨_, rfl⟩
      have hx2 : ls[k]? = some l := by rw [List.getElem?_eq_getElem hk, hx]
      have hkp : k < ps.length := by rw [HK.out.n]; exact hk
      have ho : (oL ps ls)[k]? = some (some (ps[k], l)) := by
        unfold oL
        rw [List.getElem?_map, (List.getElem?_zip_eq_some (z := (ps[k], l))).2 ⟨List.getElem?_eq_getElem hkp, hx2⟩]
        rfl
      have he : lsAt ls (k : Int) = l := by unfold lsAt; rw [if_neg (by omega), Int.toNat_natCast, List.getD_eq_getElem?_getD, hx2]; rfl
      rw [he]
      have hst := (HK.out.st k _ _ ho).1
      obtain ⟨p, hp⟩ : ∃ p, ps[k] = p := ⟨_, rfl⟩
      rw [hp] at hst ho
      have hown := HK.out.own
      rcases hown.2 with ⟨h1, h2⟩ | ⟨g, cap, cur, e1, h2, h3, h4, h5, h6, h7⟩
      · omega
      · injection e1 with e1 _ e3
        subst e1; subst e3
        have hb : Blk W g tP cur.toList := by unfold Blk; rw [Array.toArray_toList]; exact h3
        have hcell : W.cell? ⟨g, k, none⟩ = some (.pointer (some ⟨p, 0, none⟩)) := by
          refine hb.cell ?_
          have h8 : (cur.toList.take (ls.length * 1))[k]? = some (.pointer (some ⟨p, 0, none⟩)) := by rw [h7, List.getElem?_map, ho]; rfl
          rw [List.getElem?_take, if_pos (by omega)] at h8
          exact h8
        have HST := Lib.hid hst
        have kl : (k : Int) < (ls.length : Int) := by omega
        clear hx hx2 ho he hp hown h3 h6 h7 hb hst
        go_enter Try.func80, Try.ntmps80
        go_wp2_with fail
        exact bodyPost_ret (v := .pointer (some ⟨p, 0, none⟩)) (by simp [results, Try.f80, go_sem]) rfl ⟨_, rfl, HST.out, Below.refl _ W⟩
    · have he : lsAt ls (k : Int) = [] := by unfold lsAt; rw [if_neg (by omega), Int.toNat_natCast, List.getD_eq_getElem?_getD, List.getElem?_eq_none (by omega)]; rfl
      rw [he]
      have kl : ¬ (k : Int) < (ls.length : Int) := by omega
      clear he
      go_enter Try.func80, Try.ntmps80
      go_wp2_with fail
      exact bodyPost_ret (v := .pointer (some ⟨W.heap.size, 0, none⟩)) (by simp [results, Try.f80, go_sem]) rfl ⟨_, rfl, hnew.out, hal.out⟩
theorem BK.at {B : Nat} {ps : List Nat} {ls : List (List En)} {o : Value} {A : World} (h : BK B ps ls o A) {k : Nat} {l : List En} (hx : ls[k]? = some l) : ∃ (g c p : Nat), o = .slice (some ⟨g, 0, none⟩) ls.length c ∧ ps[k]? = some p ∧ A.cell? ⟨g, k, none⟩ = some (.pointer (some ⟨p, 0, none⟩)) ∧ SR A p l ∧ g < A.heap.size := by
  have hk : k < ls.length := (List.getElem?_eq_some_iff.1 hx).1
  have hkp : k < ps.length := by rw [h.n]; exact hk
  have ho : (oL ps ls)[k]? = some (some (ps[k], l)) := by
    unfold oL
    rw [List.getElem?_map, (List.getElem?_zip_eq_some (z := (ps[k], l))).2 ⟨List.getElem?_eq_getElem hkp, hx⟩]
    rfl
  rcases h.own.2 with ⟨h1, h2⟩ | ⟨g, cap, cur, e1, h2, h3, h4, h5, h6, h7⟩
  · omega
  · have hb : Blk A g tP cur.toList := by unfold Blk; rw [Array.toArray_toList]; exact h3
    refine ⟨g, cap, ps[k], e1, List.getElem?_eq_getElem hkp, hb.cell ?_, (h.st k _ _ ho).1, hb.lt⟩
    have h8 : (cur.toList.take (ls.length * 1))[k]? = some (.pointer (some ⟨ps[k], 0, none⟩)) := by rw [h7, List.getElem?_map, ho]; rfl
    rw [List.getElem?_take, if_pos (by omega)] at h8
    exact h8
abbrev tEs : TypeId := 22
theorem infoEs : (Try.prog.info? 22).map (fun i => (i.zero, i.size, i.bytes)) = some (some (.slice none 0 0), 1, 24) := by kernel_rfl
/-- lists, each a row of the call's own, in a row of the call's own -/
structure LR (B : Nat) (ls : List (List En)) (vs : List Value) (o : Value) (A : World) : Prop where
  n : vs.length = ls.length
  own : A.ownsRow B tEs 1 o ls.length vs
  each : ∀ (i : Nat) v l, vs[i]? = some v → ls[i]? = some l → A.ownsRow B tE 2 v l.length (cellsOf cE l)
theorem LR.below {B : Nat} {ls : List (List En)} {vs : List Value} {o : Value} {A C : World} (h : LR B ls vs o A) (hb : Below A.heap.size A C) : LR B ls vs o C := ⟨h.n, own_below h.own hb, fun i v l a b => own_below (h.each i v l a b) hb⟩
theorem LR.pee {B : Nat} {ls : List (List En)} {vs : List Value} {o : Value} {A : World} (h : LR B ls vs o A) (hl : ∀ l ∈ ls, l.length ≤ 1099511627776) : PEE A o ls := by
  obtain ⟨Ao, co, rfl⟩ := own_sl h.own
  refine ⟨Ao, co, rfl, fun i l hi => ?_⟩
  have hk : i < ls.length := (List.getElem?_eq_some_iff.1 hi).1
  have hkv : i < vs.length := by rw [h.n]; exact hk
  rcases h.own.2 with ⟨h1, h2⟩ | ⟨g, cap, cur, e1, h2, h3, h4, h5, h6, h7⟩
  · omega
  · injection e1 with e1 _ e3
    subst e1; subst e3
    have hb : Blk A g tEs cur.toList := by unfold Blk; rw [Array.toArray_toList]; exact h3
    have ho := h.each i vs[i] l (List.getElem?_eq_getElem hkv) hi
    obtain ⟨A1, c1, e2⟩ := own_sl ho
    rw [e2] at ho
    refine ⟨g, 0, A1, c1, rfl, hb.lt, ?_, pe_own (hl l (List.mem_of_getElem? hi)) ho⟩
    rw [Nat.zero_add, ← e2]
    refine hb.cell ?_
    have h8 : (cur.toList.take (ls.length * 1))[i]? = some vs[i] := by rw [h7]; exact List.getElem?_eq_getElem hkv
    rw [List.getElem?_take, if_pos (by omega)] at h8
    exact h8
set_option maxRecDepth 100000 in
set_option maxHeartbeats 4000000 in
theorem lists_any (W : World) (B : Nat) (ps : List Nat) (ls : List (List En)) (o : Value) (h : BK B ps ls o W) (hl : ls.length ≤ 100000) (hl2 : ∀ l ∈ ls, l.length ≤ 100000) :
    Calls Try.prog 83 #[o] W fun e w' => ∃ v vs, e = .returned v ∧ LR W.heap.size ls vs v w' ∧ Below W.heap.size W w' := by
  have HK := Lib.hid h
  obtain ⟨Ao, co, rfl⟩ := own_sl h.own
  obtain ⟨i0, hi0, hiz0, hiz1, hiz2⟩ := info_parts infoEs
  clear h
  go_enter Try.func83, Try.ntmps83
  go_wp2_with fail
  go_loopw [3, 8] (fun o i wr => ∃ (k : Nat) (vs : List Value), k ≤ ls.length ∧ i = .int .i64 (k : Int) ∧ LR W.heap.size (ls.take k) vs o wr ∧ Below W.heap.size W wr) (fun _ i _ => ls.length - (intOf i).toNat)
  case atStart => exact ⟨0, [], Nat.zero_le _, rfl, ⟨rfl, World.ownsRow_nil _ _ _ _, fun i v l a b => by simp at a⟩, Below.refl _ W⟩
  case round =>
    obtain ⟨k, vs, hk, rfl, hL, hB⟩ := hrel
    have HL := Lib.hid hL
    clear hL
    by_cases hlt : k < ls.length
    · obtain ⟨l, hx⟩ : ∃ x, ls[k] = x := ⟨_, rfl⟩
      have hx2 : ls[k]? = some l := by rw [List.getElem?_eq_getElem hlt, hx]
      have hll := hl2 _ (List.mem_of_getElem? hx2)
      have hlk : (ls.take k).length = k := by rw [List.length_take]; omega
      obtain ⟨g, c4, p, e1, _, r0, hS, hgl⟩ := (HK.out.below hB).at hx2
      obtain ⟨rfl, rfl⟩ : Ao = some ⟨g, 0, none⟩ ∧ co = c4 := by injection e1 with e1 e2 e3; exact ⟨e1, e3⟩
      have htk : ls.take (k + 1) = ls.take k ++ [l] := by rw [List.take_succ_eq_append_getElem hlt, hx]
      have HS := Lib.hid hS; have HTK := Lib.hid htk; have HB := Lib.hid hB; have HLK := Lib.hid hlk
      clear hx hx2 e1 hS htk hB hlk
      go_wp2_with fail
      refine (list_any wr p l HS.out.pr (by omega)).mono ?_; rintro e w4 ⟨v4, rfl, ho4, hb4⟩
      obtain ⟨A4, c5, rfl⟩ := own_sl ho4
      have hal : Below w4.heap.size w4 (w4.alloc (.cells #[.slice A4 l.length c5] tEs)) := (Below.refl _ w4).alloc (Nat.le_refl _) _
      have hLA := (HL.out.below hb4).below hal
      have hOA := own_below ho4 hal
      have hbA : Below W.heap.size W (w4.alloc (.cells #[.slice A4 l.length c5] tEs)) := (HB.out.trans (hb4.mono HB.out.size)).alloc (HB.out.trans (hb4.mono HB.out.size)).size _
      have hwk := hLA.own
      rw [HLK.out] at hwk
      have HLA := Lib.hid hLA; have HOA := Lib.hid (own_weaken hOA HB.out.size); have HBA := Lib.hid hbA; have HNB := Lib.hid (news_blk (Blk.new w4 [.slice A4 l.length c5] tEs)); have HWK := Lib.hid hwk
      clear ho4 hb4 hal hLA hOA hbA hwk
      go_wp2_with (first | (at_builtin; refine wpList_append_own_at _ rfl _ _ 68 rfl W.heap.size tEs i0 _ 1 24 Try.underlying68 hi0 hiz0 hiz1 hiz2 rfl (by decide) _ k _ rfl HWK.out ⟨w4.heap.size, 0, none⟩ 1 1 [.slice A4 l.length c5] rfl rfl HNB.out (by simp [Value.oneCell']) (by unfold maxLen; omega) (by omega) HBA.out.size ?_; intro v6 w6 hown6 hgrow6 hnil6 hloc6) | fail)
      have hvl : vs.length = k := by rw [HLA.out.n]; exact HLK.out
      have hk2 : ∀ v l', (w4.alloc (.cells #[.slice A4 l.length c5] tEs)).ownsRow W.heap.size tE 2 v l'.length (cellsOf cE l') → w6.ownsRow W.heap.size tE 2 v l'.length (cellsOf cE l') := fun v l' ho => by
        refine ho.kept hgrow6 ?_
        cases hv : v.ownBlock with
        | none => exact .inl rfl
        | some q =>
          refine .inr (fun e => ?_)
          obtain ⟨_, cs, fr, hc⟩ := own_typ ho q hv
          obtain ⟨_, cs2, fr2, hc2⟩ := own_typ HWK.out q e.symm
          rw [hc] at hc2
          injection hc2 with hc2
          injection hc2 with _ hc2
          exact absurd hc2 (by decide)
      have HN := Lib.hid (show LR W.heap.size (ls.take (k + 1)) (vs ++ [.slice A4 l.length c5]) v6 w6 ∧ Below W.heap.size W w6 from by
        refine ⟨⟨by rw [HTK.out]; simp [hvl, HLK.out], by rw [HTK.out, List.length_append, HLK.out]; exact hown6, fun i v l' hv hl' => ?_⟩, HBA.out.grown hgrow6 HBA.out.size (fun r e => (own_typ HWK.out r e).1)⟩
        rw [HTK.out] at hl'
        by_cases hik : i < k
        · rw [List.getElem?_append_left (by omega)] at hv
          rw [List.getElem?_append_left (by rw [HLK.out]; omega)] at hl'
          exact hk2 v l' (HLA.out.each i v l' hv hl')
        · have hi : i = k := by have := (List.getElem?_eq_some_iff.1 hv).1; simp [hvl] at this; omega
          subst hi
          rw [List.getElem?_append_right (by omega), hvl, Nat.sub_self] at hv
          rw [List.getElem?_append_right (by rw [HLK.out]; exact Nat.le_refl _), HLK.out, Nat.sub_self] at hl'
          obtain rfl : Value.slice A4 l.length c5 = v := by simpa using hv
          obtain rfl : l = l' := by simpa using hl'
          exact hk2 _ l HOA.out)
      clear hown6 hgrow6 hnil6 hloc6 hk2 hvl
      go_roundw
      case rel => exact ⟨k + 1, vs ++ [.slice A4 l.length c5], by omega, by simp, HN.out⟩
      case measure => simp [intOf]; omega
    · obtain rfl : k = ls.length := by omega
      have hL := HL.out
      rw [List.take_length] at hL
      have HL2 := Lib.hid hL
      clear hL HL
      go_wp2_with fail
      exact bodyPost_ret (v := u3) (by simp [results, Try.f83, go_sem]) rfl ⟨u3, vs, rfl, HL2.out, hB⟩
end Go.Proofs.Ytnlhgnioedalpaa.Pri

/- a range over an iterator that ranges itself. -/
set_option linter.unusedSimpArgs false
set_option linter.unusedVariables false

namespace Go.Proofs.Ytnlhgnioedalpaa
open Go.RowKit

/-- blocks of cells of a type are kept -/
def KTy (t : TypeId) (W W' : World) : Prop := W.heap.size ≤ W'.heap.size ∧ ∀ (b : Nat) cs fr, W.heap[b]? = some (Obj.cells cs t fr) → W'.heap[b]? = some (Obj.cells cs t fr)
theorem KTy.refl (t : TypeId) (W : World) : KTy t W W := ⟨Nat.le_refl _, fun _ _ _ h => h⟩
theorem KTy.trans {t : TypeId} {A B C : World} (h : KTy t A B) (k : KTy t B C) : KTy t A C := ⟨Nat.le_trans h.1 k.1, fun b cs fr hb => k.2 b cs fr (h.2 b cs fr hb)⟩
theorem KTy.putObj {t : TypeId} {W : World} {l : Nat} {o : Obj} (o' : Obj) (hl : W.heap[l]? = some o) (ho : o.isCells = false) : KTy t W (W.putObj l o') :=
  ⟨by simp, fun b cs fr hb => (World.putObj_heap_other (fun e => by subst e; rw [hb] at hl; cases hl; simp [Obj.isCells] at ho)).trans hb⟩
theorem KTy.below {t : TypeId} {A B : World} (h : Below A.heap.size A B) : KTy t A B := ⟨h.size, fun b cs fr hb => (h.block b (Array.getElem?_eq_some_iff.1 hb).1).trans hb⟩
theorem KTy.blk {t : TypeId} {A B : World} (h : KTy t A B) {b : Nat} {l : List Value} (hb : Blk A b t l) : Blk B b t l := h.2 b _ _ hb

/-- what is no row of cells and lies ahead of N is kept -/
structure KU (N : Nat) (W W' : World) : Prop where
  size : W.heap.size ≤ W'.heap.size
  same : ∀ (k : Nat) (o : Obj), k < N → W.heap[k]? = some o → o.isCells = false → W'.heap[k]? = some o
theorem KU.refl (N : Nat) (W : World) : KU N W W := ⟨Nat.le_refl _, fun _ _ _ h _ => h⟩
theorem KU.trans {N : Nat} {A B C : World} (h : KU N A B) (k : KU N B C) : KU N A C := ⟨Nat.le_trans h.size k.size, fun i o hi ha ho => k.same i o hi (h.same i o hi ha ho) ho⟩
theorem KU.grown {N : Nat} {A B : World} {row : Option Nat} (hg : A.grownBy B row) (hr : ∀ r, row = some r → N ≤ r ∨ ∃ o : Obj, A.heap[r]? = some o ∧ o.isCells = true) : KU N A B :=
  ⟨hg.size, fun k o hk ha ho => (hg.block k (Array.getElem?_eq_some_iff.1 ha).1 (fun e => by
    rcases hr k e.symm with h | ⟨o', h1, h2⟩
    · omega
    · rw [ha] at h1; cases h1; rw [ho] at h2; cases h2)).trans ha⟩
theorem KU.others {N : Nat} {A B : World} (h : KeepsOthers A B) : KU N A B := ⟨h.size, fun k o _ ha ho => h.same k o ha ho⟩
theorem kf_up {B B' : Nat} {W W' : World} (h : KeepsFrom B W W') (hb : B ≤ B') : KeepsFrom B' W W' := ⟨h.size, fun k o hk hh ho => h.same k o (Nat.le_trans hb hk) hh ho⟩
/-- what each round keeps for the iterator: its walks' objects, and blocks of some types -/
def FY (N : Nat) (Ts : TypeId → Prop) (W W' : World) : Prop := KeepsFrom N W W' ∧ ∀ t, Ts t → KTy t W W'

/-- what a body owes at each of its ways out -/
def genPost3 (B : Nat) (Ts : TypeId → Prop) (Post : World → Prop) (Ix : Code → World → Prop) (W : World) : Exit → Act → World → Prop
  | .normal, _, W' => KeepsFrom B W W' ∧ (∀ t, Ts t → KTy t W W') ∧ Post W'
  | .ret, _, W' => KeepsFrom B W W' ∧ (∀ t, Ts t → KTy t W W') ∧ Ix .ret W'
  | .exit id, _, W' => KeepsFrom B W W' ∧ (∀ t, Ts t → KTy t W W') ∧ Ix (.exit id) W'
  | .goto t, _, W' => KeepsFrom B W W' ∧ (∀ t, Ts t → KTy t W W') ∧ Ix (.goto t) W'
  | .panic _, _, _ => False
  | .outgrown, _, _ => False

/-- what an iterator owes that may range itself -/
def IterOk3 (F : Fence) (n : Nat) (P : Program) (gf : Nat) (lb : Array Value) (Ts : TypeId → Prop) {α : Type} (encs : α → Array Value) (Start : World → Prop) (Pre Post : α → World → Prop) (Fin : World → Prop) : Prop :=
  ∀ (l : Nat) (Rc JX : World → Prop) (W1 : World), (∀ A A', Rc A → KU W1.heap.size A A' → Rc A') →
    (∀ A A' row, JX A → A.grownBy A' row → (∀ r, row = some r → W1.heap.size ≤ r ∧ ∃ o : Obj, A.heap[r]? = some o ∧ o.isCells = false) → JX A') → Rc W1 → Start W1 →
    (∀ x W, Pre x W → Rc W → W1.heap.size ≤ W.heap.size → YieldAt F (n - 1) P l (encs x) W fun e W' => FY W1.heap.size Ts W W' ∧ ((e = .returned (.bool true) ∧ Post x W' ∧ Rc W') ∨ (e = .returned (.bool false) ∧ JX W'))) →
    CallsIn F n P gf (#[.func (.yield l) #[] #[]] ++ lb) W1 fun e W' => (∃ v, e = .returned v) ∧ ((Fin W' ∧ Rc W') ∨ JX W')

section
variable {F : Fence} {n : Nat} {P : Program}

theorem range_gen3 {α : Type} {g : Operand} {ps : Array Tmp} {assign body : Code} {Q : Exit → Act → World → Prop} {a : Act} {w : World}
    (hro : F.round = none) (h1 : 1 ≤ n) {gf : Nat} {lb : Array Value} (hg : a.eval g = .func (.func gf) #[] lb) (hFg : F.fn gf) (eg : ∀ args w, (callFunc gf args).run P w = .ok (.enter gf args) w)
    {encs : α → Array Value} (hps : ∀ x, (encs x).size = ps.size)
    (Ts : TypeId → Prop) (Start : World → Prop) (Pre Post : α → World → Prop) (Ix : Code → World → Prop) (Fin : World → Prop) (Mid : α → Act → World → Prop)
    (sStart : OwnFrom w.heap.size (fun (_ : Unit) W => Start W)) (sPost : ∀ x, OwnFrom w.heap.size (fun (_ : Unit) W => Post x W)) (sIx : ∀ c, OwnFrom w.heap.size (fun (_ : Unit) W => Ix c W)) (sFin : OwnFrom w.heap.size (fun (_ : Unit) W => Fin W)) (sMid : ∀ x a', OwnFrom w.heap.size (fun (_ : Unit) W => Mid x a' W))
    (h0 : Start w) (hit : IterOk3 F (n - 1) P gf lb Ts encs Start Pre Post Fin)
    (hassign : ∀ (l : Nat) (x : α) (W : World) (K : Act → World → Prop), Pre x W → (∀ a' W', KeepsFrom w.heap.size W W' → (∀ t, Ts t → KTy t W W') → Mid x a' W' → K a' W') →
      assign.wpIn (F.inRound l) (n - 1 - 1) P (Exit.then K (fun _ _ _ => False)) { tmps := (ps.zip (encs x)).foldl (fun t (p, v) => t.setIfInBounds p v) a.tmps, defers := [] } W)
    (hbody : ∀ (l : Nat) (x : α) (a' : Act) (W : World), w.heap.size ≤ l → (∃ r, W.heap[l]? = some (.loop r)) → Mid x a' W → body.wpIn (F.inRound l) (n - 1 - 1) P (genPost3 w.heap.size Ts (Post x) Ix W) a' W)
    (hdone : ∀ (D : Nat) (W : World), w.heap.size ≤ D → Fin W → W.heap[D]? = some (.deferred (some [])) → Q .normal { a with defers := { target := .collected D, args := #[] } :: a.defers } W)
    (hstop : ∀ (D : Nat) (c : Code) (W : World), w.heap.size ≤ D → Ix c W → W.heap[D]? = some (.deferred (some [])) → c.wpIn F n P Q { a with defers := { target := .collected D, args := #[] } :: a.defers } W) :
    (Code.rangeFunc g ps assign body).wpIn F n P Q a w := by
  refine wpIn_rangeFunc ?_
  intro fn hfn
  rw [hro]
  obtain ⟨rec, hrec⟩ : ∃ rec : LoopState → Option Code → Loop, rec = fun st pe => { state := st, pending := pe, fn, tmps := a.tmps, params := ps, assign, body, defers := w.heap.size } := ⟨_, rfl⟩
  obtain ⟨W1, hW1⟩ : ∃ W1, (w.alloc (.deferred (some []))).alloc (.loop (rec .ready none)) = W1 := ⟨_, rfl⟩
  have hz1 : W1.heap.size = w.heap.size + 2 := by rw [← hW1]; simp
  have hL1 : W1.heap[w.heap.size + 1]? = some (.loop (rec .ready none)) := by
    rw [← hW1]; have := World.alloc_heap_new (w.alloc (.deferred (some []))) (.loop (rec .ready none)); rwa [World.size_alloc] at this
  have hK1 : W1.heap[w.heap.size]? = some (.deferred (some [])) := by
    rw [← hW1]; exact (Below.heap_alloc _ _ _ (by simp)).trans (World.alloc_heap_new w _)
  have hS1 : Start W1 := by rw [← hW1]; exact sStart.alloc (s := ()) _ (sStart.alloc (s := ()) _ h0)
  refine ⟨w.heap.size + 1, [{ target := .collected w.heap.size, args := #[] }], W1, { target := .fn (.func gf) lb, args := #[.func (.yield (w.heap.size + 1)) #[] #[]] }, W1, gf,
    #[.func (.yield (w.heap.size + 1)) #[] #[]] ++ lb, W1, ?_, ?_, ?_, ?_, fun _ => h1, ?_⟩
  · rw [← hW1, hrec]; exact run_enterLoop_outer _ _ _ _ _
  · simp only [resolve, hg]
    simp [go_sem]
  · intro f' hf'; simp [Target.leads] at hf'; subst hf'; exact hFg
  · simp [invoke, go_sem, eg]
  · have hRc := hit (w.heap.size + 1)
      (fun W => W.heap[w.heap.size + 1]? = some (.loop (rec .ready none)) ∧ W.heap[w.heap.size]? = some (.deferred (some [])))
      (fun W => ∃ c, Ix c W ∧ W.heap[w.heap.size + 1]? = some (.loop (rec .done (some c))) ∧ W.heap[w.heap.size]? = some (.deferred (some [])))
      W1 (fun A A' hA hk => ⟨hk.same _ _ (by omega) hA.1 rfl, hk.same _ _ (by omega) hA.2 rfl⟩)
      (fun A A' row hA hg' hr => by
        obtain ⟨c, hc, hl, hk⟩ := hA
        exact ⟨c, sIx c () A A' row hc hg' (fun r e => ⟨by have := (hr r e).1; omega, (hr r e).2⟩), (hg'.block _ (Array.getElem?_eq_some_iff.1 hl).1 (fun e => by have := (hr _ e.symm).1; omega)).trans hl, (hg'.block _ (Array.getElem?_eq_some_iff.1 hk).1 (fun e => by have := (hr _ e.symm).1; omega)).trans hk⟩)
      ⟨hL1, hK1⟩ hS1 ?_
    · refine hRc.mono ?_
      rintro e W2 ⟨⟨v, rfl⟩, (⟨hF, hl, hk⟩ | ⟨c, hi, hl, hk⟩)⟩
      · exact ⟨none, _, by have := run_endLoop (P := P) hl (by rw [hrec]; simp); rw [hrec] at this; exact this, hdone _ _ (Nat.le_refl _) (sFin.putObj (s := ()) _ hF (by omega) hl rfl) ((World.putObj_heap_other (by omega)).trans hk)⟩
      · exact ⟨some c, _, by have := run_endLoop (P := P) hl (by rw [hrec]; simp); rw [hrec] at this; exact this, hstop _ c _ (Nat.le_refl _) ((sIx c).putObj (s := ()) _ hi (by omega) hl rfl) ((World.putObj_heap_other (by omega)).trans hk)⟩
    · rintro x W hp ⟨hl, hk⟩ hWz
      have hy := run_yield (P := P) (args := encs x) hl (by rw [hrec]; exact hps x)
      rw [hrec] at hy
      refine ⟨fn, _, assign, body, hy, roundIn_of_wpIn hfn (hassign _ x W _ hp ?_)⟩
      clear hy
      intro a' Wa hkfa hkta hmid
      have hl0 := hl
      replace hl := hkfa.same _ _ (by omega) hl rfl
      replace hk := hkfa.same _ _ (Nat.le_refl _) hk rfl
      have hlt : w.heap.size + 1 < Wa.heap.size := (Array.getElem?_eq_some_iff.1 hl).1
      refine ⟨_, run_beginRound hl (by rw [hrec]), ?_⟩
      have hl2 : (Wa.putObj (w.heap.size + 1) (.loop { rec .ready none with state := .busy })).heap[w.heap.size + 1]? = some (.loop { rec .ready none with state := .busy }) := World.putObj_heap_same hlt
      have hk2 : (Wa.putObj (w.heap.size + 1) (.loop { rec .ready none with state := .busy })).heap[w.heap.size]? = some (.deferred (some [])) := (World.putObj_heap_other (by omega)).trans hk
      refine wpIn_mono (hbody _ x a' _ (by omega) ⟨_, hl2⟩ ((sMid x a').putObj (s := ()) _ hmid (by omega) hl rfl)) ?_
      have hla := hl
      have fy : ∀ (jump : Option Code) (W3 : World), KeepsFrom w.heap.size (Wa.putObj (w.heap.size + 1) (.loop { rec .ready none with state := .busy })) W3 → (∀ t, Ts t → KTy t (Wa.putObj (w.heap.size + 1) (.loop { rec .ready none with state := .busy })) W3) →
          FY W1.heap.size Ts W (W3.putObj (w.heap.size + 1) (.loop (rec (if jump.isNone then .ready else .done) jump))) := fun jump W3 hk3 ht3 => by
        have hl3 := hk3.same _ _ (by omega) hl2 rfl
        exact ⟨(((kf_up hkfa (by omega)).trans (KeepsFrom.of_grownBy (grownBy_putObj' _ _ _) (fun j e => by cases e; omega))).trans (kf_up hk3 (by omega))).trans (KeepsFrom.of_grownBy (grownBy_putObj' _ _ _) (fun j e => by cases e; omega)), fun t ht => (((hkta t ht).trans (KTy.putObj _ hla rfl)).trans (ht3 t ht)).trans (KTy.putObj _ hl3 rfl)⟩
      have fin : ∀ (jump : Option Code) (W3 : World), KeepsFrom w.heap.size (Wa.putObj (w.heap.size + 1) (.loop { rec .ready none with state := .busy })) W3 →
          (Instr.endRound (w.heap.size + 1) jump).run P W3 = .ok (.bool jump.isNone) (W3.putObj (w.heap.size + 1) (.loop (rec (if jump.isNone then .ready else .done) jump))) ∧
          W3.heap[w.heap.size + 1]? = some (.loop { rec .ready none with state := .busy }) ∧
          (W3.putObj (w.heap.size + 1) (.loop (rec (if jump.isNone then .ready else .done) jump))).heap[w.heap.size + 1]? = some (.loop (rec (if jump.isNone then .ready else .done) jump)) ∧
          (W3.putObj (w.heap.size + 1) (.loop (rec (if jump.isNone then .ready else .done) jump))).heap[w.heap.size]? = some (.deferred (some [])) := fun jump W3 hk3 => by
        have hl3 := hk3.same _ _ (by omega) hl2 rfl
        have := run_endRound (P := P) jump hl3
        rw [hrec] at this ⊢
        exact ⟨this, by rw [hrec] at hl3; exact hl3, World.putObj_heap_same (Array.getElem?_eq_some_iff.1 hl3).1, (World.putObj_heap_other (by omega)).trans (hk3.same _ _ (Nat.le_refl _) hk2 rfl)⟩
      rintro e a3 W3 hp3
      cases e with
      | normal =>
        obtain ⟨hk3, ht3, hi3⟩ := hp3
        obtain ⟨hr, hl3, hl4, hk4⟩ := fin none W3 hk3
        exact ⟨_, _, hr, fy none W3 hk3 ht3, .inl ⟨rfl, (sPost x).putObj (s := ()) _ hi3 (by omega) hl3 rfl, hl4, hk4⟩⟩
      | ret =>
        obtain ⟨hk3, ht3, hi3⟩ := hp3
        obtain ⟨hr, hl3, hl4, hk4⟩ := fin (some .ret) W3 hk3
        exact ⟨_, _, hr, fy (some .ret) W3 hk3 ht3, .inr ⟨rfl, .ret, (sIx _).putObj (s := ()) _ hi3 (by omega) hl3 rfl, hl4, hk4⟩⟩
      | exit id =>
        obtain ⟨hk3, ht3, hi3⟩ := hp3
        obtain ⟨hr, hl3, hl4, hk4⟩ := fin (some (.exit id)) W3 hk3
        exact ⟨_, _, hr, fy (some (.exit id)) W3 hk3 ht3, .inr ⟨rfl, .exit id, (sIx _).putObj (s := ()) _ hi3 (by omega) hl3 rfl, hl4, hk4⟩⟩
      | goto t =>
        obtain ⟨hk3, ht3, hi3⟩ := hp3
        obtain ⟨hr, hl3, hl4, hk4⟩ := fin (some (.goto t)) W3 hk3
        exact ⟨_, _, hr, fy (some (.goto t)) W3 hk3 ht3, .inr ⟨rfl, .goto t, (sIx _).putObj (s := ()) _ hi3 (by omega) hl3 rfl, hl4, hk4⟩⟩
      | panic ch => exact hp3.elim
      | outgrown => exact hp3.elim
end

end Go.Proofs.Ytnlhgnioedalpaa


namespace Go.Proofs.Ytnlhgnioedalpaa.Pri
open Go.RowKit
theorem roundAny {m m' : Nat} {P : Program} {l : Nat} {f : FuncId} {tmps : Array Value} {assign body : Code} {w : World} {R : Ending → World → Prop}
    (h : RoundIn Fence.wide m P l f tmps assign body w R) : RoundIn Fence.wide m' P l f tmps assign body w R := ⟨h.1, fun c cs _ => h.2 c cs (fun d h => by cases h)⟩
theorem yieldAny {m : Nat} (m' : Nat) {P : Program} {l : Nat} {args : Array Value} {W : World} {R : Ending → World → Prop} (h : YieldAt Fence.wide m P l args W R) : YieldAt Fence.wide m' P l args W R := by
  obtain ⟨fn, tmps, assign, body, hy, hR⟩ := h
  exact ⟨fn, tmps, assign, body, hy, roundAny hR⟩

end Go.Proofs.Ytnlhgnioedalpaa.Pri
