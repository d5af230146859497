/- PriP, PriS, PriV, PriceGrows, ChkA, ChkB, laid together. -/
import Derived.Test.YtnlhgnioedalpaaGr05
import Derived.Deep.RegionHeld3
import Derived.BigQuiet
import Derived.Maps.OwnSet

/- price: Put. -/
set_option linter.unusedSimpArgs false
set_option linter.unusedVariables false
namespace Go.Proofs.Ytnlhgnioedalpaa.Pri
open Go.RowKit Go.Proofs.YtnlhgnioedalpaaW.PrintWords Go.Proofs.Ytnlhgnioedalpaa.PPricePlays
attribute [local go_sem] Oper.semAt_some

theorem ins_pos {s a : Int} : ∀ {es : List En} {k : Nat}, Pos es s k → insL es s a = es.take k ++ (s, a) :: es.drop k
  | [], k, h => by simp [insL]
  | e :: r, 0, h => by
    have h0 : ltS e.1 s = false := h.hi 0 (Nat.le_refl _) (by simp)
    simp only [insL]
    rw [if_neg (by rw [h0]; decide)]
    rfl
  | e :: r, k + 1, h => by
    have h0 : ltS e.1 s = true := h.lo 0 (by omega)
    have ih := ins_pos (es := r) (k := k) (a := a) ⟨by have := h.le; simp at this; omega, fun m hm => h.lo (m + 1) (by omega), fun m h1 h2 => h.hi (m + 1) (by omega) (by simp; omega)⟩
    simp only [insL]
    rw [if_pos h0, ih]
    rfl
theorem below_gb {A B : World} {p : Nat} (h : Below A.heap.size A B) : A.grownBy B (some p) := ⟨h.os, h.tape, h.output, h.size, fun k hk _ => h.block k hk⟩
theorem gb_trans {A B C : World} {p : Nat} (h : A.grownBy B (some p)) (k : B.grownBy C (some p)) : A.grownBy C (some p) :=
  ⟨k.os.trans h.os, k.tape.trans h.tape, k.output.trans h.output, Nat.le_trans h.size k.size, fun j hj hne => (k.block j (Nat.lt_of_lt_of_le hj h.size) hne).trans (h.block j hj hne)⟩
theorem UE.del {es : List En} (h : UE es) (s a : Int) : UE (delL es s a) := fun e he => h e (del_mem.1 he).1
theorem sd_del {es : List En} (h : es.Pairwise (fun a b => ltS a.1 b.1 = true)) (s a : Int) : (delL es s a).Pairwise (fun a b => ltS a.1 b.1 = true) := h.filter _
theorem own_sl {w : World} {base n size : Nat} {e : TypeId} {v : Value} {xs : List Value} (h : w.ownsRow base e size v n xs) : ∃ A c, v = .slice A n c := by
  rcases h.2 with ⟨rfl, hz⟩ | ⟨g, cap, cur, rfl, _⟩
  · exact ⟨none, 0, by rw [hz]⟩
  · exact ⟨_, cap, rfl⟩
/-- what holds of a store that puts have made -/
structure SR (W : World) (p : Nat) (es : List En) : Prop where
  pr : PR W p es
  ue : UE es
  ti : Tight es
  len : es.length ≤ 100000000
theorem SR.below {W W' : World} {p : Nat} {es : List En} (h : SR W p es) (hb : Below W.heap.size W W') : SR W' p es := ⟨h.pr.below hb, h.ue, h.ti, h.len⟩
/-- the slice of a store behind a step is new, or the one it was -/
def NF (W W' : World) (p : Nat) : Prop := ∀ v, Blk W' p tS [v] → (∀ k, v.ownBlock = some k → W.heap.size ≤ k ∧ k < W'.heap.size) ∨ Blk W p tS [v]
theorem NF.below {W W' : World} {p : Nat} (hp : p < W.heap.size) (h : Below W.heap.size W W') : NF W W' p := fun v hv => .inr ((h.block p hp).symm.trans hv)
theorem NF.fresh {W W' : World} {p : Nat} {u : Value} (hb : Blk W' p tS [u]) (h : ∀ k, u.ownBlock = some k → W.heap.size ≤ k ∧ k < W'.heap.size) : NF W W' p := fun v hv => by
  unfold Blk at hb hv
  rw [hb] at hv
  have : u = v := by simpa using hv
  subst this
  exact .inl h
theorem NF.trans {A B C : World} {p : Nat} (h : NF A B p) (k : NF B C p) (hs : A.heap.size ≤ B.heap.size) (hs2 : B.heap.size ≤ C.heap.size) : NF A C p := fun v hv => by
  rcases k v hv with k1 | k1
  · exact .inl (fun j hj => ⟨Nat.le_trans hs (k1 j hj).1, (k1 j hj).2⟩)
  · rcases h v k1 with h1 | h1
    · exact .inl (fun j hj => ⟨(h1 j hj).1, Nat.lt_of_lt_of_le (h1 j hj).2 hs2⟩)
    · exact .inr h1
set_option maxRecDepth 100000 in
set_option maxHeartbeats 8000000 in
theorem put_anyF (W : World) (p : Nat) (es : List En) (s a : Int) (h : PR W p es) (hU : UE es) (hT : Tight es) (hs : U s) (hl : es.length ≤ 100000000) :
    Calls Try.prog 25 #[.pointer (some ⟨p, 0, none⟩), .int .u64 s, .int .i64 a] W fun e w' => e = .returned (.bool (okP es s a)) ∧ PR w' p (putP es s a) ∧ W.grownBy w' (some p) ∧ NF W w' p := by
  have hpl := h.lt
  obtain ⟨w1, hw1⟩ : ∃ w1, (W.alloc (.cells #[.int .u64 s] 32)).alloc (.cells #[.int .i64 a] 2) = w1 := ⟨_, rfl⟩
  have b1 : Blk w1 W.heap.size 32 [.int .u64 s] := by rw [← hw1]; exact (Blk.new W _ _).alloc _
  have b2 : Blk w1 (W.heap.size + 1) 2 [.int .i64 a] := by rw [← hw1]; exact Blk.new2 W _ _ _
  have hal : Below W.heap.size W w1 := by rw [← hw1]; exact ((Below.refl _ W).alloc (Nat.le_refl _) _).alloc (by simp) _
  have hz1 : w1.heap.size = W.heap.size + 2 := by rw [← hw1]; simp
  have hP1 := h.below hal
  have HW1 := Lib.hid hw1; have HP1 := Lib.hid hP1; have HAL := Lib.hid hal
  have c1 := b1.cell (i := 0) rfl
  have c2 := b2.cell (i := 0) rfl
  have HB1 := Lib.hid b1; have HB2 := Lib.hid b2
  clear hw1 hP1 hal b1 b2 h
  have HD := Lib.hid (show Below W.heap.size W w1.drew from HAL.out.drew)
  have HPD := Lib.hid (HP1.out.below ((Below.refl w1.heap.size w1).drew))
  by_cases h0 : s = 0
  · subst h0
    have hok : okP es 0 a = false := by unfold okP; simp
    have hpp : putP es 0 a = es := by unfold putP; rw [hok]; rfl
    rw [hok, hpp]
    go_enter Try.func25, Try.ntmps25
    go_wp2_with fail
    rw [HW1.out]
    go_region
    all_goals
      go_wp2_with fail
      go_ret
      exact ⟨rfl, HPD.out, below_gb HD.out, NF.below hpl HD.out⟩
  · have hs0 : (s == 0) = false := by simp [h0]
    by_cases hm : 2199023255552 < a
    · have hok : okP es s a = false := by unfold okP most; simp; omega
      have hpp : putP es s a = es := by unfold putP; rw [hok]; rfl
      rw [hok, hpp]
      go_enter Try.func25, Try.ntmps25
      go_wp2_with fail
      rw [HW1.out]
      go_region
      all_goals
        go_wp2_with fail
        go_ret
        exact ⟨rfl, HPD.out, below_gb HD.out, NF.below hpl HD.out⟩
    · have AK := Lib.hid (ask_any w1.drew p es s HPD.out hU hs (by omega))
      obtain ⟨m, hmm⟩ : ∃ m, askL es s = m := ⟨_, rfl⟩
      rw [hmm] at AK
      by_cases hle : a ≤ m
      · have hok : okP es s a = false := by unfold okP; rw [hmm]; simp; omega
        have hpp : putP es s a = es := by unfold putP; rw [hok]; rfl
        rw [hok, hpp]
        have hm2 : a ≤ 2199023255552 := by omega
        have hm3 : decide (2199023255552 < a) = false := by simp; omega
        clear hok hpp hmm hm
        go_enter Try.func25, Try.ntmps25
        go_wp2_with fail
        rw [HW1.out]
        go_region_held3 (fun w' => w'.cell? ⟨W.heap.size, 0, none⟩ = some (.int .u64 s) ∧ w'.cell? ⟨W.heap.size + 1, 0, none⟩ = some (.int .i64 a)) (go_keep) ((refine AK.out.mono ?_; rintro e w2 ⟨rfl, hb2⟩; obtain ⟨hc2, hf2⟩ := bcell hb2))
        go_wp2_with fail
        go_ret
        exact ⟨rfl, HPD.out.below hb2, below_gb (HD.out.trans (hb2.mono HD.out.size)), NF.below hpl (HD.out.trans (hb2.mono HD.out.size))⟩
      · have hlt : askL es s < a := by rw [hmm]; omega
        have hok : okP es s a = true := ok_iff.2 ⟨h0, by unfold most; omega, hlt⟩
        have hpp : putP es s a = insL (delL es s a) s a := by unfold putP; rw [hok]; rfl
        rw [hok]
        have hm2 : a ≤ 2199023255552 := by omega
        have hm3 : decide (2199023255552 < a) = false := by simp; omega
        have hle2 : decide (a ≤ m) = false := by simp; omega
        have HPP := Lib.hid hpp
        rw [hpp]
        clear hok hpp hmm hm hlt
        go_enter Try.func25, Try.ntmps25
        go_wp2_with fail
        rw [HW1.out]
        go_region_held3 (fun w' => w'.cell? ⟨W.heap.size, 0, none⟩ = some (.int .u64 s) ∧ w'.cell? ⟨W.heap.size + 1, 0, none⟩ = some (.int .i64 a)) (go_keep) ((refine AK.out.mono ?_; rintro e w2 ⟨rfl, hb2⟩; obtain ⟨hc2, hf2⟩ := bcell hb2))
        have hBw2 := HD.out.trans (hb2.mono HD.out.size)
        have hP2 := HPD.out.below hb2
        have hd1 := (HB1.out.belowS ((Below.refl _ w1).drew)).belowS hb2
        have hd2 := (HB2.out.belowS ((Below.refl _ w1).drew)).belowS hb2
        obtain ⟨v, hbv, hpe⟩ := hP2
        have cp := hbv.cell (i := 0) rfl
        have hl1 := hd2.lt
        obtain ⟨B, hB⟩ : ∃ B, w2.heap.size = B := ⟨_, rfl⟩
        have HBV := Lib.hid hbv; have HD1 := Lib.hid hd1; have HD2 := Lib.hid hd2; have HBW2 := Lib.hid hBw2; have HPE := Lib.hid hpe; have HBB := Lib.hid hB
        clear hc2 hf2 hb2 hBw2 hd1 hd2 hbv hpe AK c1 c2
        go_wp2_with fail
        refine (clone_any w2 v es HPE.out (by omega)).mono ?_; rintro e w3 ⟨v1, rfl, ho1, hb3⟩
        rw [HBB.out] at ho1 hb3
        have HO1 := Lib.hid ho1; have HB3 := Lib.hid hb3
        have hs3 := hb3.size
        clear ho1 hb3 cp
        go_wp2_with fail
        refine (del_any w3 B v1 es HO1.out (by omega) hU (by omega) W.heap.size (W.heap.size + 1) s a hs (HD1.out.below HB3.out (by omega)) (HD2.out.below HB3.out (by omega)) (by omega) (by omega)).mono ?_; rintro e w4 ⟨v2, rfl, ho2, hb4⟩
        have hb4' := HB3.out.trans hb4
        have hdl : (delL es s a).length ≤ es.length := List.length_filter_le ..
        have e1 := (HD1.out.below hb4' (by omega)).cell (i := 0) rfl
        have hpe2 := pe_own (by omega) ho2
        have HO2 := Lib.hid ho2; have HB4 := Lib.hid hb4'; have HPE2 := Lib.hid hpe2
        have hs4 := hb4.size
        clear ho2 hb4 hb4' hpe2
        go_wp2_with fail
        refine (pos_any w4 v2 (delL es s a) HPE2.out (hU.del s a) (by omega) (sd_del hT.sd s a) s hs).mono ?_; rintro e w5 ⟨k, bb, rfl, hpos, hb5⟩
        have HB5 := Lib.hid (HB4.out.trans (hb5.mono (by omega)))
        have HO5 := Lib.hid (own_below HO2.out hb5)
        have hs5 := hb5.size
        have e2 := (HD1.out.below HB5.out (by omega)).cell (i := 0) rfl
        have e3 := (HD2.out.below HB5.out (by omega)).cell (i := 0) rfl
        have HPOS := Lib.hid hpos
        clear hb5 hpos e1
        go_wp2_with fail
        have hq := Blk.new w5 [.int .u64 s, .int .i64 a] tE
        have hal6 : Below w5.heap.size w5 (w5.alloc (.cells #[.int .u64 s, .int .i64 a] tE)) := (Below.refl _ w5).alloc (Nat.le_refl _) _
        have ho6 := own_below HO5.out hal6
        have hB6 := HB5.out.trans (hal6.mono (by omega))
        have hqv : v2.ownBlock ≠ some w5.heap.size := fun e => by have := (HO5.out.lt _ e).2; omega
        have hs6 := hal6.size
        refine (ins_any _ B v2 (delL es s a) ho6 (by omega) (by omega) k HPOS.out.le w5.heap.size (s, a) hq hqv).mono ?_; rintro e w7 ⟨v3, rfl, ho7, hb7⟩
        rw [← ins_pos HPOS.out] at ho7
        obtain ⟨A3, c3, rfl⟩ := own_sl ho7
        have hB7 := hB6.trans hb7
        have hln : (insL (delL es s a) s a).length = (delL es s a).length + 1 := by
          rw [ins_pos HPOS.out, List.length_append, List.length_cons, List.length_take, List.length_drop]
          have := HPOS.out.le
          omega
        have hb := HBV.out.below hB7 (by omega)
        have cp7 := hb.cell (i := 0) rfl
        have fp7 := hb.frozen 0
        have hW7 := HBW2.out.trans (hB7.mono (by have := HBW2.out.size; omega))
        have hne : (Value.slice A3 ((delL es s a).length + 1) c3).ownBlock ≠ some p := fun e => by have := (ho7.lt _ e).1; omega
        have ho7' := ho7
        have hne' := hne
        rw [← hln] at ho7' hne'
        have HF := Lib.hid (show PR (w7.setCell ⟨p, 0, none⟩ (.slice A3 ((delL es s a).length + 1) c3)) p (insL (delL es s a) s a) ∧ W.grownBy (w7.setCell ⟨p, 0, none⟩ (.slice A3 ((delL es s a).length + 1) c3)) (some p) ∧ NF W (w7.setCell ⟨p, 0, none⟩ (.slice A3 ((delL es s a).length + 1) c3)) p from
          ⟨⟨_, hb.set 0 _, by rw [← hln]; exact pe_own (by omega) (own_setCell ho7' hne' 0 _)⟩, gb_trans (below_gb hW7) (grownBy_setAt w7 p 0 _), NF.fresh (hb.set 0 _) (fun k hk => ⟨by have := (ho7.lt k hk).1; have := HBB.out; have := HBW2.out.size; omega, by have := (ho7.lt k hk).2; simpa [World.setCell] using this⟩)⟩)
        clear hq hal6 ho6 hB6 hqv ho7 hb7 hB7 hb hW7 hne hln e2 e3 ho7' hne'
        go_wp2_with fail
        go_ret
        exact ⟨rfl, HF.out⟩
theorem put_any (W : World) (p : Nat) (es : List En) (s a : Int) (h : PR W p es) (hU : UE es) (hT : Tight es) (hs : U s) (hl : es.length ≤ 100000000) :
    Calls Try.prog 25 #[.pointer (some ⟨p, 0, none⟩), .int .u64 s, .int .i64 a] W fun e w' => e = .returned (.bool (okP es s a)) ∧ PR w' p (putP es s a) ∧ W.grownBy w' (some p) :=
  (put_anyF W p es s a h hU hT hs hl).mono fun e w' ⟨h1, h2, h3, _⟩ => ⟨h1, h2, h3⟩

end Go.Proofs.Ytnlhgnioedalpaa.Pri

/- price: the other methods of a store. -/
set_option linter.unusedSimpArgs false
set_option linter.unusedVariables false
namespace Go.Proofs.Ytnlhgnioedalpaa.Pri
open Go.RowKit Go.Proofs.YtnlhgnioedalpaaW.PrintWords Go.Proofs.Ytnlhgnioedalpaa.PPricePlays
attribute [local go_sem] Oper.semAt_some

theorem wrap_succ {i : Nat} (h : i < 9223372036854775807) : wrap64 ((i : Int) + 1) = ((i + 1 : Nat) : Int) := by unfold wrap64; omega
theorem rdE (l : List En) {i : Nat} (hi : i < l.length) : rd_T41 (l.map toE) (i : Int) = toE l[i] := by simp [rd_T41, hi]
theorem list_any (W : World) (p : Nat) (es : List En) (h : PR W p es) (hl : es.length ≤ 1099511627776) :
    Calls Try.prog 17 #[.pointer (some ⟨p, 0, none⟩)] W fun e w' => ∃ v', e = .returned v' ∧ w'.ownsRow W.heap.size tE 2 v' es.length (cellsOf cE es) ∧ Below W.heap.size W w' := by
  obtain ⟨v, hb, hpe⟩ := h
  have cp := hb.cell (i := 0) rfl
  have C := Lib.hid (clone_any W v es hpe hl)
  clear hb hpe
  go_enter Try.func17, Try.ntmps17
  go_wp2_with fail
  refine C.out.mono ?_; rintro e w1 ⟨v', rfl, ho, hb⟩
  have HO := Lib.hid ho; have HB := Lib.hid hb
  clear ho hb
  go_wp2_with fail
  exact bodyPost_ret (v := v') (by simp [results, Try.f17, go_sem]) rfl ⟨_, rfl, HO.out, HB.out⟩
theorem put_len (es : List En) (s a : Int) : (putP es s a).length ≤ es.length + 1 := by
  unfold putP
  split
  · have h1 : ∀ l : List En, (insL l s a).length = l.length + 1 := fun l => by
      induction l with
      | nil => rfl
      | cons e r ih => simp only [insL]; split <;> simp [ih]
    have h2 : (delL es s a).length ≤ es.length := List.length_filter_le ..
    rw [h1]; omega
  · omega
theorem UE.put {es : List En} (h : UE es) {s : Int} (hs : U s) (a : Int) : UE (putP es s a) := by
  unfold putP
  split
  · intro e he
    rcases ins_mem.1 he with rfl | he
    · exact hs
    · exact h.del s a e he
  · exact h
theorem ofL_take {es : List En} {k : Nat} (hk : k < es.length) : ofL (es.take (k + 1)) = putP (ofL (es.take k)) (es.getD k dE).1 (es.getD k dE).2 := by
  rw [List.take_succ_eq_append_getElem hk, show es.getD k dE = es[k] from by simp [List.getD, hk]]
  unfold ofL
  rw [List.foldl_append]
  rfl
theorem SR.put {W W' : World} {p : Nat} {es : List En} {s a : Int} (h : SR W p es) (hs : U s) (hp : PR W' p (putP es s a)) (hl : es.length < 100000000) : SR W' p (putP es s a) :=
  ⟨hp, h.ue.put hs a, h.ti.put hs a, by have := put_len es s a; omega⟩
theorem sput_anyF (W : World) (p : Nat) (es : List En) (s a : Int) (h : SR W p es) (hs : U s) :
    Calls Try.prog 25 #[.pointer (some ⟨p, 0, none⟩), .int .u64 s, .int .i64 a] W fun e w' => e = .returned (.bool (okP es s a)) ∧ PR w' p (putP es s a) ∧ W.grownBy w' (some p) ∧ NF W w' p := put_anyF W p es s a h.pr h.ue h.ti hs h.len
theorem sask_any (W : World) (p : Nat) (es : List En) (s : Int) (h : SR W p es) (hs : U s) :
    Calls Try.prog 21 #[.pointer (some ⟨p, 0, none⟩), .int .u64 s] W fun e w' => e = .returned (.int .i64 (askL es s)) ∧ Below W.heap.size W w' := ask_any W p es s h.pr h.ue hs (by have := h.len; omega)
set_option maxHeartbeats 400000 in
theorem entries_any (W : World) (p : Nat) :
    Calls Try.prog 28 #[.pointer (some ⟨p, 0, none⟩)] W fun e w' => e = .returned (.func (.func 70) #[] #[.pointer (some ⟨W.heap.size, 0, none⟩)]) ∧ w' = W.alloc (.cells #[.pointer (some ⟨p, 0, none⟩)] 25) := by
  go_enter Try.func28, Try.ntmps28
  go_wp2_with fail
  go_ret
  exact ⟨rfl, rfl⟩
set_option maxRecDepth 100000 in
set_option maxHeartbeats 4000000 in
theorem entries_iter (n : Nat) (B1 p : Nat) (v : Value) (es : List En) (hsm : es.length < 9223372036854775807) (Inv : Nat → World → Prop)
    (hI : ∀ k W, Inv k W → W.cell? ⟨B1, 0, none⟩ = some (.pointer (some ⟨p, 0, none⟩)) ∧ W.cell? ⟨p, 0, none⟩ = some v ∧ PE W v es)
    (hal : ∀ k W o, Inv k W → Inv k (W.alloc o)) :
    IterOk Fence.wide n Try.prog 70 #[.pointer (some ⟨B1, 0, none⟩)] (fun k : Nat => #[.int .u64 (es.getD k dE).1, .int .i64 (es.getD k dE).2])
      (Inv 0) (fun k W => k < es.length ∧ Inv k W) (fun k W => Inv (k + 1) W) (Inv es.length) := by
  intro l Rc JX W1 hRc hJX hR0 hS0 hY
  refine callsIn_of_wp Try.func70 rfl trivial ?_ rfl
  simp only [Try.ntmps70, List.size_toArray, List.length_cons, List.length_nil, Nat.reduceAdd, Nat.reduceSub, Array.replicate_succ, Array.replicate_zero, List.push_toArray, List.append_toArray, List.nil_append, List.cons_append]
  obtain ⟨cb1, cp, hPE⟩ := hI _ _ hS0
  obtain ⟨A, c, rfl, -⟩ := hPE
  gi_wp2_with fail
  gi_loopw [10] (fun i wr => ∃ k : Nat, k ≤ es.length ∧ i = .int .i64 k ∧ Rc wr ∧ Inv k wr) (fun i _ => es.length - (intOf i).toNat)
  case atStart => exact ⟨0, Nat.zero_le _, rfl, hR0, hS0⟩
  case round =>
    obtain ⟨k, hk, rfl, hr, hi⟩ := hrel
    obtain ⟨db1, dp, hPE⟩ := hI _ _ hi
    have k0 : (0 : Int) ≤ (k : Int) := Int.natCast_nonneg _
    have k9 : (k : Int) ≤ 9223372036854775807 := by omega
    by_cases hlt2 : k < es.length
    · have kl : (k : Int) < (es.length : Int) := by omega
      obtain ⟨⟨x, y⟩, hx⟩ : ∃ x, es[k] = x := ⟨_, rfl⟩
      have hx2 : es[k]? = some (x, y) := by rw [List.getElem?_eq_getElem hlt2, hx]
      have hgd : es.getD k dE = (x, y) := by rw [List.getD_eq_getElem?_getD, hx2]; rfl
      obtain ⟨b3, off3, c4, e1, hlb, r0, r1⟩ := hPE.at hx2
      obtain ⟨rfl, rfl⟩ : A = some ⟨b3, off3, none⟩ ∧ c = c4 := by injection e1 with e1 e2 e3; exact ⟨e1, e3⟩
      simp only at r0 r1
      have hia := hal _ _ (.cells #[.int .u64 x, .int .i64 y] tE) hi
      have hra := hRc _ _ hr (belowOthers ((Below.refl wr.heap.size wr).alloc (Nat.le_refl _) (.cells #[.int .u64 x, .int .i64 y] tE)))
      obtain ⟨fn, tmps, assign, body, hy, hRn⟩ := hY k _ ⟨hlt2, hia⟩ hra
      rw [hgd] at hy
      dsimp only at hy
      clear hx hx2 hgd hia hra e1 db1 dp hPE
      gi_wp2_with fail
      refine ⟨fun h => (by cases h), ?_⟩
      refine hRn.mono ?_
      rintro e W3 (⟨rfl, hi3, hr3⟩ | ⟨rfl, hJ⟩)
      · gi_wp2_with fail
        go_roundw
        case rel => exact ⟨k + 1, by omega, by simp, hr3, hi3⟩
        case measure => simp [intOf]; omega
      · gi_wp2_with fail
        refine bodyPost_ret (results_none rfl _ _ _) rfl ?_
        exact ⟨⟨_, rfl⟩, .inr hJ⟩
    · obtain rfl : k = es.length := by omega
      gi_wp2_with fail
      go_end0
      exact ⟨⟨_, rfl⟩, .inl ⟨hi, hr⟩⟩

end Go.Proofs.Ytnlhgnioedalpaa.Pri

/- price: the example alive. -/
set_option linter.unusedSimpArgs false
set_option linter.unusedVariables false
namespace Go.Proofs.Ytnlhgnioedalpaa.Pri
open Go.RowKit Go.Proofs.YtnlhgnioedalpaaW.PrintWords Go.Proofs.Ytnlhgnioedalpaa.PPricePlays
attribute [local go_sem] Oper.semAt_some

theorem ask_c (W : World) (p : Nat) (es : List En) (s m : Int) (h : SR W p es) (hs : U s) (hm : askL es s = m) :
    Calls Try.prog 21 #[.pointer (some ⟨p, 0, none⟩), .int .u64 s] W fun e w' => e = .returned (.int .i64 m) ∧ Below W.heap.size W w' := by
  have := sask_any W p es s h hs
  rw [hm] at this
  exact this
/-- entries stay where another store is written -/
theorem PE.turn {W W' : World} {v : Value} {l : List En} {p : Nat} {t : TypeId} {A2 : Option Addr} {n2 c2 : Nat} (h : PE W v l) (hb : Blk W p t [.slice A2 n2 c2]) (hg : W.grownBy W' (some p)) : PE W' v l := by
  obtain ⟨A, c, rfl, h1, h2, h3⟩ := h
  refine ⟨A, c, rfl, h1, h2, h3.1, h3.2.1, fun hpos => ?_⟩
  obtain ⟨a, rfl, hr⟩ := h3.2.2 hpos
  refine ⟨a, rfl, fun j x hx => ?_⟩
  obtain ⟨cs, hl, hk, hc⟩ := hr j x hx
  obtain rfl := k41_open hk
  refine ⟨_, hl, k41_mk W' x, fun i u hu => ?_⟩
  have hcu := hc i u hu
  have hsp := cell_spot hcu
  rw [hsp.1] at hcu ⊢
  by_cases hbp : (a.add (j * k41.sz + i)).block = p
  · exfalso
    rw [hbp] at hcu
    have := cell_of_row W p (a.add (j * k41.sz + i)).off [Value.slice A2 n2 c2].toArray t (0, 0) hb
    rw [this] at hcu
    obtain ⟨o, ho⟩ : ∃ o, (a.add (j * k41.sz + i)).off = o := ⟨_, rfl⟩
    rw [ho] at hcu
    have hint : ∃ q z, u = .int q z := by
      rcases (show i = 0 ∨ i = 1 by have := (List.getElem?_eq_some_iff.1 hu).1; simp at this; omega) with rfl | rfl
      · simp at hu; exact ⟨_, _, hu.symm⟩
      · simp at hu; exact ⟨_, _, hu.symm⟩
    obtain ⟨q, z, rfl⟩ := hint
    cases o with
    | zero => simp at hcu
    | succ o => simp at hcu
  · have e : W'.cell? ⟨(a.add (j * k41.sz + i)).block, (a.add (j * k41.sz + i)).off, none⟩ = W.cell? ⟨(a.add (j * k41.sz + i)).block, (a.add (j * k41.sz + i)).off, none⟩ := by
      unfold World.cell?
      rw [hg.block _ hsp.2 (by simpa using hbp)]
    rw [e]; exact hcu
theorem PR.turn {W W' : World} {p q : Nat} {l m : List En} (h : PR W q l) (hp : PR W p m) (hne : q ≠ p) (hg : W.grownBy W' (some p)) : PR W' q l := by
  obtain ⟨v, hb, hpe⟩ := h
  obtain ⟨u, kb, kpe⟩ := hp
  obtain ⟨A, c, rfl, -⟩ := kpe
  exact ⟨v, hb.kept hg (by simpa using hne), hpe.turn kb hg⟩
theorem SR.turn {W W' : World} {p q : Nat} {l m : List En} (h : SR W q l) (hp : SR W p m) (hne : q ≠ p) (hg : W.grownBy W' (some p)) : SR W' q l := ⟨h.pr.turn hp.pr hne hg, h.ue, h.ti, h.len⟩
def y1 : List En := [(3, 5)]
def y2 : List En := [(1, 3), (3, 5)]
def y3 : List En := [(1, 7)]
def y4 : List En := [(1, 7), (2, 4)]
theorem sr_nil (W : World) : SR (W.alloc (.cells #[.slice none 0 0] tS)) W.heap.size [] := ⟨⟨_, Blk.new W _ _, pe_nil _⟩, by intro e he; simp at he, Tight.nil, by simp⟩
def y5 : List En := [(3, 5), (1, 3)]
def cS : Nat → Int
  | 0 => 0
  | 1 => 3
  | _ => 18
/-- what the example's range holds -/
def CI (w8 : World) (q k : Nat) (W' : World) : Prop := Blk W' w8.heap.size 3 [.int .i64 (cS k)] ∧ Blk W' (w8.heap.size + 1) 25 [.pointer (some ⟨q, 0, none⟩)] ∧ Below w8.heap.size w8 W'
theorem CI.ownF (w8 : World) (q k : Nat) {b : Nat} (hb : w8.heap.size ≤ b) : OwnFrom b (fun (_ : Unit) W' => CI w8 q k W') :=
  OwnFrom.and (Own.from (blk_own _ _ (fun _ => _)) _) (OwnFrom.and (Own.from (blk_own _ _ (fun _ => _)) _) (ownFrom_below (Nat.le_refl _) hb))
end Go.Proofs.Ytnlhgnioedalpaa.Pri

/- PriceGrows: for a set no less is asked than for what lies within it. -/
set_option linter.unusedSimpArgs false
set_option linter.unusedVariables false
namespace Go.Proofs.Ytnlhgnioedalpaa.Pri
open Go.RowKit Go.Proofs.YtnlhgnioedalpaaW.PrintWords Go.Proofs.Ytnlhgnioedalpaa.PPricePlays
attribute [local go_sem] Oper.semAt_some

theorem U_wf {x : Int} (h : (Lit.int .u64 x).wf = true) : U x := by
  unfold Lit.wf at h
  rw [Bool.and_eq_true, decide_eq_true_eq, decide_eq_true_eq] at h
  have h2 : x ≤ 18446744073709551615 := h.2
  exact ⟨h.1, by omega⟩
end Go.Proofs.Ytnlhgnioedalpaa.Pri

/- check: One, Last, Kept, All (over the stores of price). Bids are read as pairs, as entries are. -/
set_option linter.unusedSimpArgs false
set_option linter.unusedVariables false
namespace Go.Proofs.Ytnlhgnioedalpaa.Pri
open Go.RowKit Go.Proofs.YtnlhgnioedalpaaW.PrintWords Go.Proofs.Ytnlhgnioedalpaa.PPricePlays Go.Maps
attribute [local go_sem] Oper.semAt_some

abbrev tB : TypeId := 57
/-- is a bid right? -/
def rightB (b : En) : Bool := decide (b.1 ≠ 0) && decide (0 ≤ b.2) && decide (b.2 ≤ 2199023255552)
/-- what is wrong with a bid -/
def oneN (b : En) (es : List En) (items : Int) : Int := if rightB b = false ∨ wi b.1 items = false then 1 else if askL es b.1 < b.2 then 50 else 0
/-- what is wrong with bids, behind some that were seen -/
def allR (es : List En) (items : Int) : List Int → List En → Int
  | _, [] => 0
  | seen, b :: r => if oneN b es items ≠ 0 then oneN b es items else if seen.contains b.1 = true then 5 else allR es items (b.1 :: seen) r
def allN (bs es : List En) (items : Int) : Int := if 64 < bs.length then 3 else allR es items [] bs
theorem blkB (W : World) (x y : Int) : Blk (W.alloc (.cells #[.int .u64 x, .int .i64 y] tB)) W.heap.size tB [.int .u64 x, .int .i64 y] := Blk.new W _ _
theorem right_any (W : World) (x y : Int) : Calls Try.prog 71 #[.agg #[.int .u64 x, .int .i64 y]] W fun e w' => e = .returned (.bool (rightB (x, y))) ∧ Below W.heap.size W w' := by
  have HB := Lib.hid (show Below W.heap.size W (W.alloc (.cells #[.int .u64 x, .int .i64 y] tB)) from (Below.refl _ W).alloc (Nat.le_refl _) _)
  have c0 := (blkB W x y).cell (i := 0) rfl
  have c1 := (blkB W x y).cell (i := 1) rfl
  unfold rightB
  by_cases h0 : x = 0
  · subst h0
    go_enter Try.func71, Try.ntmps71
    go_wp2_with fail
    go_ret
    exact ⟨by simp, HB.out⟩
  · by_cases h1 : 0 ≤ y
    · by_cases h2 : y ≤ 2199023255552
      · go_enter Try.func71, Try.ntmps71
        go_wp2_with fail
        go_ret
        exact ⟨by simp [h0, h1, h2], HB.out⟩
      · go_enter Try.func71, Try.ntmps71
        go_wp2_with fail
        go_ret
        exact ⟨by simp [h0, h1, h2], HB.out⟩
    · go_enter Try.func71, Try.ntmps71
      go_wp2_with fail
      go_ret
      exact ⟨by simp [h0, h1]; omega, HB.out⟩
set_option maxRecDepth 100000 in
set_option maxHeartbeats 4000000 in
theorem one_any (W : World) (p : Nat) (es : List En) (x y items : Int) (h : SR W p es) (hx : U x) (hi : U items) :
    Calls Try.prog 32 #[.agg #[.int .u64 x, .int .i64 y], .pointer (some ⟨p, 0, none⟩), .int .u64 items] W fun e w' => e = .returned (.int .i64 (oneN (x, y) es items)) ∧ Below W.heap.size W w' := by
  have hal : Below W.heap.size W (W.alloc (.cells #[.int .u64 x, .int .i64 y] tB)) := (Below.refl _ W).alloc (Nat.le_refl _) _
  have hb := blkB W x y
  have c0 := hb.cell (i := 0) rfl
  have c1 := hb.cell (i := 1) rfl
  obtain ⟨r, hr⟩ : ∃ r, rightB (x, y) = r := ⟨_, rfl⟩
  obtain ⟨wv, hw⟩ : ∃ wv, wi x items = wv := ⟨_, rfl⟩
  obtain ⟨a, ha⟩ : ∃ a, askL es x = a := ⟨_, rfl⟩
  have e1 : oneN (x, y) es items = if r = false ∨ wv = false then 1 else if a < y then 50 else 0 := by unfold oneN; rw [hr, hw, ha]
  rw [e1]
  have RI := right_any (W.alloc (.cells #[.int .u64 x, .int .i64 y] tB)) x y
  rw [hr] at RI
  have WI := fun (w : World) => within_any w x items hx hi
  rw [hw] at WI
  have AK := fun (w : World) (hw : SR w p es) => ask_c w p es x a hw hx ha
  have HRI := Lib.hid RI; have HWI := Lib.hid WI
  have HAK := Lib.hid AK; have HS := Lib.hid (h.below hal); have HB := Lib.hid hal; have HBL := Lib.hid hb
  clear h hal hb AK ha hr hw RI WI e1
  go_enter Try.func32, Try.ntmps32
  go_wp2_with fail
  refine HRI.out.mono ?_; rintro e w1 ⟨rfl, hb1⟩
  have HB1 := Lib.hid (HB.out.trans (hb1.mono HB.out.size)); have HS1 := Lib.hid (HS.out.below hb1); have HBL1 := Lib.hid (HBL.out.belowS hb1)
  have d0 := HBL1.out.cell (i := 0) rfl
  have d1 := HBL1.out.cell (i := 1) rfl
  clear hb1 c0 c1
  cases r with
  | false =>
    go_wp2_with fail
    go_ret
    exact ⟨by simp, HB1.out⟩
  | true =>
    go_wp2_with fail
    refine (HWI.out _).mono ?_; rintro e w2 ⟨rfl, rfl⟩
    cases wv with
    | false =>
      go_wp2_with fail
      go_ret
      exact ⟨by simp, HB1.out⟩
    | true =>
      go_wp2_with fail
      go_region_held3 (fun w' => w'.cell? ⟨W.heap.size, 0, none⟩ = some (.int .u64 x) ∧ w'.cell? ⟨W.heap.size, 1, none⟩ = some (.int .i64 y)) (go_keep) ((refine (HAK.out _ (HS1.out.below ((Below.refl _ _).drew))).mono ?_; rintro e w2 ⟨rfl, hb2⟩; have q0 := ((HBL1.out.drew).belowS hb2).cell (i := 0) rfl; have q1 := ((HBL1.out.drew).belowS hb2).cell (i := 1) rfl))
      all_goals
        have HB2 := Lib.hid (HB1.out.trans ((Below.drew (Below.refl _ _)).trans (hb2.mono (Nat.le_refl _)) |>.mono HB1.out.size))
        clear q0 q1 hb2
        by_cases hay : a < y
        · go_wp2_with fail
          go_ret
          exact ⟨by simp [hay], HB2.out⟩
        · go_wp2_with fail
          go_ret
          exact ⟨by simp [hay], HB2.out⟩
end Go.Proofs.Ytnlhgnioedalpaa.Pri

/- check: Kept, All. -/
set_option linter.unusedSimpArgs false
set_option linter.unusedVariables false
namespace Go.Proofs.Ytnlhgnioedalpaa.Pri
open Go.RowKit Go.Proofs.YtnlhgnioedalpaaW.PrintWords Go.Proofs.Ytnlhgnioedalpaa.PPricePlays Go.Maps
attribute [local go_sem] Oper.semAt_some

/-- the sets that were seen, in a map -/
def SM (W : World) (b n : Nat) (l : List Int) : Prop := ∃ D : DataW Unit, W.ownsMap Try.prog 32 (plainElem Try.prog 4) b n D ∧ ∀ s, U s → D.atKey (.int .u64 s) (.lit (.bool false)) = .lit (.bool (l.contains s))
theorem law32 : Keyed Try.prog 32 := int_keyed Try.underlying32
theorem zero4 (w : World) : (zeroValue 4).run Try.prog w = .ok (.bool false) w := by kernel_rfl
theorem u_wf {s : Int} (h : U s) : (Lit.int .u64 s).wf = true := by
  show (decide (IntKind.u64.min ≤ s) && decide (s ≤ IntKind.u64.max)) = true
  have h1 : IntKind.u64.min = 0 := by decide
  have h2 : IntKind.u64.max = 18446744073709551615 := by decide
  rw [h1, h2, decide_eq_true h.1, decide_eq_true (by have := h.2; omega)]
  rfl
theorem plain_bool_inv {P : Program} {e : TypeId} (he : P.underlying e = some .bool) {v : Value} {z : DataW Unit × List MemPlace} (h : plainElem P e v = some z) : ∃ x, v = .bool x ∧ z = (.lit (.bool x), []) := by
  unfold plainElem at h
  rw [he] at h
  cases v <;> simp at h
  exact ⟨_, rfl, h.symm⟩
theorem look_bool {P : Program} {t k e : TypeId} {w : World} {b n : Nat} {D : DataW Unit} (h : w.ownsMap P k (plainElem P e) b n D) (K : Keyed P k) (ht : P.underlying t = some (.map k e)) (he : P.underlying e = some .bool) (hz : (zeroValue e).run P w = .ok (.bool false) w)
    {key : Value} {kl : Lit} (hkey : keyOf P k key = some kl) : ∃ x, (Instr.lookup t (.map (some b)) key false).run P w = .ok (.bool x) w ∧ D.atKey kl (.lit (.bool false)) = .lit (.bool x) := by
  obtain ⟨v, ps, hrun, hv⟩ := h.lookup K ht hz (plainElem_bool he false) hkey
  obtain ⟨x, rfl, hx⟩ := plain_bool_inv he hv
  injection hx with hx _
  exact ⟨x, hrun, hx⟩
set_option maxRecDepth 100000 in
theorem SM.look {W : World} {b n : Nat} {l : List Int} (h : SM W b n l) {s : Int} (hs : U s) : (Instr.lookup 116 (.map (some b)) (.int .u64 s) false).run Try.prog W = .ok (.bool (l.contains s)) W := by
  obtain ⟨D, ho, hD⟩ := h
  obtain ⟨x, hrun, hx⟩ := look_bool ho law32 Try.underlying116 Try.underlying4 (zero4 W) (keyOf_int_mk Try.underlying32 (u_wf hs))
  have h2 := (hD s hs).symm.trans hx
  injection h2 with h2
  injection h2 with h2
  subst h2
  exact hrun
theorem isKey_int (q : IntKind) (s : Int) : WideAt.IsKeyLit (.int q s) := trivial
theorem SM.put {D : DataW Unit} {l : List Int} (hI : IsMap D) (hD : ∀ s, U s → D.atKey (.int .u64 s) (.lit (.bool false)) = .lit (.bool (l.contains s))) (x : Int) : ∀ s, U s → (D.put (.int .u64 x) (.lit (.bool true))).atKey (.int .u64 s) (.lit (.bool false)) = .lit (.bool ((x :: l).contains s)) := fun s hs => by
  by_cases hx : s = x
  · subst hx
    rw [atKey_put_same hI (isKey_int _ _)]
    simp
  · rw [atKey_put_other (fun e => hx (by injection e)), hD s hs]
    simp [hx]
theorem SM.kept {W W' : World} {b n : Nat} {l : List Int} {row : Option Nat} (h : SM W b n l) (hg : W.grownBy W' row) (hne : some b ≠ row) : SM W' b n l := by
  obtain ⟨D, ho, hD⟩ := h
  exact ⟨D, ho.kept hg hne, hD⟩
theorem SM.made (W : World) : SM (W.alloc (.map #[] 0)) W.heap.size 0 [] := ⟨_, World.ownsMap_made W _ _ _, fun s hs => rfl⟩
set_option maxRecDepth 100000 in
set_option maxHeartbeats 4000000 in
theorem all_any (W : World) (v : Value) (bs : List En) (hv : PE W v bs) (hU : UE bs) (p : Nat) (es : List En) (h : SR W p es) (items : Int) (hi : U items) :
    Calls Try.prog 35 #[v, .pointer (some ⟨p, 0, none⟩), .int .u64 items] W fun e w' => e = .returned (.int .i64 (allN bs es items)) ∧ Below W.heap.size W w' := by
  have HV := Lib.hid hv; have HS := Lib.hid h
  obtain ⟨A, c, rfl, -⟩ := hv
  clear h
  unfold allN
  by_cases hlong : 64 < bs.length
  · have g1 : (64 : Int) < (bs.length : Int) := by omega
    go_enter Try.func35, Try.ntmps35
    go_wp2_with fail
    go_ret
    exact ⟨rfl, Below.refl _ W⟩
  · have g1 : ¬ (64 : Int) < (bs.length : Int) := by omega
    rw [if_neg hlong]
    obtain ⟨R, hR⟩ : ∃ R, allR es items [] bs = R := ⟨_, rfl⟩
    have HR := Lib.hid (show allR es items [] (bs.drop 0) = R from by rw [List.drop_zero]; exact hR)
    rw [hR]
    have HM := Lib.hid (SM.made W); have HB := Lib.hid (show Below W.heap.size W (W.alloc (.map #[] 0)) from (Below.refl _ W).alloc (Nat.le_refl _) _)
    obtain ⟨B, hBn⟩ : ∃ B, W.heap.size = B := ⟨_, rfl⟩
    have HBn := Lib.hid hBn
    rw [hBn] at HM
    have hmm := @run_makeMap Try.prog
    clear hR hBn
    go_enter Try.func35, Try.ntmps35
    go_wp2_with fail
    rw [HBn.out]
    go_loopw [17] (fun i wr => ∃ k : Nat, ∃ l : List Int, k ≤ bs.length ∧ i = .int .i64 (k : Int) ∧ SM wr B k l ∧ Below W.heap.size W wr ∧ allR es items l (bs.drop k) = R) (fun i _ => bs.length - (intOf i).toNat)
    case atStart => exact ⟨0, [], Nat.zero_le _, rfl, HM.out, HB.out, HR.out⟩
    case round =>
      clear HM HB HR hmm
      obtain ⟨k, l, hk, rfl, hM, hB, hR⟩ := hrel
      by_cases hlt : k < bs.length
      · obtain ⟨⟨x, y⟩, hx⟩ : ∃ x, bs[k] = x := ⟨_, rfl⟩
        have hx2 : bs[k]? = some (x, y) := by rw [List.getElem?_eq_getElem hlt, hx]
        have hux : U x := hU _ (List.mem_of_getElem? hx2)
        obtain ⟨b3, off3, c4, e1, hlb, r0, r1⟩ := (HV.out.below hB).at hx2
        obtain ⟨rfl, rfl⟩ : A = some ⟨b3, off3, none⟩ ∧ c = c4 := by injection e1 with e1 e2 e3; exact ⟨e1, e3⟩
        simp only at r0 r1
        have hal : Below wr.heap.size wr (wr.alloc (.cells #[.int .u64 x, .int .i64 y] tB)) := (Below.refl _ wr).alloc (Nat.le_refl _) _
        have hdr : bs.drop k = (x, y) :: bs.drop (k + 1) := by rw [← hx]; exact (List.getElem_cons_drop ..).symm
        rw [hdr] at hR
        simp only [allR] at hR
        have ON := one_any _ p es x y items ((HS.out.below hB).below hal) hux hi
        obtain ⟨o, ho⟩ : ∃ o, oneN (x, y) es items = o := ⟨_, rfl⟩
        rw [ho] at ON hR
        have hM1 := hM.kept (gb_none hal) (by simp)
        have HON := Lib.hid ON; have HR := Lib.hid hR; have HB1 := Lib.hid (hB.trans (hal.mono hB.size)); have HM1 := Lib.hid hM1; have HBL := Lib.hid (blkB wr x y)
        have hMl : B < (wr.alloc (.cells #[.int .u64 x, .int .i64 y] tB)).heap.size := by obtain ⟨D, hD, _⟩ := hM1; exact hD.lt
        have HML := Lib.hid hMl
        clear hx hx2 e1 hal hdr hR ON ho hM hB hM1 hMl
        go_wp2_with fail
        refine HON.out.mono ?_; rintro e w1 ⟨rfl, hb1⟩
        have HB2 := Lib.hid (HB1.out.trans (hb1.mono HB1.out.size)); have hM2 := HM1.out.kept (gb_none hb1) (by simp)
        have c0 := (HBL.out.belowS hb1).cell (i := 0) rfl
        have c1 := (HBL.out.belowS hb1).cell (i := 1) rfl
        by_cases ho : o = 0
        · subst ho
          have hlk := hM2.look hux
          have HR2 := Lib.hid (show (if l.contains x = true then 5 else allR es items (x :: l) (bs.drop (k + 1))) = R from by have := HR.out; rwa [if_neg (by simp)] at this)
          obtain ⟨q, hq⟩ : ∃ q, l.contains x = q := ⟨_, rfl⟩
          rw [hq] at hlk HR2
          obtain ⟨D, hown, hD⟩ := hM2
          have HOWN := Lib.hid hown; have HD := Lib.hid hD; have HZ := Lib.hid hb1.size
          clear hb1 hown hD hq
          cases q with
          | true =>
            have HR3 := Lib.hid (show (5 : Int) = R from by have := HR2.out; rwa [if_pos rfl] at this)
            go_wp2_with fail
            go_ret
            exact ⟨by have := HR3.out; subst this; rfl, HB2.out⟩
          | false =>
            have HR3 := Lib.hid (show allR es items (x :: l) (bs.drop (k + 1)) = R from by have := HR2.out; rwa [if_neg (by simp)] at this)
            go_wp2_with (first | (at_mapUpdate; refine wpList_mapUpdate_own _ rfl _ _ _ 116 rfl 32 4 law32 Try.underlying116 _ B k _ rfl HOWN.out (by unfold maxLen; omega) _ _ _ rfl rfl (keyOf_int_mk Try.underlying32 (u_wf hux)) _ [] (plainElem_bool Try.underlying4 true) ?_; intro w2 hown2 hgrow2) | fail)
            have HN := Lib.hid (show SM w2 B (k + 1) (x :: l) ∧ Below W.heap.size W w2 from ⟨⟨_, hown2, SM.put HOWN.out.isMap HD.out x⟩, HB2.out.grown hgrow2 HB2.out.size (fun r e => by cases e; exact Nat.le_of_eq HBn.out)⟩)
            clear hown2 hgrow2
            go_wp2_with fail
            go_roundw
            case rel => exact ⟨k + 1, x :: l, by omega, by simp, HN.out.1, HN.out.2, HR3.out⟩
            case measure => simp [intOf]; omega
        · have HR2 := Lib.hid (show o = R from by have := HR.out; rwa [if_pos (by simpa using ho)] at this)
          clear hM2 hb1
          go_wp2_with fail
          go_ret
          exact ⟨by have := HR2.out; subst this; rfl, HB2.out⟩
      · obtain rfl : k = bs.length := by omega
        rw [List.drop_length] at hR
        have HR := Lib.hid (show (0 : Int) = R from hR)
        clear hR hM
        go_wp2_with fail
        go_ret
        exact ⟨by have := HR.out; subst this; rfl, hB⟩
end Go.Proofs.Ytnlhgnioedalpaa.Pri
