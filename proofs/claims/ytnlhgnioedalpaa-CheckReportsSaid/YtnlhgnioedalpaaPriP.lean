/- price: Put. -/
import Derived.Test.YtnlhgnioedalpaaPriI
import Derived.Deep.RegionHeld3
set_option linter.unusedSimpArgs false
set_option linter.unusedVariables false
namespace Go.Proofs.Ytnlhgnioedalpaa.Pri
open Go.RowKit Go.Proofs.YtnlhgnioedalpaaW.PrintWords Go.Proofs.Ytnlhgnioedalpaa.PPricePlays
attribute [local go_sem] Oper.semAt_some

theorem ins_pos {s a : Int} : ∀ {es : List En} {k : Nat}, Pos es s k → insL es s a = es.take k ++ (s, a) :: es.drop k
  | [], k, h => by simp [insL]
  | e :: r, 0, h => by
    have h0 : ltS e.1 s = false := h.hi 0 (Nat.le_refl _) (by simp)
    simp only [insL]
    rw [if_neg (by rw [h0]; decide)]
    rfl
  | e :: r, k + 1, h => by
    have h0 : ltS e.1 s = true := h.lo 0 (by omega)
    have ih := ins_pos (es := r) (k := k) (a := a) ⟨by have := h.le; simp at this; omega, fun m hm => h.lo (m + 1) (by omega), fun m h1 h2 => h.hi (m + 1) (by omega) (by simp; omega)⟩
    simp only [insL]
    rw [if_pos h0, ih]
    rfl
theorem below_gb {A B : World} {p : Nat} (h : Below A.heap.size A B) : A.grownBy B (some p) := ⟨h.os, h.tape, h.output, h.size, fun k hk _ => h.block k hk⟩
theorem gb_trans {A B C : World} {p : Nat} (h : A.grownBy B (some p)) (k : B.grownBy C (some p)) : A.grownBy C (some p) :=
  ⟨k.os.trans h.os, k.tape.trans h.tape, k.output.trans h.output, Nat.le_trans h.size k.size, fun j hj hne => (k.block j (Nat.lt_of_lt_of_le hj h.size) hne).trans (h.block j hj hne)⟩
theorem UE.del {es : List En} (h : UE es) (s a : Int) : UE (delL es s a) := fun e he => h e (del_mem.1 he).1
theorem sd_del {es : List En} (h : es.Pairwise (fun a b => ltS a.1 b.1 = true)) (s a : Int) : (delL es s a).Pairwise (fun a b => ltS a.1 b.1 = true) := h.filter _
theorem own_sl {w : World} {base n size : Nat} {e : TypeId} {v : Value} {xs : List Value} (h : w.ownsRow base e size v n xs) : ∃ A c, v = .slice A n c := by
  rcases h.2 with ⟨rfl, hz⟩ | ⟨g, cap, cur, rfl, _⟩
  · exact ⟨none, 0, by rw [hz]⟩
  · exact ⟨_, cap, rfl⟩
/-- what holds of a store that puts have made -/
structure SR (W : World) (p : Nat) (es : List En) : Prop where
  pr : PR W p es
  ue : UE es
  ti : Tight es
  len : es.length ≤ 100000000
theorem SR.below {W W' : World} {p : Nat} {es : List En} (h : SR W p es) (hb : Below W.heap.size W W') : SR W' p es := ⟨h.pr.below hb, h.ue, h.ti, h.len⟩
/-- the slice of a store behind a step is new, or the one it was -/
def NF (W W' : World) (p : Nat) : Prop := ∀ v, Blk W' p tS [v] → (∀ k, v.ownBlock = some k → W.heap.size ≤ k ∧ k < W'.heap.size) ∨ Blk W p tS [v]
theorem NF.below {W W' : World} {p : Nat} (hp : p < W.heap.size) (h : Below W.heap.size W W') : NF W W' p := fun v hv => .inr ((h.block p hp).symm.trans hv)
theorem NF.fresh {W W' : World} {p : Nat} {u : Value} (hb : Blk W' p tS [u]) (h : ∀ k, u.ownBlock = some k → W.heap.size ≤ k ∧ k < W'.heap.size) : NF W W' p := fun v hv => by
  unfold Blk at hb hv
  rw [hb] at hv
  have : u = v := by simpa using hv
  subst this
  exact .inl h
theorem NF.trans {A B C : World} {p : Nat} (h : NF A B p) (k : NF B C p) (hs : A.heap.size ≤ B.heap.size) (hs2 : B.heap.size ≤ C.heap.size) : NF A C p := fun v hv => by
  rcases k v hv with k1 | k1
  · exact .inl (fun j hj => ⟨Nat.le_trans hs (k1 j hj).1, (k1 j hj).2⟩)
  · rcases h v k1 with h1 | h1
    · exact .inl (fun j hj => ⟨(h1 j hj).1, Nat.lt_of_lt_of_le (h1 j hj).2 hs2⟩)
    · exact .inr h1
set_option maxRecDepth 100000 in
set_option maxHeartbeats 8000000 in
theorem put_anyF (W : World) (p : Nat) (es : List En) (s a : Int) (h : PR W p es) (hU : UE es) (hT : Tight es) (hs : U s) (hl : es.length ≤ 100000000) :
    Calls Try.prog 25 #[.pointer (some ⟨p, 0, none⟩), .int .u64 s, .int .i64 a] W fun e w' => e = .returned (.bool (okP es s a)) ∧ PR w' p (putP es s a) ∧ W.grownBy w' (some p) ∧ NF W w' p := by
  have hpl := h.lt
  obtain ⟨w1, hw1⟩ : ∃ w1, (W.alloc (.cells #[.int .u64 s] 32)).alloc (.cells #[.int .i64 a] 2) = w1 := ⟨_, rfl⟩
  have b1 : Blk w1 W.heap.size 32 [.int .u64 s] := by rw [← hw1]; exact (Blk.new W _ _).alloc _
  have b2 : Blk w1 (W.heap.size + 1) 2 [.int .i64 a] := by rw [← hw1]; exact Blk.new2 W _ _ _
  have hal : Below W.heap.size W w1 := by rw [← hw1]; exact ((Below.refl _ W).alloc (Nat.le_refl _) _).alloc (by simp) _
  have hz1 : w1.heap.size = W.heap.size + 2 := by rw [← hw1]; simp
  have hP1 := h.below hal
  have HW1 := Lib.hid hw1; have HP1 := Lib.hid hP1; have HAL := Lib.hid hal
  have c1 := b1.cell (i := 0) rfl
  have c2 := b2.cell (i := 0) rfl
  have HB1 := Lib.hid b1; have HB2 := Lib.hid b2
  clear hw1 hP1 hal b1 b2 h
  have HD := Lib.hid (show Below W.heap.size W w1.drew from HAL.out.drew)
  have HPD := Lib.hid (HP1.out.below ((Below.refl w1.heap.size w1).drew))
  by_cases h0 : s = 0
  · subst h0
    have hok : okP es 0 a = false := by unfold okP; simp
    have hpp : putP es 0 a = es := by unfold putP; rw [hok]; rfl
    rw [hok, hpp]
    go_enter Try.func25, Try.ntmps25
    go_wp2_with fail
    rw [HW1.out]
    go_region
    all_goals
      go_wp2_with fail
      go_ret
      exact ⟨rfl, HPD.out, below_gb HD.out, NF.below hpl HD.out⟩
  · have hs0 : (s == 0) = false := by simp [h0]
    by_cases hm : 2199023255552 < a
    · have hok : okP es s a = false := by unfold okP most; simp; omega
      have hpp : putP es s a = es := by unfold putP; rw [hok]; rfl
      rw [hok, hpp]
      go_enter Try.func25, Try.ntmps25
      go_wp2_with fail
      rw [HW1.out]
      go_region
      all_goals
        go_wp2_with fail
        go_ret
        exact ⟨rfl, HPD.out, below_gb HD.out, NF.below hpl HD.out⟩
    · have AK := Lib.hid (ask_any w1.drew p es s HPD.out hU hs (by omega))
      obtain ⟨m, hmm⟩ : ∃ m, askL es s = m := ⟨_, rfl⟩
      rw [hmm] at AK
      by_cases hle : a ≤ m
      · have hok : okP es s a = false := by unfold okP; rw [hmm]; simp; omega
        have hpp : putP es s a = es := by unfold putP; rw [hok]; rfl
        rw [hok, hpp]
        have hm2 : a ≤ 2199023255552 := by omega
        have hm3 : decide (2199023255552 < a) = false := by simp; omega
        clear hok hpp hmm hm
        go_enter Try.func25, Try.ntmps25
        go_wp2_with fail
        rw [HW1.out]
        go_region_held3 (fun w' => w'.cell? ⟨W.heap.size, 0, none⟩ = some (.int .u64 s) ∧ w'.cell? ⟨W.heap.size + 1, 0, none⟩ = some (.int .i64 a)) (go_keep) ((refine AK.out.mono ?_; rintro e w2 ⟨rfl, hb2⟩; obtain ⟨hc2, hf2⟩ := bcell hb2))
        go_wp2_with fail
        go_ret
        exact ⟨rfl, HPD.out.below hb2, below_gb (HD.out.trans (hb2.mono HD.out.size)), NF.below hpl (HD.out.trans (hb2.mono HD.out.size))⟩
      · have hlt : askL es s < a := by rw [hmm]; omega
        have hok : okP es s a = true := ok_iff.2 ⟨h0, by unfold most; omega, hlt⟩
        have hpp : putP es s a = insL (delL es s a) s a := by unfold putP; rw [hok]; rfl
        rw [hok]
        have hm2 : a ≤ 2199023255552 := by omega
        have hm3 : decide (2199023255552 < a) = false := by simp; omega
        have hle2 : decide (a ≤ m) = false := by simp; omega
        have HPP := Lib.hid hpp
        rw [hpp]
        clear hok hpp hmm hm hlt
        go_enter Try.func25, Try.ntmps25
        go_wp2_with fail
        rw [HW1.out]
        go_region_held3 (fun w' => w'.cell? ⟨W.heap.size, 0, none⟩ = some (.int .u64 s) ∧ w'.cell? ⟨W.heap.size + 1, 0, none⟩ = some (.int .i64 a)) (go_keep) ((refine AK.out.mono ?_; rintro e w2 ⟨rfl, hb2⟩; obtain ⟨hc2, hf2⟩ := bcell hb2))
        have hBw2 := HD.out.trans (hb2.mono HD.out.size)
        have hP2 := HPD.out.below hb2
        have hd1 := (HB1.out.belowS ((Below.refl _ w1).drew)).belowS hb2
        have hd2 := (HB2.out.belowS ((Below.refl _ w1).drew)).belowS hb2
        obtain ⟨v, hbv, hpe⟩ := hP2
        have cp := hbv.cell (i := 0) rfl
        have hl1 := hd2.lt
        obtain ⟨B, hB⟩ : ∃ B, w2.heap.size = B := ⟨_, rfl⟩
        have HBV := Lib.hid hbv; have HD1 := Lib.hid hd1; have HD2 := Lib.hid hd2; have HBW2 := Lib.hid hBw2; have HPE := Lib.hid hpe; have HBB := Lib.hid hB
        clear hc2 hf2 hb2 hBw2 hd1 hd2 hbv hpe AK c1 c2
        go_wp2_with fail
        refine (clone_any w2 v es HPE.out (by omega)).mono ?_; rintro e w3 ⟨v1, rfl, ho1, hb3⟩
        rw [HBB.out] at ho1 hb3
        have HO1 := Lib.hid ho1; have HB3 := Lib.hid hb3
        have hs3 := hb3.size
        clear ho1 hb3 cp
        go_wp2_with fail
        refine (del_any w3 B v1 es HO1.out (by omega) hU (by omega) W.heap.size (W.heap.size + 1) s a hs (HD1.out.below HB3.out (by omega)) (HD2.out.below HB3.out (by omega)) (by omega) (by omega)).mono ?_; rintro e w4 ⟨v2, rfl, ho2, hb4⟩
        have hb4' := HB3.out.trans hb4
        have hdl : (delL es s a).length ≤ es.length := List.length_filter_le ..
        have e1 := (HD1.out.below hb4' (by omega)).cell (i := 0) rfl
        have hpe2 := pe_own (by omega) ho2
        have HO2 := Lib.hid ho2; have HB4 := Lib.hid hb4'; have HPE2 := Lib.hid hpe2
        have hs4 := hb4.size
        clear ho2 hb4 hb4' hpe2
        go_wp2_with fail
        refine (pos_any w4 v2 (delL es s a) HPE2.out (hU.del s a) (by omega) (sd_del hT.sd s a) s hs).mono ?_; rintro e w5 ⟨k, bb, rfl, hpos, hb5⟩
        have HB5 := Lib.hid (HB4.out.trans (hb5.mono (by omega)))
        have HO5 := Lib.hid (own_below HO2.out hb5)
        have hs5 := hb5.size
        have e2 := (HD1.out.below HB5.out (by omega)).cell (i := 0) rfl
        have e3 := (HD2.out.below HB5.out (by omega)).cell (i := 0) rfl
        have HPOS := Lib.hid hpos
        clear hb5 hpos e1
        go_wp2_with fail
        have hq := Blk.new w5 [.int .u64 s, .int .i64 a] tE
        have hal6 : Below w5.heap.size w5 (w5.alloc (.cells #[.int .u64 s, .int .i64 a] tE)) := (Below.refl _ w5).alloc (Nat.le_refl _) _
        have ho6 := own_below HO5.out hal6
        have hB6 := HB5.out.trans (hal6.mono (by omega))
        have hqv : v2.ownBlock ≠ some w5.heap.size := fun e => by have := (HO5.out.lt _ e).2; omega
        have hs6 := hal6.size
        refine (ins_any _ B v2 (delL es s a) ho6 (by omega) (by omega) k HPOS.out.le w5.heap.size (s, a) hq hqv).mono ?_; rintro e w7 ⟨v3, rfl, ho7, hb7⟩
        rw [← ins_pos HPOS.out] at ho7
        obtain ⟨A3, c3, rfl⟩ := own_sl ho7
        have hB7 := hB6.trans hb7
        have hln : (insL (delL es s a) s a).length = (delL es s a).length + 1 := by
          rw [ins_pos HPOS.out, List.length_append, List.length_cons, List.length_take, List.length_drop]
          have := HPOS.out.le
          omega
        have hb := HBV.out.below hB7 (by omega)
        have cp7 := hb.cell (i := 0) rfl
        have fp7 := hb.frozen 0
        have hW7 := HBW2.out.trans (hB7.mono (by have := HBW2.out.size; omega))
        have hne : (Value.slice A3 ((delL es s a).length + 1) c3).ownBlock ≠ some p := fun e => by have := (ho7.lt _ e).1; omega
        have ho7' := ho7
        have hne' := hne
        rw [← hln] at ho7' hne'
        have HF := Lib.hid (show PR (w7.setCell ⟨p, 0, none⟩ (.slice A3 ((delL es s a).length + 1) c3)) p (insL (delL es s a) s a) ∧ W.grownBy (w7.setCell ⟨p, 0, none⟩ (.slice A3 ((delL es s a).length + 1) c3)) (some p) ∧ NF W (w7.setCell ⟨p, 0, none⟩ (.slice A3 ((delL es s a).length + 1) c3)) p from
          ⟨⟨_, hb.set 0 _, by rw [← hln]; exact pe_own (by omega) (own_setCell ho7' hne' 0 _)⟩, gb_trans (below_gb hW7) (grownBy_setAt w7 p 0 _), NF.fresh (hb.set 0 _) (fun k hk => ⟨by have := (ho7.lt k hk).1; have := HBB.out; have := HBW2.out.size; omega, by have := (ho7.lt k hk).2; simpa [World.setCell] using this⟩)⟩)
        clear hq hal6 ho6 hB6 hqv ho7 hb7 hB7 hb hW7 hne hln e2 e3 ho7' hne'
        go_wp2_with fail
        go_ret
        exact ⟨rfl, HF.out⟩
theorem put_any (W : World) (p : Nat) (es : List En) (s a : Int) (h : PR W p es) (hU : UE es) (hT : Tight es) (hs : U s) (hl : es.length ≤ 100000000) :
    Calls Try.prog 25 #[.pointer (some ⟨p, 0, none⟩), .int .u64 s, .int .i64 a] W fun e w' => e = .returned (.bool (okP es s a)) ∧ PR w' p (putP es s a) ∧ W.grownBy w' (some p) :=
  (put_anyF W p es s a h hU hT hs hl).mono fun e w' ⟨h1, h2, h3, _⟩ => ⟨h1, h2, h3⟩

end Go.Proofs.Ytnlhgnioedalpaa.Pri
