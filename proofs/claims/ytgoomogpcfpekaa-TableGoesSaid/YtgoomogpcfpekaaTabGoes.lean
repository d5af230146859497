/- TableGoes. -/
import Derived.Test.YtgoomogpcfpekaaTabPw
import Derived.Deep.RegionHeld3
set_option linter.unusedSimpArgs false
set_option linter.unusedVariables false
namespace Go.Proofs.Ytgoomogpcfpekaa.TabR
open Go.RowKit Go.Proofs.Ytgoomogpcfpekaa.TabL Go.Proofs.YtgoomogpcfpekaaW.PrintWords Go.Proofs.Ytgoomogpcfpekaa.PTablePlays
open Go.Proofs.Ytgoomogpcfpekaa.TabN (ltI belowL getV putL_len lin TMx T Tr cP d0 ek ev Gives2 Out)
attribute [local go_sem] Oper.semAt_some

theorem PS.lt {W : World} {v : Value} {l : List (Int × Int)} (h : PS W v l) (h0 : 0 < l.length) : ∃ k, v.ownBlock = some k ∧ k < W.heap.size := by
  obtain ⟨q, hq⟩ : ∃ q, l[0]? = some q := ⟨_, List.getElem?_eq_getElem h0⟩
  obtain ⟨b, off, c, rfl, h1, _⟩ := h.at hq
  exact ⟨b, rfl, (cell_spot h1).2⟩
theorem PS.belowN {W W' : World} {v : Value} {l : List (Int × Int)} {n0 : Nat} (h : PS W v l) (hn : 0 < l.length → ∃ k, v.ownBlock = some k ∧ k < n0) (hb : Below n0 W W') : PS W' v l := by
  obtain ⟨A, c, rfl, h1, h2⟩ := h
  refine ⟨A, c, rfl, h1, h2.1, h2.2.1, fun hpos => ?_⟩
  obtain ⟨a, rfl, hr⟩ := h2.2.2 hpos
  obtain ⟨k, hk, hlt⟩ := hn hpos
  have hak : a.block = k := by simpa [Value.ownBlock] using hk
  refine ⟨a, rfl, fun j x hx => ?_⟩
  obtain ⟨cs, hl, hk, hc⟩ := hr j x hx
  obtain rfl := k41_open hk
  refine ⟨_, rfl, k41_mk W' x, fun i u hu => ?_⟩
  have h3 := hc i u hu
  have hbl : (a.add (j * k41.sz + i)).block = a.block := by unfold Addr.add; split <;> rfl
  rw [← h3]
  exact hb.cell (by rw [hbl, hak]; exact hlt)
theorem ps_own_keep {b : Nat} (v : Value) (l : List (Int × Int)) : OwnFrom b (fun (_ : Unit) W => PS W v l) := fun s A B row h hg hr => by
  obtain ⟨a, c, rfl, h1, h2⟩ := h
  refine ⟨a, c, rfl, h1, h2.1, h2.2.1, fun hpos => ?_⟩
  obtain ⟨a, rfl, hq⟩ := h2.2.2 hpos
  refine ⟨a, rfl, fun j x hx => ?_⟩
  obtain ⟨cs, hl, hk, hc⟩ := hq j x hx
  obtain rfl := k41_open hk
  refine ⟨_, rfl, k41_mk B x, fun i u hu => ?_⟩
  have h3 := hc i u hu
  rw [← h3]
  refine World.cell?_of_block (hg.block _ (World.block_lt_of_cell? _ _ h3) (fun e => ?_))
  obtain ⟨_, o, ho, hno⟩ := hr _ e.symm
  unfold World.cell? at h3
  rw [ho] at h3
  cases o <;> simp [Obj.isCells] at hno h3
theorem cell_own {b : Nat} (a : Addr) (v : Value) : OwnFrom b (fun (_ : Unit) W => W.cell? a = some v) := fun s A B row h3' hg hr => by
  have h3 : A.cell? a = some v := h3'
  show B.cell? a = some v
  rw [← h3]
  refine World.cell?_of_block (hg.block _ (World.block_lt_of_cell? _ _ h3) (fun e => ?_))
  obtain ⟨_, o, ho, hno⟩ := hr _ e.symm
  unfold World.cell? at h3
  rw [ho] at h3
  cases o <;> simp [Obj.isCells] at hno h3
theorem kt_own {b : Nat} {t : TypeId} (w0 : World) : OwnFrom b (fun (_ : Unit) W => KT t w0 W) := fun s A B row h hg hr =>
  h.trans (KT.grown hg (fun r e => by
    obtain ⟨_, o, ho, hno⟩ := hr r e
    refine ⟨o, ho, fun cs fr e2 => ?_⟩
    subst e2
    simp [Obj.isCells] at hno))
theorem app_kt {W w1 : World} {n0 Bo k size : Nat} {t tB e : TypeId} {v v' : Value} {xs : List Value} {tmp : Obj} (hv1 : Boxed w1 Bo tB v) (hrow : W.ownsRow n0 e size v k xs) (hgrow : (W.alloc tmp).grownBy w1 v.ownBlock) (ht : e ≠ t) (htB : tB ≠ t) : KT t W (w1.setCell ⟨Bo, 0, none⟩ v') := by
  refine ((KT.alloc W tmp).trans (KT.grown hgrow (fun r hr => ?_))).trans (KT.setOther (show Blk w1 Bo tB [v] from hv1) htB)
  obtain ⟨_, cs, fr, hc⟩ := own_typ hrow r hr
  exact ⟨_, (Below.heap_alloc W tmp r (Array.getElem?_eq_some_iff.1 hc).1).trans hc, fun cs' fr' e2 => by injection e2 with _ e3 _; exact ht e3⟩

/-- the memory between two rounds, but for the row that is made -/
structure AS (W w0 : World) (p g5 g6 : Nat) (vz : Value) (zs ys : List (Int × Int)) (W' : World) : Prop where
  kt : KT 84 w0 W'
  b4 : ∃ v, Blk W' W.heap.size 4 [v]
  b5 : Blk W' g5 24 [.pointer (some ⟨p, 0, none⟩)]
  b6 : Blk W' g6 25 [vz]
  ps : PS W' vz zs
  t : TMx W' p ys
  b : Below W.heap.size W W'
theorem AS.app {W w0 : World} {p g5 g6 : Nat} {vz : Value} {zs ys : List (Int × Int)} {A B : World} {n0 : Nat} (h : AS W w0 p g5 g6 vz zs ys A) (hb : Below n0 A B) (k1 : KT 84 A B) (k2 : KT 73 A B)
    (hW : W.heap.size < n0) (h5 : g5 < n0) (h6 : g6 < n0) (hz : 0 < zs.length → ∃ k, vz.ownBlock = some k ∧ k < n0) : AS W w0 p g5 g6 vz zs ys B :=
  ⟨h.kt.trans k1, (by obtain ⟨v, hv⟩ := h.b4; exact ⟨v, hv.below hb hW⟩), h.b5.below hb h5, h.b6.below hb h6, h.ps.belowN hz hb, h.t.kept k1 k2, h.b.trans (hb.mono (Nat.le_of_lt hW))⟩
theorem AS.turn {W w0 : World} {p g5 g6 : Nat} {vz : Value} {zs ys ys' : List (Int × Int)} {A B : World} (h : AS W w0 p g5 g6 vz zs ys A) (hT : TMx B p ys') (hg : A.grownBy B (some p)) (hW : W.heap.size < p) (h5 : p ≠ g5) (h6 : p ≠ g6) : AS W w0 p g5 g6 vz zs ys' B := by
  obtain ⟨r, T, hb, h1, h2⟩ := h.t
  exact ⟨h.kt.trans (KT.grownP hg hb (by decide)), (by obtain ⟨v, hv⟩ := h.b4; exact ⟨v, hv.kept hg (by simp; omega)⟩), h.b5.kept hg (by simp; omega), h.b6.kept hg (by simp; omega), h.ps.table ⟨r, T, hb, h1, h2⟩ hg, hT, h.b.grown hg h.b.size (fun r e => by cases e; omega)⟩
theorem AS.own (W w0 : World) (p g5 g6 : Nat) (vz : Value) (zs ys : List (Int × Int)) {b : Nat} (hb : W.heap.size ≤ b) : OwnFrom b (fun (_ : Unit) W' => AS W w0 p g5 g6 vz zs ys W') := fun s A B row h hg hr => by
  have q : ∀ {c : Nat} {t : TypeId} {l : List Value}, Blk A c t l → Blk B c t l := fun hc => Own.from (blk_own _ _ (fun _ : Unit => _)) b () A B row hc hg hr
  exact ⟨kt_own w0 () A B row h.kt hg hr, (by obtain ⟨v, hv⟩ := h.b4; exact ⟨v, q hv⟩), q h.b5, q h.b6, ps_own_keep _ _ () A B row h.ps hg hr, Own.from (TabN.own_tm _ _) b () A B row h.t hg hr, ownFrom_below (Nat.le_refl _) hb () A B row h.b hg hr⟩
theorem AS.drewN {W w0 : World} {p g5 g6 : Nat} {vz : Value} {zs ys : List (Int × Int)} {A : World} (h : AS W w0 p g5 g6 vz zs ys A) (n : Nat) : AS W w0 p g5 g6 vz zs ys (A.drewN n) :=
  have hb : Below A.heap.size A (A.drewN n) := ⟨rfl, rfl, rfl, Nat.le_refl _, fun _ _ => rfl⟩
  ⟨h.kt.trans (TabN.kt_drewN A n), h.b4, h.b5, h.b6, h.ps.below hb, h.t.below hb, h.b.trans (hb.mono h.b.size)⟩
theorem AS.below {W w0 : World} {p g5 g6 : Nat} {vz : Value} {zs ys : List (Int × Int)} {A B : World} (h : AS W w0 p g5 g6 vz zs ys A) (hb : Below A.heap.size A B) : AS W w0 p g5 g6 vz zs ys B :=
  ⟨h.kt.trans (KT.below hb), (by obtain ⟨v, hv⟩ := h.b4; exact ⟨v, hv.belowS hb⟩), h.b5.belowS hb, h.b6.belowS hb, h.ps.below hb, h.t.below hb, h.b.trans (hb.mono h.b.size)⟩
theorem out_turn {A B : World} {n0 Bo p : Nat} {xs ys : List (Int × Int)} (h : Out A n0 Bo xs) (hT : TMx A p ys) (hg : A.grownBy B (some p)) (hne : Bo ≠ p) : Out B n0 Bo xs := by
  obtain ⟨v, hv, ho⟩ := h
  obtain ⟨r, T, hb, _, _⟩ := hT
  refine ⟨v, Blk.kept (show Blk A Bo _ [v] from hv) hg (by simpa using hne), ho.kept hg (.inr (fun e => ?_))⟩
  obtain ⟨_, cs, fr, hc⟩ := own_typ ho p e
  unfold Blk at hb
  rw [hb] at hc
  simp at hc

/-- before round k: what the table holds then, and the row that is made -/
def GI (W wX : World) (p g5 n0 : Nat) (vz : Value) (zs : List (Int × Int)) (L k : Nat) (W' : World) : Prop :=
  ∃ ys, Sd ltI ys ∧ ys.length ≤ L + k ∧ AS W wX p g5 (g5 + 1) vz zs ys W' ∧ Out W' n0 (n0 + 1) (zs.take k)
theorem GI.kt {W wX : World} {p g5 n0 : Nat} {vz : Value} {zs : List (Int × Int)} {L k : Nat} {W' : World} (h : GI W wX p g5 n0 vz zs L k W') : KT 84 wX W' := by obtain ⟨_, _, _, h, _⟩ := h; exact h.kt
theorem GI.drewN {W wX : World} {p g5 n0 : Nat} {vz : Value} {zs : List (Int × Int)} {L k : Nat} {W' : World} (h : GI W wX p g5 n0 vz zs L k W') (m : Nat) : GI W wX p g5 n0 vz zs L k (W'.drewN m) := by
  obtain ⟨ys, h1, h2, h3, v, h4, h5⟩ := h
  exact ⟨ys, h1, h2, h3.drewN m, v, h4, h5⟩
theorem GI.own (W wX : World) (p g5 n0 : Nat) (vz : Value) (zs : List (Int × Int)) (L k : Nat) {b : Nat} (hb : W.heap.size ≤ b) : OwnFrom b (fun (_ : Unit) W' => GI W wX p g5 n0 vz zs L k W') := fun s A B row h hg hr => by
  obtain ⟨ys, h1, h2, h3, h4⟩ := h
  exact ⟨ys, h1, h2, AS.own W wX p g5 (g5 + 1) vz zs ys hb () A B row h3 hg hr, Own.from (Out.ownF _ _ _) b () A B row h4 hg hr⟩
set_option maxRecDepth 100000 in
set_option maxHeartbeats 8000000 in
theorem goes_walk (W : World) (sv : Value) (ops : List Op3) (hR : Rd cO 3 W.heap.size W sv ops) (hL : ops.length ≤ maxLen) (_ : ∀ z ∈ ops, (Lit.int .i64 z.1).wf = true ∧ (Lit.int .i64 z.2.1).wf = true ∧ (Lit.int .i64 z.2.2).wf = true) (bk : Bool) :
    Calls Try.prog 5 #[sv, .bool bk] W fun e w' => e = .returned (.bool true) ∧ Below W.heap.size W w' := by
  obtain ⟨A, c, rfl⟩ := rd_slice hR
  unfold maxLen at hL
  have HR := Lib.hid hR
  clear hR
  refine (callsIn_wide (n := 4)).1 ?_
  refine callsIn_of_wp_marks Try.func5 rfl trivial ?_ rfl
  refine wpIn_wide.2 ?_
  simp only [Try.ntmps5, List.size_toArray, List.length_cons, List.length_nil, Nat.reduceAdd, Nat.reduceSub, Array.replicate_succ, Array.replicate_zero, List.push_toArray, List.append_toArray, List.nil_append, List.cons_append]
  have b4 := Blk.new W [.bool false] 4
  have hBa : Below W.heap.size W (W.alloc (.cells #[.bool false] 4)) := (Below.refl _ W).alloc (Nat.le_refl _) _
  go_wp2_with fail
  refine (TabN.alive_any _).mono ?_; rintro e w1 ⟨rfl, hb1⟩
  have hz1 := hb1.size
  rw [World.size_alloc] at hz1
  have b41 := b4.belowS hb1
  have hB1 : Below W.heap.size W w1 := hBa.trans (hb1.mono (by rw [World.size_alloc]; omega))
  clear b4 hBa hb1
  have e41 := b41.frozen 0
  have c41 := b41.cell (i := 0) rfl
  by_cases hl : ops.length ≤ 100
  · go_wp2_with fail
    have hR1 := (HR.out.below hB1).mono hB1.size
    refine (play_any w1 A c ops hl hR1).mono ?_; rintro e w2 ⟨v2, rfl, hT2, hP2, hv2, hb2⟩
    have b42 := b41.belowS hb2
    have hB2 := hB1.trans (hb2.mono hB1.size)
    have hsd := playL_sd ops
    have hpz := hT2.lt
    have hln := playL_len ops
    obtain ⟨p, hp⟩ : ∃ p, w1.heap.size = p := ⟨_, rfl⟩
    rw [hp] at hT2 hv2 hz1 hpz ⊢
    obtain ⟨xs, hxs⟩ : ∃ xs, playL ops = xs := ⟨_, rfl⟩
    rw [hxs] at hT2 hP2 hsd hln
    clear hxs hR1 HR hb2 hB1 hv2 b41 e41 c41 hp
    obtain ⟨A2, c2, hv, hl2, -⟩ := id hP2
    subst hv
    have hal := TabN.bel_alloc2 w2 (.cells #[.pointer (some ⟨p, 0, none⟩)] 24) (.cells #[.slice A2 xs.length c2] 25)
    have b53 := (Blk.new w2 [.pointer (some ⟨p, 0, none⟩)] 24).alloc (.cells #[.slice A2 xs.length c2] 25)
    have b63 := Blk.new2 w2 (.cells #[.pointer (some ⟨p, 0, none⟩)] 24) [.slice A2 xs.length c2] 25
    obtain ⟨w3, hw3⟩ : ∃ w3, (w2.alloc (.cells #[.pointer (some ⟨p, 0, none⟩)] 24)).alloc (.cells #[.slice A2 xs.length c2] 25) = w3 := ⟨_, rfl⟩
    rw [hw3] at hal b53 b63
    have hT3 := hT2.below hal
    have hP3 := hP2.below hal
    have b43 := b42.belowS hal
    have hB3 := hB2.trans (hal.mono hB2.size)
    have HW3 := Lib.hid hw3
    clear hw3 hal hT2 hP2 hB2 b42
    go_wp2_with fail
    rw [HW3.out]
    obtain ⟨g5, hg5⟩ : ∃ g5, w2.heap.size = g5 := ⟨_, rfl⟩
    rw [hg5] at b53 b63 hpz ⊢
    clear HW3 hg5
    refine (TabN.all_any w3 _).mono ?_; rintro e w4 ⟨rfl, hw4⟩
    have hal : Below w3.heap.size w3 w4 := by rw [hw4]; exact (Below.refl _ w3).alloc (Nat.le_refl _) _
    have bB4 : Blk w4 w3.heap.size 24 [.pointer (some ⟨p, 0, none⟩)] := by rw [hw4]; exact Blk.new w3 [.pointer (some ⟨p, 0, none⟩)] _
    have hAS : AS W w4 p g5 (g5 + 1) (.slice A2 xs.length c2) xs xs w4 := ⟨KT.refl _ _, ⟨_, b43.belowS hal⟩, b53.belowS hal, b63.belowS hal, hP3.below hal, hT3.below hal, hB3.trans (hal.mono hB3.size)⟩
    obtain ⟨B, hB⟩ : ∃ B, w3.heap.size = B := ⟨_, rfl⟩
    rw [hB] at bB4 ⊢
    have c54 := hAS.b5.cell (i := 0) rfl
    have c64 := hAS.b6.cell (i := 0) rfl
    have f64 := hAS.b6.frozen 0
    clear hal hw4 hB hT3 hP3 b43 b53 b63 hB3
    have hg6lt := hAS.b6.lt
    have hdz : w4.drew.heap.size = w4.heap.size := rfl
    cases bk with
    | false =>
      go_wp2_with fail
      have hX := hAS
      have bBX := bB4
      obtain ⟨wX, hwX⟩ : ∃ wX, w4 = wX := ⟨_, rfl⟩
      rw [hwX] at hX bBX ⊢
      clear c54 c64 f64
      clear hAS bB4 hwX
      -- TAIL false
      have hX' : AS W wX p g5 (g5 + 1) (.slice A2 xs.length c2) (xs) xs wX := ⟨KT.refl _ _, hX.b4, hX.b5, hX.b6, hX.ps, hX.t, hX.b⟩
      have h4n : W.heap.size < wX.heap.size := by obtain ⟨_, hv⟩ := hX.b4; exact hv.lt
      have h5n := hX.b5.lt
      have h6n := hX.b6.lt
      have hBn := bBX.lt
      have hpn := hX.t.lt
      have hzn : 0 < (xs).length → ∃ k, (Value.slice A2 xs.length c2).ownBlock = some k ∧ k < wX.heap.size := fun h0 => hX.ps.lt h0
      have hal := TabN.bel_alloc2 wX (.cells #[] 41) (.cells #[.slice (some ⟨wX.heap.size, 0, none⟩) 0 0] 25)
      have bo : Boxed ((wX.alloc (.cells #[] 41)).alloc (.cells #[.slice (some ⟨wX.heap.size, 0, none⟩) 0 0] 25)) (wX.heap.size + 1) 25 (.slice (some ⟨wX.heap.size, 0, none⟩) 0 0) := by
        have := Boxed.new (wX.alloc (.cells #[] 41)) 25 (.slice (some ⟨wX.heap.size, 0, none⟩) 0 0)
        rw [World.size_alloc] at this
        exact this
      have rO : ((wX.alloc (.cells #[] 41)).alloc (.cells #[.slice (some ⟨wX.heap.size, 0, none⟩) 0 0] 25)).ownsRow wX.heap.size 41 2 (.slice (some ⟨wX.heap.size, 0, none⟩) 0 0) 0 [] :=
        (World.ownsRow_lit (base := wX.heap.size) (e := 41) (size := 2) wX #[] 0 (Nat.le_refl _) (by decide) rfl).alloc (.cells #[.slice (some ⟨wX.heap.size, 0, none⟩) 0 0] 25)
      obtain ⟨w8, hw8⟩ : ∃ w8, ((wX.alloc (.cells #[] 41)).alloc (.cells #[.slice (some ⟨wX.heap.size, 0, none⟩) 0 0] 25)) = w8 := ⟨_, rfl⟩
      have hz8 : w8.heap.size = wX.heap.size + 2 := by rw [← hw8]; simp
      rw [hw8] at hal bo rO ⊢
      have hX8 := hX'.below hal
      have cB := (bBX.belowS hal).cell (i := 0) rfl
      obtain ⟨q, T0, hbm, hTm, hzs⟩ := hX.t
      have cm := (hbm.belowS hal).cell (i := 0) rfl
      have hG := TabN.all_gives wX B p q T0 hTm
      rw [hzs] at hG
      obtain ⟨n0, hn0⟩ : ∃ n0, wX.heap.size = n0 := ⟨_, rfl⟩
      rw [hn0] at h4n h5n h6n hBn hpn hzn bo rO hz8 ⊢
      clear hw8 hal hX hX' bBX hzs hbm hTm
      have hpW : W.heap.size < p := by omega
      have hzl : (xs).length = xs.length := by simp
      have hz5 : (xs).length < 1000 := by omega
      obtain ⟨i0, hi0, hiz0, hiz1, hiz2⟩ := info_parts TabN.infoP
      have hsO : ∀ k, OwnFrom w8.heap.size (fun (_ : Unit) W' => GI W wX p g5 n0 (.slice A2 xs.length c2) (xs) xs.length k W') := fun k => GI.own W wX p g5 n0 _ _ _ k (by omega)
      have hI0 : GI W wX p g5 n0 (.slice A2 xs.length c2) (xs) xs.length 0 w8 := ⟨xs, hsd, Nat.le_refl _, hX8, ⟨_, bo, rO⟩⟩
      clear hX8 bo rO
      refine wpIn_wide.1 (range_gen (F := Fence.wide) (n := 4) rfl (by omega) (gf := 45) (lb := #[.pointer (some ⟨B, 0, none⟩)]) rfl trivial hG.1 (encs := fun k : Nat => #[ek ((xs).getD k d0).1, ev ((xs).getD k d0).2]) (fun _ => rfl)
        (fun W' => (W'.cell? ⟨B, 0, none⟩ = some (.pointer (some ⟨p, 0, none⟩)) ∧ W'.cell? ⟨p, 0, none⟩ = some (.pointer q)) ∧ GI W wX p g5 n0 (.slice A2 xs.length c2) (xs) xs.length 0 W')
        (fun k W' => k < (xs).length ∧ GI W wX p g5 n0 (.slice A2 xs.length c2) (xs) xs.length k W')
        (fun k W' => GI W wX p g5 n0 (.slice A2 xs.length c2) (xs) xs.length (k + 1) W')
        (fun _ _ => False)
        (fun W' => GI W wX p g5 n0 (.slice A2 xs.length c2) (xs) xs.length (xs).length W')
        (fun k a' W' => a' = { tmps := #[.slice A ops.length c, .bool false, undef, undef, .pointer (some ⟨W.heap.size, 0, none⟩), .pointer (some ⟨g5, 0, none⟩), .pointer (some ⟨g5 + 1, 0, none⟩), .bool true, .func (.func 45) #[] #[.pointer (some ⟨B, 0, none⟩)], .pointer (some ⟨n0 + 1, 0, none⟩), ek (xs.getD k d0).1, ev (xs.getD k d0).2, .bool true, .bool false, .slice A ops.length c, .int .i64 (ops.length : Int), .bool (decide ((100 : Int) < (ops.length : Int))), .tuple #[.pointer (some ⟨p, 0, none⟩), .slice A2 xs.length c2, .bool true], .slice A ops.length c, .tuple #[.pointer (some ⟨p, 0, none⟩), .slice A2 xs.length c2, .bool true], .pointer (some ⟨p, 0, none⟩), .slice A2 xs.length c2, .bool true, .bool true, .bool false, .pointer (some ⟨p, 0, none⟩), .func (.func 45) #[] #[.pointer (some ⟨B, 0, none⟩)], .bool false, undef, undef, undef, undef, .slice (some ⟨n0, 0, none⟩) 0 0, .func (.func 45) #[] #[.pointer (some ⟨B, 0, none⟩)], ek (xs.getD k d0).1, ev (xs.getD k d0).2, undef, undef, undef, undef, undef, undef, undef, undef, undef, undef, undef, undef, undef, undef, undef, undef, undef, undef, undef, undef, undef, undef, undef], defers := [] } ∧ k < (xs).length ∧ GI W wX p g5 n0 (.slice A2 xs.length c2) (xs) xs.length k W')
        (OwnFrom.and (OwnFrom.and (cell_own _ _) (cell_own _ _)) (hsO 0))
        (fun k => hsO (k + 1))
        (fun _ _ _ _ _ hs _ _ => hs)
        (hsO _)
        (fun k a' => OwnFrom.and (fun _ _ _ _ hs _ _ => hs) (OwnFrom.and (fun _ _ _ _ hs _ _ => hs) (hsO k)))
        ⟨⟨cB, cm⟩, hI0⟩ (hG.2 3 (fun k W' => GI W wX p g5 n0 (.slice A2 xs.length c2) (xs) xs.length k W') (fun k W' h => h.kt) (fun k W' m h => h.drewN m)) ?assign ?body ?done ?stop)
      case assign =>
        rintro l k W' K ⟨hk, hP⟩ hK
        obtain ⟨⟨x, y⟩, hx⟩ : ∃ x, (xs).getD k d0 = x := ⟨_, rfl⟩
        rw [hx] at hK ⊢
        unfold ek ev at hK ⊢
        gi_wp2
        exact hK _ _ (KeepsFrom.refl _ _) ⟨rfl, hk, hP⟩
      case body =>
        rintro l k a' W' hl2 hr ⟨rfl, hk, ys, hsy, hly, hS, v, hv, hrow⟩
        have htk : (xs).take (k + 1) = (xs).take k ++ [(xs).getD k d0] := by rw [List.take_succ_eq_append_getElem hk, List.getD_eq_getElem?_getD, List.getElem?_eq_getElem hk]; rfl
        obtain ⟨⟨x, y⟩, hx⟩ : ∃ x, (xs).getD k d0 = x := ⟨_, rfl⟩
        rw [hx] at htk ⊢
        have hlk : ((xs).take k).length = k := by rw [List.length_take]; omega
        rw [hlk] at hrow
        have hc := hv.cell
        have hvl : n0 + 1 < W'.heap.size := Blk.lt (show Blk W' (n0 + 1) _ [v] from hv)
        have c5 := hS.b5.cell (i := 0) rfl
        have c6 := hS.b6.cell (i := 0) rfl
        have hnW : n0 ≤ W'.heap.size := by omega
        have hkx : k < xs.length := by omega
        have hkd : decide (xs.length < k + 1) = false := decide_eq_false (by omega)
        have hkn : ¬ xs.length < k + 1 := by omega
        have HTK := Lib.hid htk; have HLK := Lib.hid hlk; have HSY := Lib.hid hsy; have HS := Lib.hid hS
        clear htk hx hlk hsO hG hI0 cB cm hsy hS
        unfold ek ev
        gi_wp2_with (first
          | (gi_at_builtin; refine wpListIn_append_own _ rfl _ _ 25 rfl n0 41 i0 _ 2 16 Try.underlying25 hi0 hiz0 hiz1 hiz2 rfl (by decide) _ k _ rfl (hrow.alloc _) ⟨W'.heap.size, 0, none⟩ 1 1 [.int .i64 x, .int .i64 y] rfl rfl (news_blk (Blk.new W' [.int .i64 x, .int .i64 y] 41)) (by simp [Value.oneCell']) (by unfold maxLen; omega) (by omega) (by simp; omega) ?_; intro v' w3 hown' hgrow _; obtain ⟨g', cap', rfl⟩ := ownsRow_succ hown'; obtain ⟨hv1, hv2, hr2, hk2, hb2⟩ := hv.appended (by decide) hrow hnW (Nat.le_succ _) hown' hgrow; have hc1 := hv1.cell; have hf1 := hv1.frozen; have hc2 := hv2.cell; have S4 := Lib.hid (HS.out.app hb2 (app_kt hv1 hrow hgrow (by decide) (by decide)) (app_kt hv1 hrow hgrow (by decide) (by decide)) h4n h5n h6n hzn); have c54 := S4.out.b5.cell (i := 0) rfl; have c64 := S4.out.b6.cell (i := 0) rfl; have HR2 := Lib.hid hr2; have HV2 := Lib.hid hv2; clear hr2 hown' hgrow)
          | (refine ⟨trivial, ?_⟩; gi_at_call 26; refine (CallsIn.inRound l (callsIn_wide.2 (TabN.dropM_any _ p ys x S4.out.t HSY.out (by omega)))).mono ?_; rintro e w5 ⟨rfl, hT5, hg5⟩; have S5 := Lib.hid (S4.out.turn hT5 hg5 hpW (by omega) (by omega)); have c55 := S5.out.b5.cell (i := 0) rfl; have c65 := S5.out.b6.cell (i := 0) rfl)
          | (refine ⟨trivial, ?_⟩; gi_at_call 25; refine (CallsIn.inRound l (callsIn_wide.2 (TabN.putM_any w5 p _ _ _ S5.out.t (dropL_sd HSY.out x) (by have := dropL_le ys x; omega)))).mono ?_; rintro e w6 ⟨rfl, hT6, hg6⟩; have S6 := Lib.hid (S5.out.turn hT6 hg6 hpW (by omega) (by omega)); have c56 := S6.out.b5.cell (i := 0) rfl; have c66 := S6.out.b6.cell (i := 0) rfl; have hv6 := Lib.hid (Blk.kept (Blk.kept (show Blk _ (n0 + 1) _ [_] from HV2.out) hg5 (by simp; omega)) hg6 (by simp; omega)); have co6 := hv6.out.cell (i := 0) rfl))
        refine ⟨((hk2.from _).trans (KeepsFrom.of_grownBy hg5 (fun j e => by cases e; omega))).trans (KeepsFrom.of_grownBy hg6 (fun j e => by cases e; omega)), _, putL_sd lin (dropL_sd HSY.out x) _ _, ?_, S6.out, ?_⟩
        · have h1 := putL_len (dropL ltI ys x) (bits .xor .i64 x 1) (wrap64 (y + 1))
          have h2 := dropL_le ys x
          omega
        · have O4 : Out _ n0 (n0 + 1) ((xs).take (k + 1)) := ⟨_, HV2.out, by rw [HTK.out, List.length_append, HLK.out, cellsOf_append, cellsOf_one]; exact HR2.out⟩
          exact out_turn (out_turn O4 S4.out.t hg5 (by omega)) S5.out.t hg6 (by omega)
      case done =>
        rintro D W' hD ⟨ys, hsy, hly, hS, v, hv, hrow⟩ hK
        rw [List.take_length] at hrow
        obtain ⟨v4, hv4⟩ := hS.b4
        have c5 := hS.b5.cell (i := 0) rfl
        have c6 := hS.b6.cell (i := 0) rfl
        have c9 := hv.cell
        have hP := ps_own (by omega) hrow
        have HSM := Lib.hid (same_refl W' v _ (xs) (by omega) hP hS.ps)
        have HS := Lib.hid hS; have HK := Lib.hid hK; have HV := Lib.hid hv4
        clear hsO hG hI0 cB cm hS hK hrow hP hv4
        go_wp2_with fail
        refine HSM.out.mono ?_; rintro e w9 ⟨rfl, hb9⟩
        have hv9 := HV.out.belowS hb9
        have c4 := hv9.cell (i := 0) rfl
        have e4 := hv9.frozen 0
        have q4 := hv9.set 0 (.bool true)
        have hD2 : D ≠ W.heap.size := by omega
        have hDl : D < W'.heap.size := (Array.getElem?_eq_some_iff.1 HK.out).1
        have hK2 : (w9.setCell ⟨W.heap.size, 0, none⟩ (.bool true)).heap[D]? = some (.deferred (some [])) := (Below.heap_setCell w9 ⟨W.heap.size, 0, none⟩ _ D hD2).trans ((hb9.block D hDl).trans HK.out)
        have hB9 := HS.out.b.trans (hb9.mono HS.out.b.size)
        clear HSM HV hb9
        go_wp2_with fail
        refine ⟨by simp, .inl ⟨_, _, rfl, run_takeDeferred (by exact hK2), ?_⟩⟩
        have q4c : ∀ o, ((w9.setCell ⟨W.heap.size, 0, none⟩ (.bool true)).putObj D o).cell? ⟨W.heap.size, 0, none⟩ = some (.bool true) := fun o => by
          have q2 : Blk ((w9.setCell ⟨W.heap.size, 0, none⟩ (.bool true)).putObj D o) (W.heap.size) 4 [.bool true] := (World.putObj_heap_other (by omega)).trans q4
          exact q2.cell (i := 0) rfl
        refine ⟨.bool true, by simp [results, Try.f5, go_sem, q4c], rfl, ?_⟩
        exact (hB9.setCell (p := ⟨W.heap.size, 0, none⟩) (Nat.le_refl _) _).trans (belowK_b (w := w8) (by omega) (w9.setCell ⟨W.heap.size, 0, none⟩ (.bool true)) D _ _ hD hK2 rfl rfl)
      case stop =>
        rintro D c W' hD h hK
        exact h.elim
      -- END false
    | true =>
      have c54d : w4.drew.cell? ⟨g5, 0, none⟩ = some (.pointer (some ⟨p, 0, none⟩)) := c54
      have c64d : w4.drew.cell? ⟨g5 + 1, 0, none⟩ = some (.slice A2 xs.length c2) := c64
      go_wp2_with fail
      refine wp_region_noPanic ?_
      go_region_with ((first
        | (go_at_call 16; refine (ref_back w5 _ xs (by omega) hAS5.ps).mono ?_; rintro e w6 ⟨v6, rfl, hP6, hv6, hb6⟩; obtain ⟨A3, c3, rfl, hl3, hC6⟩ := hP6; have hAS6 := hAS5.below hb6; have bB6 := bB5.belowS hb6; have c56 := hAS6.b5.cell (i := 0) rfl; have c66 := hAS6.b6.cell (i := 0) rfl; have f66 := hAS6.b6.frozen 0)
        | (go_at_call 15; refine (TabN.back_any w4.drew _).mono ?_; rintro e w5 ⟨rfl, hw5⟩; have hal5 : Below w4.heap.size w4 w5 := (by rw [hw5]; exact ((Below.refl _ w4).drew).alloc (Nat.le_refl _) _); have bB5 : Blk w5 w4.drew.heap.size 24 [.pointer (some ⟨p, 0, none⟩)] := (by rw [hw5]; exact Blk.new w4.drew [.pointer (some ⟨p, 0, none⟩)] _); have hAS5 := hAS.below hal5; have c56 := hAS5.b5.cell (i := 0) rfl; have c66 := hAS5.b6.cell (i := 0) rfl; have hz5 := bB5.lt; clear hw5)))
      all_goals
        refine NoPanic.normal ?_
        go_wp2_with fail
        have hg := grownBy_setAt w6 (g5 + 1) 0 (.slice A3 xs.length c3)
        have hX : AS W w4 p g5 (g5 + 1) (.slice A3 xs.length c3) xs.reverse xs (w6.setCell ⟨g5 + 1, 0, none⟩ (.slice A3 xs.length c3)) :=
          ⟨hAS6.kt.trans (KT.setOther hAS6.b6 (by decide)), (by obtain ⟨v, hv⟩ := hAS6.b4; exact ⟨v, hv.other (by simp; omega) _⟩), hAS6.b5.other (by simp) _, hAS6.b6.set 0 _, (by rw [List.length_reverse] at hC6 hl3 hv6; exact PS.other ⟨A3, c3, by rw [List.length_reverse], by rw [List.length_reverse]; exact hl3, by rw [List.length_reverse]; exact hC6⟩ (fun e => by have := hv6 _ e; omega) hg), hAS6.t.other hg hAS6.b6 (by omega) (by decide), hAS6.b.grown hg hAS6.b.size (fun r e => by cases e; omega)⟩
        have bBX : Blk (w6.setCell ⟨g5 + 1, 0, none⟩ (.slice A3 xs.length c3)) w4.heap.size 24 [.pointer (some ⟨p, 0, none⟩)] := bB6.other (by simp; omega) _
        have hzz : w6.heap.size = (w6.setCell ⟨g5 + 1, 0, none⟩ (.slice A3 xs.length c3)).heap.size := by simp [World.setCell]
        rw [hzz]
        obtain ⟨wX, hwX⟩ : ∃ wX, w6.setCell ⟨g5 + 1, 0, none⟩ (.slice A3 xs.length c3) = wX := ⟨_, rfl⟩
        rw [hwX] at hX bBX ⊢
        clear hAS hAS5 hAS6 bB4 bB5 bB6 hzz hwX hg hC6 c54 c64 f64 c54d c64d c56 c66 f66 hb6 hal5 hv6 hl3
        -- TAIL true
        have hX' : AS W wX p g5 (g5 + 1) (.slice A3 xs.length c3) (xs.reverse) xs wX := ⟨KT.refl _ _, hX.b4, hX.b5, hX.b6, hX.ps, hX.t, hX.b⟩
        have h4n : W.heap.size < wX.heap.size := by obtain ⟨_, hv⟩ := hX.b4; exact hv.lt
        have h5n := hX.b5.lt
        have h6n := hX.b6.lt
        have hBn := bBX.lt
        have hpn := hX.t.lt
        have hzn : 0 < (xs.reverse).length → ∃ k, (Value.slice A3 xs.length c3).ownBlock = some k ∧ k < wX.heap.size := fun h0 => hX.ps.lt h0
        have hal := TabN.bel_alloc2 wX (.cells #[] 41) (.cells #[.slice (some ⟨wX.heap.size, 0, none⟩) 0 0] 25)
        have bo : Boxed ((wX.alloc (.cells #[] 41)).alloc (.cells #[.slice (some ⟨wX.heap.size, 0, none⟩) 0 0] 25)) (wX.heap.size + 1) 25 (.slice (some ⟨wX.heap.size, 0, none⟩) 0 0) := by
          have := Boxed.new (wX.alloc (.cells #[] 41)) 25 (.slice (some ⟨wX.heap.size, 0, none⟩) 0 0)
          rw [World.size_alloc] at this
          exact this
        have rO : ((wX.alloc (.cells #[] 41)).alloc (.cells #[.slice (some ⟨wX.heap.size, 0, none⟩) 0 0] 25)).ownsRow wX.heap.size 41 2 (.slice (some ⟨wX.heap.size, 0, none⟩) 0 0) 0 [] :=
          (World.ownsRow_lit (base := wX.heap.size) (e := 41) (size := 2) wX #[] 0 (Nat.le_refl _) (by decide) rfl).alloc (.cells #[.slice (some ⟨wX.heap.size, 0, none⟩) 0 0] 25)
        obtain ⟨w8, hw8⟩ : ∃ w8, ((wX.alloc (.cells #[] 41)).alloc (.cells #[.slice (some ⟨wX.heap.size, 0, none⟩) 0 0] 25)) = w8 := ⟨_, rfl⟩
        have hz8 : w8.heap.size = wX.heap.size + 2 := by rw [← hw8]; simp
        rw [hw8] at hal bo rO ⊢
        have hX8 := hX'.below hal
        have cB := (bBX.belowS hal).cell (i := 0) rfl
        obtain ⟨q, T0, hbm, hTm, hzs⟩ := hX.t
        have cm := (hbm.belowS hal).cell (i := 0) rfl
        have hG := TabN.back_gives wX w4.heap.size p q T0 hTm
        rw [hzs] at hG
        obtain ⟨n0, hn0⟩ : ∃ n0, wX.heap.size = n0 := ⟨_, rfl⟩
        rw [hn0] at h4n h5n h6n hBn hpn hzn bo rO hz8 ⊢
        clear hw8 hal hX hX' bBX hzs hbm hTm
        have hpW : W.heap.size < p := by omega
        have hzl : (xs.reverse).length = xs.length := by simp
        have hz5 : (xs.reverse).length < 1000 := by omega
        obtain ⟨i0, hi0, hiz0, hiz1, hiz2⟩ := info_parts TabN.infoP
        have hsO : ∀ k, OwnFrom w8.heap.size (fun (_ : Unit) W' => GI W wX p g5 n0 (.slice A3 xs.length c3) (xs.reverse) xs.length k W') := fun k => GI.own W wX p g5 n0 _ _ _ k (by omega)
        have hI0 : GI W wX p g5 n0 (.slice A3 xs.length c3) (xs.reverse) xs.length 0 w8 := ⟨xs, hsd, Nat.le_refl _, hX8, ⟨_, bo, rO⟩⟩
        clear hX8 bo rO
        refine wpIn_wide.1 (range_gen (F := Fence.wide) (n := 4) rfl (by omega) (gf := 47) (lb := #[.pointer (some ⟨w4.heap.size, 0, none⟩)]) rfl trivial hG.1 (encs := fun k : Nat => #[ek ((xs.reverse).getD k d0).1, ev ((xs.reverse).getD k d0).2]) (fun _ => rfl)
          (fun W' => (W'.cell? ⟨w4.heap.size, 0, none⟩ = some (.pointer (some ⟨p, 0, none⟩)) ∧ W'.cell? ⟨p, 0, none⟩ = some (.pointer q)) ∧ GI W wX p g5 n0 (.slice A3 xs.length c3) (xs.reverse) xs.length 0 W')
          (fun k W' => k < (xs.reverse).length ∧ GI W wX p g5 n0 (.slice A3 xs.length c3) (xs.reverse) xs.length k W')
          (fun k W' => GI W wX p g5 n0 (.slice A3 xs.length c3) (xs.reverse) xs.length (k + 1) W')
          (fun _ _ => False)
          (fun W' => GI W wX p g5 n0 (.slice A3 xs.length c3) (xs.reverse) xs.length (xs.reverse).length W')
          (fun k a' W' => a' = { tmps := #[.slice A ops.length c, .bool true, undef, undef, .pointer (some ⟨W.heap.size, 0, none⟩), .pointer (some ⟨g5, 0, none⟩), .pointer (some ⟨g5 + 1, 0, none⟩), .bool true, .func (.func 47) #[] #[.pointer (some ⟨w4.heap.size, 0, none⟩)], .pointer (some ⟨n0 + 1, 0, none⟩), ek (xs.reverse.getD k d0).1, ev (xs.reverse.getD k d0).2, .bool true, .bool false, .slice A ops.length c, .int .i64 (ops.length : Int), .bool (decide ((100 : Int) < (ops.length : Int))), .tuple #[.pointer (some ⟨p, 0, none⟩), .slice A2 xs.length c2, .bool true], .slice A ops.length c, .tuple #[.pointer (some ⟨p, 0, none⟩), .slice A2 xs.length c2, .bool true], .pointer (some ⟨p, 0, none⟩), .slice A2 xs.length c2, .bool true, .bool true, .bool false, .pointer (some ⟨p, 0, none⟩), .func (.func 45) #[] #[.pointer (some ⟨B, 0, none⟩)], .bool true, .pointer (some ⟨p, 0, none⟩), .func (.func 47) #[] #[.pointer (some ⟨w4.heap.size, 0, none⟩)], .slice A2 xs.length c2, .slice A3 xs.length c3, .slice (some ⟨n0, 0, none⟩) 0 0, .func (.func 47) #[] #[.pointer (some ⟨w4.heap.size, 0, none⟩)], ek (xs.reverse.getD k d0).1, ev (xs.reverse.getD k d0).2, undef, undef, undef, undef, undef, undef, undef, undef, undef, undef, undef, undef, undef, undef, undef, undef, undef, undef, undef, undef, undef, undef, undef], defers := [] } ∧ k < (xs.reverse).length ∧ GI W wX p g5 n0 (.slice A3 xs.length c3) (xs.reverse) xs.length k W')
          (OwnFrom.and (OwnFrom.and (cell_own _ _) (cell_own _ _)) (hsO 0))
          (fun k => hsO (k + 1))
          (fun _ _ _ _ _ hs _ _ => hs)
          (hsO _)
          (fun k a' => OwnFrom.and (fun _ _ _ _ hs _ _ => hs) (OwnFrom.and (fun _ _ _ _ hs _ _ => hs) (hsO k)))
          ⟨⟨cB, cm⟩, hI0⟩ (hG.2 3 (fun k W' => GI W wX p g5 n0 (.slice A3 xs.length c3) (xs.reverse) xs.length k W') (fun k W' h => h.kt) (fun k W' m h => h.drewN m)) ?assign ?body ?done ?stop)
        case assign =>
          rintro l k W' K ⟨hk, hP⟩ hK
          obtain ⟨⟨x, y⟩, hx⟩ : ∃ x, (xs.reverse).getD k d0 = x := ⟨_, rfl⟩
          rw [hx] at hK ⊢
          unfold ek ev at hK ⊢
          gi_wp2
          exact hK _ _ (KeepsFrom.refl _ _) ⟨rfl, hk, hP⟩
        case body =>
          rintro l k a' W' hl2 hr ⟨rfl, hk, ys, hsy, hly, hS, v, hv, hrow⟩
          have htk : (xs.reverse).take (k + 1) = (xs.reverse).take k ++ [(xs.reverse).getD k d0] := by rw [List.take_succ_eq_append_getElem hk, List.getD_eq_getElem?_getD, List.getElem?_eq_getElem hk]; rfl
          obtain ⟨⟨x, y⟩, hx⟩ : ∃ x, (xs.reverse).getD k d0 = x := ⟨_, rfl⟩
          rw [hx] at htk ⊢
          have hlk : ((xs.reverse).take k).length = k := by rw [List.length_take]; omega
          rw [hlk] at hrow
          have hc := hv.cell
          have hvl : n0 + 1 < W'.heap.size := Blk.lt (show Blk W' (n0 + 1) _ [v] from hv)
          have c5 := hS.b5.cell (i := 0) rfl
          have c6 := hS.b6.cell (i := 0) rfl
          have hnW : n0 ≤ W'.heap.size := by omega
          have hkx : k < xs.length := by omega
          have hkd : decide (xs.length < k + 1) = false := decide_eq_false (by omega)
          have hkn : ¬ xs.length < k + 1 := by omega
          have HTK := Lib.hid htk; have HLK := Lib.hid hlk; have HSY := Lib.hid hsy; have HS := Lib.hid hS
          clear htk hx hlk hsO hG hI0 cB cm hsy hS
          unfold ek ev
          gi_wp2_with (first
            | (gi_at_builtin; refine wpListIn_append_own _ rfl _ _ 25 rfl n0 41 i0 _ 2 16 Try.underlying25 hi0 hiz0 hiz1 hiz2 rfl (by decide) _ k _ rfl (hrow.alloc _) ⟨W'.heap.size, 0, none⟩ 1 1 [.int .i64 x, .int .i64 y] rfl rfl (news_blk (Blk.new W' [.int .i64 x, .int .i64 y] 41)) (by simp [Value.oneCell']) (by unfold maxLen; omega) (by omega) (by simp; omega) ?_; intro v' w3 hown' hgrow _; obtain ⟨g', cap', rfl⟩ := ownsRow_succ hown'; obtain ⟨hv1, hv2, hr2, hk2, hb2⟩ := hv.appended (by decide) hrow hnW (Nat.le_succ _) hown' hgrow; have hc1 := hv1.cell; have hf1 := hv1.frozen; have hc2 := hv2.cell; have S4 := Lib.hid (HS.out.app hb2 (app_kt hv1 hrow hgrow (by decide) (by decide)) (app_kt hv1 hrow hgrow (by decide) (by decide)) h4n h5n h6n hzn); have c54 := S4.out.b5.cell (i := 0) rfl; have c64 := S4.out.b6.cell (i := 0) rfl; have HR2 := Lib.hid hr2; have HV2 := Lib.hid hv2; clear hr2 hown' hgrow)
            | (refine ⟨trivial, ?_⟩; gi_at_call 26; refine (CallsIn.inRound l (callsIn_wide.2 (TabN.dropM_any _ p ys x S4.out.t HSY.out (by omega)))).mono ?_; rintro e w5 ⟨rfl, hT5, hg5⟩; have S5 := Lib.hid (S4.out.turn hT5 hg5 hpW (by omega) (by omega)); have c55 := S5.out.b5.cell (i := 0) rfl; have c65 := S5.out.b6.cell (i := 0) rfl)
            | (refine ⟨trivial, ?_⟩; gi_at_call 25; refine (CallsIn.inRound l (callsIn_wide.2 (TabN.putM_any w5 p _ _ _ S5.out.t (dropL_sd HSY.out x) (by have := dropL_le ys x; omega)))).mono ?_; rintro e w6 ⟨rfl, hT6, hg6⟩; have S6 := Lib.hid (S5.out.turn hT6 hg6 hpW (by omega) (by omega)); have c56 := S6.out.b5.cell (i := 0) rfl; have c66 := S6.out.b6.cell (i := 0) rfl; have hv6 := Lib.hid (Blk.kept (Blk.kept (show Blk _ (n0 + 1) _ [_] from HV2.out) hg5 (by simp; omega)) hg6 (by simp; omega)); have co6 := hv6.out.cell (i := 0) rfl))
          refine ⟨((hk2.from _).trans (KeepsFrom.of_grownBy hg5 (fun j e => by cases e; omega))).trans (KeepsFrom.of_grownBy hg6 (fun j e => by cases e; omega)), _, putL_sd lin (dropL_sd HSY.out x) _ _, ?_, S6.out, ?_⟩
          · have h1 := putL_len (dropL ltI ys x) (bits .xor .i64 x 1) (wrap64 (y + 1))
            have h2 := dropL_le ys x
            omega
          · have O4 : Out _ n0 (n0 + 1) ((xs.reverse).take (k + 1)) := ⟨_, HV2.out, by rw [HTK.out, List.length_append, HLK.out, cellsOf_append, cellsOf_one]; exact HR2.out⟩
            exact out_turn (out_turn O4 S4.out.t hg5 (by omega)) S5.out.t hg6 (by omega)
        case done =>
          rintro D W' hD ⟨ys, hsy, hly, hS, v, hv, hrow⟩ hK
          rw [List.take_length] at hrow
          obtain ⟨v4, hv4⟩ := hS.b4
          have c5 := hS.b5.cell (i := 0) rfl
          have c6 := hS.b6.cell (i := 0) rfl
          have c9 := hv.cell
          have hP := ps_own (by omega) hrow
          have HSM := Lib.hid (same_refl W' v _ (xs.reverse) (by omega) hP hS.ps)
          have HS := Lib.hid hS; have HK := Lib.hid hK; have HV := Lib.hid hv4
          clear hsO hG hI0 cB cm hS hK hrow hP hv4
          go_wp2_with fail
          refine HSM.out.mono ?_; rintro e w9 ⟨rfl, hb9⟩
          have hv9 := HV.out.belowS hb9
          have c4 := hv9.cell (i := 0) rfl
          have e4 := hv9.frozen 0
          have q4 := hv9.set 0 (.bool true)
          have hD2 : D ≠ W.heap.size := by omega
          have hDl : D < W'.heap.size := (Array.getElem?_eq_some_iff.1 HK.out).1
          have hK2 : (w9.setCell ⟨W.heap.size, 0, none⟩ (.bool true)).heap[D]? = some (.deferred (some [])) := (Below.heap_setCell w9 ⟨W.heap.size, 0, none⟩ _ D hD2).trans ((hb9.block D hDl).trans HK.out)
          have hB9 := HS.out.b.trans (hb9.mono HS.out.b.size)
          clear HSM HV hb9
          go_wp2_with fail
          refine ⟨by simp, .inl ⟨_, _, rfl, run_takeDeferred (by exact hK2), ?_⟩⟩
          have q4c : ∀ o, ((w9.setCell ⟨W.heap.size, 0, none⟩ (.bool true)).putObj D o).cell? ⟨W.heap.size, 0, none⟩ = some (.bool true) := fun o => by
            have q2 : Blk ((w9.setCell ⟨W.heap.size, 0, none⟩ (.bool true)).putObj D o) (W.heap.size) 4 [.bool true] := (World.putObj_heap_other (by omega)).trans q4
            exact q2.cell (i := 0) rfl
          refine ⟨.bool true, by simp [results, Try.f5, go_sem, q4c], rfl, ?_⟩
          exact (hB9.setCell (p := ⟨W.heap.size, 0, none⟩) (Nat.le_refl _) _).trans (belowK_b (w := w8) (by omega) (w9.setCell ⟨W.heap.size, 0, none⟩ (.bool true)) D _ _ hD hK2 rfl rfl)
        case stop =>
          rintro D c W' hD h hK
          exact h.elim
        -- END true
  · have h1 : (100 : Int) < (ops.length : Int) := by omega
    have q4 := b41.set 0 (.bool true)
    have q4c := q4.cell (i := 0) rfl
    go_wp2_with fail
    refine ⟨.bool true, by simp [results, Try.f5, go_sem, q4c], rfl, hB1.setCell (p := ⟨W.heap.size, 0, none⟩) (by simp) _⟩

end Go.Proofs.Ytgoomogpcfpekaa.TabR
