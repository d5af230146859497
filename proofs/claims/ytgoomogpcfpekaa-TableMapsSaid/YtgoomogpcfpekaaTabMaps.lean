/- TableMaps. -/
import Derived.Test.YtgoomogpcfpekaaTabPw
import Derived.Test.YtgoomogpcfpekaaTabMapN
import Derived.Sort.QuietIn
import Derived.Deep.RegionHeld3
set_option linter.unusedSimpArgs false
set_option linter.unusedVariables false
namespace Go.Proofs.Ytgoomogpcfpekaa.TabR
open Go.RowKit Go.Proofs.Ytgoomogpcfpekaa.TabL Go.Proofs.YtgoomogpcfpekaaW.PrintWords Go.Proofs.Ytgoomogpcfpekaa.PTablePlays
open Go.Proofs.Ytgoomogpcfpekaa.TabN (ltI belowL getV putL_len lin TMx T Tr cP d0 ek ev Gives2)
attribute [local go_sem] Oper.semAt_some

/-- a region that only reads, within a round -/
theorem region_quiet_round {F : Fence} {n : Nat} {P : Program} {id : Nat} {Q : Exit → Act → World → Prop} {a : Act} {w : World} {l : List Oper} (r : Nat) (hro : F.round = none) (hm : P.follows .mixedOrders = true) (hB : Region.lexB .any l.toArray = true) (hnd : TabMapS.noDefer l.toArray = true)
    (h : wpQuietIn F n P l.toArray (fun w' => ∃ n, w' = w.drewN n) (fun a' => ∀ w', (∃ n, w' = w.drewN n) → Q .normal a' w') l a) : (Code.region id l.toArray true).wpIn (F.inRound r) n P Q a w := by
  simp only [Region.lexB, Bool.and_eq_true] at hB
  refine wpIn_region_any hm (TabMapS.wpAnyIn_inRound r hro hnd (wpAnyIn_of_quiet (C := fun w' => ∃ n, w' = w.drewN n) (Q := fun a' => ∀ w', (∃ n, w' = w.drewN n) → Q .normal a' w') hro (fun _ w' hw' h => h w' hw') _ _ _ _ ⟨1, rfl⟩ ?_))
  have := wpAnyQIn_lex (F := F) (n := n) (C := fun w' => ∃ n, w' = w.drewN n) (md := .any) hB.1 l 0 (Array.replicate l.toArray.size false) a (by simp) (by simpa using hB.2) h
  simpa using this

def tfM (by0 : Int) (k v : Int) : Int := bits .xor .i64 (bits .xor .i64 k v) by0
set_option maxRecDepth 100000 in
theorem mapper_any (W : World) (B : Nat) (by0 k v : Int) (hc : W.cell? ⟨B, 0, none⟩ = some (.int .i64 by0)) : Calls Try.prog 34 (#[.int .i64 k, .int .i64 v] ++ #[.pointer (some ⟨B, 0, none⟩)]) W fun e w' => e = .returned (.int .i64 (tfM by0 k v)) ∧ W = w' := by
  show Calls Try.prog 34 #[.int .i64 k, .int .i64 v, .pointer (some ⟨B, 0, none⟩)] W _
  go_enter Try.func34, Try.ntmps34
  go_wp2_with fail
  go_ret
  exact ⟨rfl, rfl⟩

/-- the memory between two rounds: round k -/
structure MS (W w0 : World) (p g iB : Nat) (by0 : Int) (v2 : Value) (xs : List (Int × Int)) (k : Nat) (W' : World) : Prop where
  kt : KT 84 w0 W'
  b3 : Blk W' W.heap.size 2 [.int .i64 by0]
  b4 : ∃ v, Blk W' (W.heap.size + 1) 4 [v]
  b6 : Blk W' g 25 [v2]
  b9 : Blk W' iB 3 [.int .i64 (k : Int)]
  ps : PS W' v2 xs
  t : TMx W' p xs
  b : Below W.heap.size W W'
theorem ps_own_keep {b : Nat} (v : Value) (l : List (Int × Int)) : OwnFrom b (fun (_ : Unit) W => PS W v l) := fun s A B row h hg hr => by
  obtain ⟨a, c, rfl, h1, h2⟩ := h
  refine ⟨a, c, rfl, h1, h2.1, h2.2.1, fun hpos => ?_⟩
  obtain ⟨a, rfl, hq⟩ := h2.2.2 hpos
  refine ⟨a, rfl, fun j x hx => ?_⟩
  obtain ⟨cs, hl, hk, hc⟩ := hq j x hx
  obtain rfl := k41_open hk
  refine ⟨_, rfl, k41_mk B x, fun i u hu => ?_⟩
  have h3 := hc i u hu
  rw [← h3]
  refine World.cell?_of_block (hg.block _ (World.block_lt_of_cell? _ _ h3) (fun e => ?_))
  obtain ⟨_, o, ho, hno⟩ := hr _ e.symm
  unfold World.cell? at h3
  rw [ho] at h3
  cases o <;> simp [Obj.isCells] at hno h3
theorem cell_own {b : Nat} (a : Addr) (v : Value) : OwnFrom b (fun (_ : Unit) W => W.cell? a = some v) := fun s A B row h3' hg hr => by
  have h3 : A.cell? a = some v := h3'
  show B.cell? a = some v
  rw [← h3]
  refine World.cell?_of_block (hg.block _ (World.block_lt_of_cell? _ _ h3) (fun e => ?_))
  obtain ⟨_, o, ho, hno⟩ := hr _ e.symm
  unfold World.cell? at h3
  rw [ho] at h3
  cases o <;> simp [Obj.isCells] at hno h3
theorem PS.lt {W : World} {v : Value} {l : List (Int × Int)} (h : PS W v l) (h0 : 0 < l.length) : ∃ k, v.ownBlock = some k ∧ k < W.heap.size := by
  obtain ⟨q, hq⟩ : ∃ q, l[0]? = some q := ⟨_, List.getElem?_eq_getElem h0⟩
  obtain ⟨b, off, c, rfl, h1, _⟩ := h.at hq
  exact ⟨b, rfl, (cell_spot h1).2⟩
theorem PS.other2 {W W' : World} {v : Value} {l : List (Int × Int)} {p : Nat} (h : PS W v l) (hne : 0 < l.length → v.ownBlock ≠ some p) (hg : W.grownBy W' (some p)) : PS W' v l := by
  rcases Nat.eq_zero_or_pos l.length with h0 | h0
  · obtain rfl := List.eq_nil_of_length_eq_zero h0
    obtain ⟨A, c, rfl, h1, h2⟩ := h
    exact ⟨A, c, rfl, h1, h2.1, h2.2.1, fun hp => absurd hp (by simp)⟩
  · exact h.other (hne h0) hg
theorem kt_own {b : Nat} {t : TypeId} (w0 : World) : OwnFrom b (fun (_ : Unit) W => KT t w0 W) := fun s A B row h hg hr =>
  h.trans (KT.grown hg (fun r e => by
    obtain ⟨_, o, ho, hno⟩ := hr r e
    refine ⟨o, ho, fun cs fr e2 => ?_⟩
    subst e2
    simp [Obj.isCells] at hno))
theorem MS.own (W w0 : World) (p g iB : Nat) (by0 : Int) (v2 : Value) (xs : List (Int × Int)) (k : Nat) {b : Nat} (hb : W.heap.size ≤ b) : OwnFrom b (fun (_ : Unit) W' => MS W w0 p g iB by0 v2 xs k W') := fun s A B row h hg hr => by
  have q : ∀ {c : Nat} {t : TypeId} {l : List Value}, Blk A c t l → Blk B c t l := fun hc => Own.from (blk_own _ _ (fun _ : Unit => _)) b () A B row hc hg hr
  exact ⟨kt_own w0 () A B row h.kt hg hr, q h.b3, (by obtain ⟨v, hv⟩ := h.b4; exact ⟨v, q hv⟩), q h.b6, q h.b9, ps_own_keep _ _ () A B row h.ps hg hr, Own.from (TabN.own_tm _ _) b () A B row h.t hg hr, ownFrom_below (Nat.le_refl _) hb () A B row h.b hg hr⟩
theorem bel_drewN {B : Nat} {a w : World} (h : Below B a w) (n : Nat) : Below B a (w.drewN n) := ⟨h.os, h.tape, h.output, h.size, h.block⟩
theorem MS.drewN {W w0 : World} {p g iB : Nat} {by0 : Int} {v2 : Value} {xs : List (Int × Int)} {k : Nat} {W' : World} (h : MS W w0 p g iB by0 v2 xs k W') (n : Nat) : MS W w0 p g iB by0 v2 xs k (W'.drewN n) :=
  ⟨h.kt.trans (TabN.kt_drewN W' n), h.b3, h.b4, h.b6, h.b9, h.ps.below (bel_drewN (Below.refl _ W') n), h.t.below (bel_drewN (Below.refl _ W') n), bel_drewN h.b n⟩

theorem MS.step {W w0 : World} {p g iB : Nat} {by0 : Int} {v2 : Value} {xs : List (Int × Int)} {k : Nat} {W' : World} (h : MS W w0 p g iB by0 v2 xs k W') (h1 : W.heap.size + 1 < p) (h2 : p < iB) (h3 : g < iB) (hv : 0 < xs.length → v2.ownBlock ≠ some iB) : MS W w0 p g iB by0 v2 xs (k + 1) (W'.setCell ⟨iB, 0, none⟩ (.int .i64 ((k : Int) + 1))) :=
  have hg := grownBy_setAt W' iB 0 (.int .i64 ((k : Int) + 1))
  ⟨h.kt.trans (KT.setOther h.b9 (by decide)), h.b3.other (by simp; omega) _, (by obtain ⟨v, hv⟩ := h.b4; exact ⟨v, hv.other (by simp; omega) _⟩), h.b6.other (by simp; omega) _, h.b9.set 0 _, h.ps.other2 hv hg, h.t.other hg h.b9 (by omega) (by decide), h.b.grown hg h.b.size (fun r e => by cases e; omega)⟩
set_option maxRecDepth 100000 in
set_option maxHeartbeats 8000000 in
theorem maps_walk (W : World) (sv : Value) (ops : List Op3) (hR : Rd cO 3 W.heap.size W sv ops) (hL : ops.length ≤ maxLen) (_ : ∀ z ∈ ops, (Lit.int .i64 z.1).wf = true ∧ (Lit.int .i64 z.2.1).wf = true ∧ (Lit.int .i64 z.2.2).wf = true) (by0 : Int) (_ : (Lit.int .i64 by0).wf = true) :
    Calls Try.prog 7 #[sv, .int .i64 by0] W fun e w' => e = .returned (.bool true) ∧ Below W.heap.size W w' := by
  obtain ⟨A, c, rfl⟩ := rd_slice hR
  unfold maxLen at hL
  have HR := Lib.hid hR
  clear hR
  refine (callsIn_wide (n := 4)).1 ?_
  refine callsIn_of_wp_marks Try.func7 rfl trivial ?_ rfl
  refine wpIn_wide.2 ?_
  simp only [Try.ntmps7, List.size_toArray, List.length_cons, List.length_nil, Nat.reduceAdd, Nat.reduceSub, Array.replicate_succ, Array.replicate_zero, List.push_toArray, List.append_toArray, List.nil_append, List.cons_append]
  have b3 := (Blk.new W [.int .i64 by0] 2).alloc (.cells #[.bool false] 4)
  have b4 := Blk.new2 W (.cells #[.int .i64 by0] 2) [.bool false] 4
  have hBa := TabN.bel_alloc2 W (.cells #[.int .i64 by0] 2) (.cells #[.bool false] 4)
  go_wp2_with fail
  refine (TabN.alive_any _).mono ?_; rintro e w1 ⟨rfl, hb1⟩
  have hz1 := hb1.size
  rw [World.size_alloc, World.size_alloc] at hz1
  have b31 := b3.belowS hb1
  have b41 := b4.belowS hb1
  have hB1 : Below W.heap.size W w1 := hBa.trans (hb1.mono (by rw [World.size_alloc, World.size_alloc]; omega))
  clear b3 b4 hBa hb1
  have e41 := b41.frozen 0
  have c41 := b41.cell (i := 0) rfl
  by_cases hl : ops.length ≤ 100
  · go_wp2_with fail
    have hR1 := (HR.out.below hB1).mono hB1.size
    refine (play_any w1 A c ops hl hR1).mono ?_; rintro e w2 ⟨v2, rfl, hT2, hP2, hv2, hb2⟩
    have b32 := b31.belowS hb2
    have b42 := b41.belowS hb2
    have hB2 := hB1.trans (hb2.mono hB1.size)
    have hsd := playL_sd ops
    have hpz := hT2.lt
    have hln := playL_len ops
    obtain ⟨p, hp⟩ : ∃ p, w1.heap.size = p := ⟨_, rfl⟩
    rw [hp] at hT2 hv2 hz1 hpz ⊢
    obtain ⟨xs, hxs⟩ : ∃ xs, playL ops = xs := ⟨_, rfl⟩
    rw [hxs] at hT2 hP2 hsd hln
    clear hxs hR1 HR hb2 hB1 hv2 b31 b41 e41 c41
    obtain ⟨A2, c2, hv, hl2, -⟩ := id hP2
    subst hv
    have hal : Below w2.heap.size w2 (w2.alloc (.cells #[.slice A2 xs.length c2] 25)) := (Below.refl _ w2).alloc (Nat.le_refl _) _
    have b63 := Blk.new w2 [.slice A2 xs.length c2] 25
    obtain ⟨w3, hw3⟩ : ∃ w3, w2.alloc (.cells #[.slice A2 xs.length c2] 25) = w3 := ⟨_, rfl⟩
    rw [hw3] at hal b63
    have hT3 := hT2.below hal
    have hP3 := hP2.below hal
    have b33 := b32.belowS hal
    have b43 := b42.belowS hal
    have hB3 := hB2.trans (hal.mono hB2.size)
    have hM := TabMapN.map_any w3 p xs 34 #[.pointer (some ⟨W.heap.size, 0, none⟩)] (tfM by0) hT3 hsd (by omega) (enters_of Try.func34 (by kernel_rfl) rfl)
      (fun W' k v _ hb => (mapper_any W' W.heap.size by0 k v ((b33.belowS hb).cell (i := 0) rfl)).mono fun e w' h => ⟨h.1, h.2⟩)
    have HM := Lib.hid hM
    clear hM hT2 hP2 b32 b42 hB2 hal
    go_wp2_with fail
    refine HM.out.mono ?_; rintro e w4 ⟨rfl, hM4, hb4⟩
    have hT4 := hT3.below hb4
    have hP4 := hP3.below hb4
    have b34 := b33.belowS hb4
    have b44 := b43.belowS hb4
    have b64 := b63.belowS hb4
    have hB4 := hB3.trans (hb4.mono hB3.size)
    have hgz := b63.lt
    obtain ⟨g, hg⟩ : ∃ g, w2.heap.size = g := ⟨_, rfl⟩
    obtain ⟨m, hm⟩ : ∃ m, w3.heap.size + 1 = m := ⟨_, rfl⟩
    rw [hm] at hM4 ⊢
    rw [hg] at b63 b64 hgz hpz
    have hmz := hM4.lt
    clear HM hT3 hP3 b33 b43 b63 hB3 hb4 hw3
    have c64 := b64.cell (i := 0) rfl
    have LEN := TabN.len_any w4.drew m _ (hM4.below (Below.refl _ w4).drew)
    rw [show (TabMapN.mapL (tfM by0) xs).length = xs.length from by unfold TabMapN.mapL; simp] at LEN
    have c64' : w4.drew.cell? ⟨g, 0, none⟩ = some (.slice A2 xs.length c2) := c64
    go_wp2_with fail
    go_region_held3 (fun w' => w'.cell? ⟨g, 0, none⟩ = some (.slice A2 xs.length c2)) (first | exact c64 | exact c64') ((go_at_call 28; refine LEN.mono ?_; rintro e w ⟨rfl, rfl⟩))
    have hal : Below w4.heap.size w4 (w4.alloc (.cells #[.int .i64 0] 3)).drew := ((Below.refl _ w4).alloc (Nat.le_refl _) _).drew
    have b95 : Blk (w4.alloc (.cells #[.int .i64 0] 3)).drew w4.heap.size 3 [.int .i64 0] := Blk.new w4 [.int .i64 0] 3
    obtain ⟨w5, hw5⟩ : ∃ w5, (w4.alloc (.cells #[.int .i64 0] 3)).drew = w5 := ⟨_, rfl⟩
    rw [hw5] at hal b95
    have hT5 := hT4.below hal
    have hP5 := hP4.below hal
    have hM5 := hM4.below hal
    have b35 := b34.belowS hal
    have b45 := b44.belowS hal
    have b65 := b64.belowS hal
    have hB5 := hB4.trans (hal.mono hB4.size)
    have hgz4 := b64.lt
    have hpz4 := hT4.lt
    have hvi : 0 < xs.length → (Value.slice A2 xs.length c2).ownBlock ≠ some w4.heap.size := fun h0 e => by
      obtain ⟨k, hk, hlt⟩ := hP4.lt h0
      rw [e] at hk; cases hk; omega
    have hz5 := b95.lt
    have HW5 := Lib.hid hw5
    clear LEN hal c64 c64' hT4 hP4 hM4 b34 b44 b64 hB4 hw5
    go_wp2_with fail
    rw [HW5.out]
    obtain ⟨iB, hiB⟩ : ∃ iB, w4.heap.size = iB := ⟨_, rfl⟩
    rw [hiB] at b95 hgz4 hpz4 hvi hmz hz5 ⊢
    clear HW5 hiB
    refine (TabN.all_any w5 _).mono ?_; rintro e w6 ⟨rfl, hw6⟩
    have hal : Below w5.heap.size w5 w6 := by rw [hw6]; exact (Below.refl _ w5).alloc (Nat.le_refl _) _
    have bB6 : Blk w6 w5.heap.size 24 [.pointer (some ⟨m, 0, none⟩)] := by rw [hw6]; exact Blk.new w5 [.pointer (some ⟨m, 0, none⟩)] _
    have hMS : MS W w6 p g iB by0 (.slice A2 xs.length c2) xs 0 w6 := ⟨KT.refl _ _, b35.belowS hal, ⟨_, b45.belowS hal⟩, b65.belowS hal, b95.belowS hal, hP5.below hal, hT5.below hal, hB5.trans (hal.mono hB5.size)⟩
    have hM6 := hM5.below hal
    obtain ⟨B, hB⟩ : ∃ B, w5.heap.size = B := ⟨_, rfl⟩
    rw [hB] at bB6 ⊢
    clear hal hw6 hB hM5 hT5 hP5 b35 b45 b65 b95 hB5
    go_wp2_with fail
    obtain ⟨q, T0, hbm, hTm, hzs⟩ := hM6
    have cB := bB6.cell (i := 0) rfl
    have cm := hbm.cell (i := 0) rfl
    have hG := TabN.all_gives w6 B m q T0 hTm
    rw [hzs] at hG
    obtain ⟨zs, hzz⟩ : ∃ zs, TabMapN.mapL (tfM by0) xs = zs := ⟨_, rfl⟩
    have hzl : zs.length = xs.length := by rw [← hzz]; unfold TabMapN.mapL; simp
    have hzg : ∀ k x, xs[k]? = some x → zs.getD k d0 = (x.1, tfM by0 x.1 x.2) := fun k x hx => by
      rw [← hzz, List.getD_eq_getElem?_getD]; unfold TabMapN.mapL; rw [List.getElem?_map, hx]; rfl
    rw [hzz] at hG
    have hW6 := hMS.b.size
    have hz6 := hMS.b9.lt
    have hsO : ∀ k, OwnFrom w6.heap.size (fun (_ : Unit) W' => MS W w6 p g iB by0 (.slice A2 xs.length c2) xs k W') := fun k => MS.own W w6 p g iB by0 _ xs k hW6
    clear hzz hzs hbm hTm bB6
    refine wpIn_wide.1 (range_gen (F := Fence.wide) (n := 4) rfl (by omega) (gf := 45) (lb := #[.pointer (some ⟨B, 0, none⟩)]) rfl trivial hG.1 (encs := fun k : Nat => #[ek (zs.getD k d0).1, ev (zs.getD k d0).2]) (fun _ => rfl)
      (fun W' => (W'.cell? ⟨B, 0, none⟩ = some (.pointer (some ⟨m, 0, none⟩)) ∧ W'.cell? ⟨m, 0, none⟩ = some (.pointer q)) ∧ MS W w6 p g iB by0 (.slice A2 xs.length c2) xs 0 W')
      (fun k W' => k < zs.length ∧ MS W w6 p g iB by0 (.slice A2 xs.length c2) xs k W')
      (fun k W' => MS W w6 p g iB by0 (.slice A2 xs.length c2) xs (k + 1) W')
      (fun _ _ => False)
      (fun W' => MS W w6 p g iB by0 (.slice A2 xs.length c2) xs zs.length W')
      (fun k a' W' => a' = { tmps := #[.slice A ops.length c, .int .i64 by0, undef, .pointer (some ⟨W.heap.size, 0, none⟩), .pointer (some ⟨W.heap.size + 1, 0, none⟩), .pointer (some ⟨p, 0, none⟩), .pointer (some ⟨g, 0, none⟩), .bool true, .pointer (some ⟨m, 0, none⟩), .pointer (some ⟨iB, 0, none⟩), ek (zs.getD k d0).1, ev (zs.getD k d0).2, .bool true, .bool false, .slice A ops.length c, .int .i64 (ops.length : Int), .bool (decide ((100 : Int) < (ops.length : Int))), .tuple #[.pointer (some ⟨p, 0, none⟩), .slice A2 xs.length c2, .bool true], .slice A ops.length c, .tuple #[.pointer (some ⟨p, 0, none⟩), .slice A2 xs.length c2, .bool true], .pointer (some ⟨p, 0, none⟩), .slice A2 xs.length c2, .bool true, .pointer (some ⟨p, 0, none⟩), .func (.func 34) #[] #[.pointer (some ⟨W.heap.size, 0, none⟩)], .pointer (some ⟨m, 0, none⟩), .pointer (some ⟨m, 0, none⟩), .int .i64 (xs.length : Int), .slice A2 xs.length c2, .int .i64 (xs.length : Int), .bool false, .pointer (some ⟨m, 0, none⟩), .func (.func 45) #[] #[.pointer (some ⟨B, 0, none⟩)], ek (zs.getD k d0).1, ev (zs.getD k d0).2, undef, undef, undef, undef, undef, undef, undef, undef, undef, undef, undef, undef, undef, undef, undef, undef, undef, undef, undef, undef, undef, undef, undef, undef, undef, undef, undef, undef, undef, undef, undef, undef, undef, undef, undef, undef, undef, undef, undef], defers := [] } ∧ k < zs.length ∧ MS W w6 p g iB by0 (.slice A2 xs.length c2) xs k W')
      (OwnFrom.and (OwnFrom.and (cell_own _ _) (cell_own _ _)) (hsO 0))
      (fun k => hsO (k + 1))
      (fun _ _ _ _ _ hs _ _ => hs)
      (hsO _)
      (fun k a' => OwnFrom.and (fun _ _ _ _ hs _ _ => hs) (OwnFrom.and (fun _ _ _ _ hs _ _ => hs) (hsO k)))
      ⟨⟨cB, cm⟩, hMS⟩ (hG.2 3 (fun k W' => MS W w6 p g iB by0 (.slice A2 xs.length c2) xs k W') (fun k W' h => h.kt) (fun k W' m h => h.drewN m)) ?assign ?body ?done ?stop)
    case assign =>
      rintro l k W' K ⟨hk, hP⟩ hK
      obtain ⟨⟨x, y⟩, hx⟩ : ∃ x, zs.getD k d0 = x := ⟨_, rfl⟩
      rw [hx] at hK ⊢
      unfold ek ev at hK ⊢
      gi_wp2
      exact hK _ _ (KeepsFrom.refl _ _) ⟨rfl, hk, hP⟩
    case body =>
      rintro l k a' W' hl2 hr ⟨rfl, hk, hS⟩
      rw [hzl] at hk
      obtain ⟨⟨x, y⟩, hx⟩ : ∃ x, xs[k]? = some x := ⟨_, List.getElem?_eq_getElem hk⟩
      rw [hzg k _ hx]
      unfold ek ev tfM
      obtain ⟨b, off, c1, e1, q0, q1⟩ := hS.ps.at hx
      obtain ⟨rfl, rfl⟩ : A2 = some ⟨b, off, none⟩ ∧ c2 = c1 := by injection e1 with e1 e2 e3; exact ⟨e1, e3⟩
      have c3 := hS.b3.cell (i := 0) rfl
      have c6 := hS.b6.cell (i := 0) rfl
      have c9 := hS.b9.cell (i := 0) rfl
      have f9 := hS.b9.frozen 0
      have hki : (k : Int) < (xs.length : Int) := by omega
      have hk3 : (k : Int) + 1 ≤ 200 := by omega
      have hkd : decide (xs.length ≤ k) = false := decide_eq_false (by omega)
      have hkn : ¬ xs.length ≤ k := by omega
      simp only at q0 q1
      have HS := Lib.hid hS
      clear hS hsO hG hMS cB cm hzg hx e1
      gi_wp2_with fail
      refine region_quiet_round (F := Fence.wide) l rfl (by kernel_rfl) (by kernel_rfl) (by kernel_rfl) ?_
      repeat (gi_big_quiet_step (fail))
      refine wpQuietIn_nil ?_
      intro _ hw'
      obtain ⟨nq, hw''⟩ := hw'
      subst hw''
      gi_wp2_with fail
      exact ⟨((TabN.ko_drewN W' nq).trans (KeepsOthers.setCell _ _ _)).from _, (HS.out.drewN nq).step (by omega) hpz4 hgz4 hvi⟩
    case done =>
      rintro D W' hD hS hK
      rw [hzl] at hS
      obtain ⟨v4, hv4⟩ := hS.b4
      have c6 := hS.b6.cell (i := 0) rfl
      have c9 := hS.b9.cell (i := 0) rfl
      have c4 := hv4.cell (i := 0) rfl
      have e4 := hv4.frozen 0
      have c6d : W'.drew.cell? ⟨g, 0, none⟩ = some (.slice A2 xs.length c2) := c6
      have c9d : W'.drew.cell? ⟨iB, 0, none⟩ = some (.int .i64 (xs.length : Int)) := c9
      have c6s : (W'.setCell ⟨W.heap.size + 1, 0, none⟩ (.bool true)).drew.cell? ⟨g, 0, none⟩ = some (.slice A2 xs.length c2) := (hS.b6.other (p := ⟨W.heap.size + 1, 0, none⟩) (by simp; omega) (.bool true)).cell (i := 0) rfl
      have c9s : (W'.setCell ⟨W.heap.size + 1, 0, none⟩ (.bool true)).drew.cell? ⟨iB, 0, none⟩ = some (.int .i64 (xs.length : Int)) := (hS.b9.other (p := ⟨W.heap.size + 1, 0, none⟩) (by simp; omega) (.bool true)).cell (i := 0) rfl
      have q4 := hv4.set 0 (.bool true)
      have LEN := TabN.len_any W'.drew p xs (hS.t.below (Below.refl _ W').drew)
      have HLEN := Lib.hid LEN
      have HS := Lib.hid hS
      have HK := Lib.hid hK
      clear LEN hS hK hsO hG hMS cB cm hzg
      go_wp2_with fail
      go_region_held3 (fun w' => w'.cell? ⟨g, 0, none⟩ = some (.slice A2 xs.length c2) ∧ w'.cell? ⟨iB, 0, none⟩ = some (.int .i64 (xs.length : Int))) (first | exact ⟨c6, c9⟩ | exact ⟨c6d, c9d⟩ | exact ⟨c6s, c9s⟩) ((go_at_call 28; refine HLEN.out.mono ?_; rintro e w ⟨rfl, rfl⟩))
      go_wp2_with fail
      have hD2 : D ≠ W.heap.size + 1 := by omega
      have hK2 : (W'.setCell ⟨W.heap.size + 1, 0, none⟩ (.bool true)).heap[D]? = some (.deferred (some [])) := (Below.heap_setCell W' ⟨W.heap.size + 1, 0, none⟩ _ D hD2).trans HK.out
      refine ⟨by simp, .inl ⟨_, _, rfl, run_takeDeferred (by exact hK2), ?_⟩⟩
      have q4c : ∀ o, ((W'.setCell ⟨W.heap.size + 1, 0, none⟩ (.bool true)).drew.putObj D o).cell? ⟨W.heap.size + 1, 0, none⟩ = some (.bool true) := fun o => by
        have q2 : Blk ((W'.setCell ⟨W.heap.size + 1, 0, none⟩ (.bool true)).drew.putObj D o) (W.heap.size + 1) 4 [.bool true] := (World.putObj_heap_other (by omega)).trans q4
        exact q2.cell (i := 0) rfl
      refine ⟨.bool true, by simp [results, Try.f7, go_sem, q4c], rfl, ?_⟩
      exact (HS.out.b.setCell (p := ⟨W.heap.size + 1, 0, none⟩) (by simp) _).drew.trans (belowK_b (w := w6) hW6 (W'.setCell ⟨W.heap.size + 1, 0, none⟩ (.bool true)).drew D _ _ hD hK2 rfl rfl)
    case stop =>
      rintro D c W' hD h hK
      exact h.elim
  · have h1 : (100 : Int) < (ops.length : Int) := by omega
    have q4 := b41.set 0 (.bool true)
    have q4c := q4.cell (i := 0) rfl
    go_wp2_with fail
    refine ⟨.bool true, by simp [results, Try.f7, go_sem, q4c], rfl, hB1.setCell (p := ⟨W.heap.size + 1, 0, none⟩) (by simp) _⟩

end Go.Proofs.Ytgoomogpcfpekaa.TabR
