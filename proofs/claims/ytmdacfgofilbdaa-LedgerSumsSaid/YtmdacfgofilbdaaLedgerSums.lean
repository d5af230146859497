/- LedgerSums. -/
import Derived.Test.YtmdacfgofilbdaaLedPp
set_option linter.unusedSimpArgs false
set_option linter.unusedVariables false
namespace Go.Proofs.Ytmdacfgofilbdaa.Led
open Go.RowKit Go.Proofs.Ytmdacfgofilbdaa.TabL Go.Proofs.YtmdacfgofilbdaaW.PrintWords
open Go.Proofs.Ytmdacfgofilbdaa.TabB (ltI lin getV TMg ek ev Gives2 all_gives yieldAny)
open Go.Proofs.Ytmdacfgofilbdaa.PLedgerPlays (S75 S78 k75 k78)
attribute [local go_sem] Oper.semAt_some

theorem results_cell1 {fn : Func} {p : Tmp} {ty : TypeId} (h : fn.results = #[.cell p ty]) (tmps : Array Value) (P : Program) (w : World) :
    (results fn tmps).run P w = ((asAddr (tmps.getD p undef)).run P w).andThen fun a w₁ => (loadVar ty a).run P w₁ := by
  simp only [results, h]
  simp [Sem.run_bind, Result.andThen]
/-- what `sound` holds while it goes on -/
def SN (W : World) (p : Nat) (s : Int) (W' : World) : Prop := Blk W' W.heap.size 44 [.pointer (some ⟨p, 0, none⟩)] ∧ Blk W' (W.heap.size + 1) 4 [.bool false] ∧ Blk W' (W.heap.size + 2) 2 [.int .i64 s] ∧ Below W.heap.size W W'
theorem SN.ownF (W : World) (p : Nat) (s : Int) {b : Nat} (hb : W.heap.size ≤ b) : OwnFrom b (fun (_ : Unit) W' => SN W p s W') :=
  OwnFrom.and (Own.from (blk_own _ _ (fun _ => _)) _) (OwnFrom.and (Own.from (blk_own _ _ (fun _ => _)) _) (OwnFrom.and (Own.from (blk_own _ _ (fun _ => _)) _) (ownFrom_below (Nat.le_refl _) hb)))
set_option maxRecDepth 100000 in
set_option maxHeartbeats 4000000 in
theorem sound_any (W : World) (p : Nat) (xs : Bs) {tt : TypeId} (htt : tt ≠ tN) (h : TMg tt W p xs) (hF : Fine xs) :
    Calls Try.prog 45 #[.pointer (some ⟨p, 0, none⟩)] W fun e w' => e = .returned (.bool true) ∧ Below W.heap.size W w' := by
  obtain ⟨q, T0, hbp, hT, hx⟩ := id h
  have HTM := Lib.hid h; have HF := Lib.hid hF
  refine (callsIn_wide (n := 4)).1 ?_
  refine callsIn_of_wp_marks Try.func45 rfl trivial ?_ rfl
  refine wpIn_wide.2 ?_
  simp only [Try.ntmps45, List.size_toArray, List.length_cons, List.length_nil, Nat.reduceAdd, Nat.reduceSub, Array.replicate_succ, Array.replicate_zero, List.push_toArray, List.append_toArray, List.nil_append, List.cons_append]
  go_wp2_with fail
  obtain ⟨w1, hw1⟩ : ∃ w1, ((W.alloc (.cells #[.pointer (some ⟨p, 0, none⟩)] 44)).alloc (.cells #[.bool false] 4)).alloc (.cells #[.int .i64 0] 2) = w1 := ⟨_, rfl⟩
  have hS1 : SN W p 0 w1 := by
    have a1 := Blk.new W [.pointer (some ⟨p, 0, none⟩)] 44
    have a2 := Blk.new (W.alloc (.cells #[.pointer (some ⟨p, 0, none⟩)] 44)) [.bool false] 4
    have a3 := Blk.new ((W.alloc (.cells #[.pointer (some ⟨p, 0, none⟩)] 44)).alloc (.cells #[.bool false] 4)) [.int .i64 0] 2
    rw [World.size_alloc] at a2
    rw [World.size_alloc, World.size_alloc] at a3
    rw [← hw1]
    exact ⟨(a1.alloc _).alloc _, a2.alloc _, a3, (((Below.refl _ W).alloc (Nat.le_refl _) _).alloc (by simp) _).alloc (by simp; omega) _⟩
  have hz1 : w1.heap.size = W.heap.size + 3 := by rw [← hw1]; simp
  have c1 := hS1.1.cell (i := 0) rfl
  rw [hw1]
  clear hw1
  go_wp2_with fail
  refine (lall_any w1 p).mono ?_; rintro e w2 ⟨rfl, hw2⟩
  have hal2 : Below w1.heap.size w1 w2 := by rw [hw2]; exact (Below.refl _ w1).alloc (Nat.le_refl _) _
  have bB : Blk w2 w1.heap.size 129 [.pointer (some ⟨p, 0, none⟩)] := by rw [hw2]; exact Blk.new w1 _ _
  have hz2 : w2.heap.size = W.heap.size + 4 := by rw [hw2, World.size_alloc, hz1]
  have hS2 : SN W p (sumL (xs.take 0)) w2 := ⟨hS1.1.belowS hal2, hS1.2.1.belowS hal2, hS1.2.2.1.belowS hal2, hS1.2.2.2.trans (hal2.mono hS1.2.2.2.size)⟩
  have hG := all_gives W w1.heap.size p q T0 hT
  rw [hx] at hG
  have cB := bB.cell (i := 0) rfl
  have cp : w2.cell? ⟨p, 0, none⟩ = some (.pointer q) := (hbp.belowS hS2.2.2.2).cell (i := 0) rfl
  obtain ⟨g, hg⟩ : ∃ g, w1.heap.size = g := ⟨_, rfl⟩
  rw [hg] at hG cB hz1 ⊢
  subst hz1
  clear hw2 hal2 bB hg h hbp hT hx hS1 c1 hF
  go_wp2_with fail
  have hsO : ∀ s, OwnFrom w2.heap.size (fun (_ : Unit) W' => SN W p s W') := fun s => SN.ownF W p s (by omega)
  refine wpIn_wide.1 (range_gen (F := Fence.wide) (n := 4) rfl (by omega) (gf := 102) (lb := #[.pointer (some ⟨W.heap.size + 3, 0, none⟩)]) rfl trivial hG.1 (encs := fun k : Nat => #[ek (xs.getD k d0).1, ev (xs.getD k d0).2]) (fun _ => rfl)
    (fun W' => (W'.cell? ⟨W.heap.size + 3, 0, none⟩ = some (.pointer (some ⟨p, 0, none⟩)) ∧ W'.cell? ⟨p, 0, none⟩ = some (.pointer q)) ∧ SN W p (sumL (xs.take 0)) W')
    (fun k W' => k < xs.length ∧ SN W p (sumL (xs.take k)) W')
    (fun k W' => SN W p (sumL (xs.take (k + 1))) W')
    (fun c W' => False)
    (fun W' => SN W p (sumL (xs.take xs.length)) W')
    (fun k a' W' => a' = { tmps := #[.pointer (some ⟨p, 0, none⟩), .pointer (some ⟨W.heap.size, 0, none⟩), .pointer (some ⟨W.heap.size + 1, 0, none⟩), .pointer (some ⟨W.heap.size + 2, 0, none⟩), ek (xs.getD k d0).1, ev (xs.getD k d0).2, .pointer (some ⟨p, 0, none⟩), .func (.func 102) #[] #[.pointer (some ⟨W.heap.size + 3, 0, none⟩)], ek (xs.getD k d0).1, ev (xs.getD k d0).2, undef, undef, undef, undef, undef, undef, undef, undef, undef, undef, undef, undef, undef, undef, undef, undef, undef, undef, undef, undef, undef, undef, undef, undef, undef, undef, undef], defers := [] } ∧ k < xs.length ∧ SN W p (sumL (xs.take k)) W')
    (OwnFrom.and (OwnFrom.and (cell_own _ _) (cell_own _ _)) (hsO _))
    (fun k => hsO _)
    (fun c _ _ _ _ hs _ _ => hs)
    (hsO _)
    (fun k a' => OwnFrom.and (fun _ _ _ _ hs _ _ => hs) (OwnFrom.and (fun _ _ _ _ hs _ _ => hs) (hsO _)))
    ⟨⟨cB, cp⟩, hS2⟩
    (hG.2 3 (fun k W' => SN W p (sumL (xs.take k)) W') (fun k W' h => KT.below h.2.2.2)
      (fun k W' j h => hsO _ () W' _ none h ⟨rfl, rfl, rfl, Nat.le_refl _, fun _ _ _ => rfl⟩ (fun r e => by cases e)))
    ?assign ?body ?done ?stop)
  case assign =>
    rintro l k W' K ⟨hk, hP⟩ hK
    obtain ⟨⟨x, y⟩, hx⟩ : ∃ x, xs.getD k d0 = x := ⟨_, rfl⟩
    rw [hx] at hK ⊢
    unfold ek ev at hK ⊢
    gi_wp2
    exact hK _ _ (KeepsFrom.refl _ _) ⟨rfl, hk, hP⟩
  case body =>
    rintro l k a' W' hl' hr ⟨rfl, hk, hS⟩
    obtain ⟨hb1, hb2, hb3, hB⟩ := id hS
    have hst := sumL_take hk
    have hIN := inB_of HF.out.cl.sd HF.out.bnd
    have hs1 := sumL_bnd hIN k (by omega)
    have hs2 := sumL_bnd hIN (k + 1) (by omega)
    have hbs := hB.size
    have hln := HF.out.len
    have hm : xs.getD k d0 ∈ xs := by simp [List.getD, hk]
    have hnz := HF.out.cl.nz _ hm
    have hky := HF.out.key _ hm
    have hgv := getV_mem HF.out.cl.sd _ hm
    have hps := HF.out.pos (xs.getD k d0).1
    rw [hgv] at hps
    obtain ⟨⟨x, y⟩, hx⟩ : ∃ x, xs.getD k d0 = x := ⟨_, rfl⟩
    rw [hx] at hst hnz hky hgv hps ⊢
    dsimp only at hnz hky hgv hps
    obtain ⟨s, hs⟩ : ∃ s, sumL (xs.take k) = s := ⟨_, rfl⟩
    rw [hs] at hst hs1 hb3
    have g1 : -9223372036854775808 ≤ s + y := by omega
    have g2 : s + y ≤ 9223372036854775807 := by omega
    have c3 := hb3.cell (i := 0) rfl
    have f3 := hb3.frozen 0
    obtain ⟨w3, hw3⟩ : ∃ w3, W'.setCell ⟨W.heap.size + 2, 0, none⟩ (.int .i64 (s + y)) = w3 := ⟨_, rfl⟩
    have hS3 : SN W p (sumL (xs.take (k + 1))) w3 := by
      rw [← hw3, hst]
      exact ⟨hb1.other (p := ⟨W.heap.size + 2, 0, none⟩) (by first | omega | (simp; done) | (simp; omega)) _, hb2.other (p := ⟨W.heap.size + 2, 0, none⟩) (by first | omega | (simp; done) | (simp; omega)) _, hb3.set 0 _, hB.setCell (p := ⟨W.heap.size + 2, 0, none⟩) (by first | omega | (simp; done) | (simp; omega)) _⟩
    have hK3 : KeepsFrom w2.heap.size W' w3 := by rw [← hw3]; exact KeepsFrom.of_grownBy (grownBy_setAt W' _ 0 _) (fun j e => by cases e; omega)
    have c4 := hS3.1.cell (i := 0) rfl
    have hz3 : w3.heap.size = W'.heap.size := by rw [← hw3]; simp [World.setCell]
    have HT3 := Lib.hid (HTM.out.below hS3.2.2.2)
    have hwx : w64 x := by have := rightA_rng hky; unfold w64; omega
    have HR := Lib.hid (right_any w3 x hwx)
    rw [hky] at HR
    have HS3 := Lib.hid hS3; have HK3 := Lib.hid hK3; have HW3 := Lib.hid hw3
    have hn0 : (y == 0) = false := by simp [hnz]
    clear hst hs1 hs2 hx hs hS hb1 hb2 hb3 hB hsO hS3 hK3 hw3 hIN hm hky hwx
    unfold ek ev
    rcases (show (y < 0 ∧ x = 0) ∨ (0 ≤ y ∧ 0 < y) by by_cases hx0 : x = 0 <;> omega) with ⟨hy, rfl⟩ | ⟨hy, hy2⟩
    · gi_wp2_with fail
      rw [HW3.out]
      refine ⟨trivial, ?_⟩
      refine (CallsIn.inRound l (callsIn_wide.2 HR.out)).mono ?_; rintro e w4 ⟨rfl, hb4⟩
      have hS4 := HS3.out
      have hSS : SN W p (sumL (xs.take (k + 1))) w4 := ⟨hS4.1.belowS hb4, hS4.2.1.belowS hb4, hS4.2.2.1.belowS hb4, hS4.2.2.2.trans (hb4.mono hS4.2.2.2.size)⟩
      have HS4 := Lib.hid hSS
      have HK4 := Lib.hid (HK3.out.trans ((belowOthers hb4).from _))
      have c14 := hSS.1.cell (i := 0) rfl
      have HT4 := Lib.hid (HT3.out.below hb4)
      have HB := Lib.hid (balance_c w4 p xs 0 y htt HT4.out HF.out hgv)
      clear hS4 hSS hb4
      gi_wp2_with fail
      refine ⟨trivial, ?_⟩
      refine (CallsIn.inRound l (callsIn_wide.2 HB.out)).mono ?_; rintro e w5 ⟨rfl, rfl⟩
      gi_wp2_with fail
      exact ⟨HK4.out, HS4.out⟩
    · gi_wp2_with fail
      rw [HW3.out]
      refine ⟨trivial, ?_⟩
      refine (CallsIn.inRound l (callsIn_wide.2 HR.out)).mono ?_; rintro e w4 ⟨rfl, hb4⟩
      have hS4 := HS3.out
      have hSS : SN W p (sumL (xs.take (k + 1))) w4 := ⟨hS4.1.belowS hb4, hS4.2.1.belowS hb4, hS4.2.2.1.belowS hb4, hS4.2.2.2.trans (hb4.mono hS4.2.2.2.size)⟩
      have HS4 := Lib.hid hSS
      have HK4 := Lib.hid (HK3.out.trans ((belowOthers hb4).from _))
      have c14 := hSS.1.cell (i := 0) rfl
      have HT4 := Lib.hid (HT3.out.below hb4)
      have HB := Lib.hid (balance_c w4 p xs x y htt HT4.out HF.out hgv)
      clear hS4 hSS hb4
      gi_wp2_with fail
      refine ⟨trivial, ?_⟩
      refine (CallsIn.inRound l (callsIn_wide.2 HB.out)).mono ?_; rintro e w5 ⟨rfl, rfl⟩
      gi_wp2_with fail
      exact ⟨HK4.out, HS4.out⟩
  case done =>
    rintro D W' hD ⟨hb1, hb2, hb3, hB⟩ hK
    have c1 := hb2.cell (i := 0) rfl
    have f2 := hb2.frozen 0
    have c3 := hb3.cell (i := 0) rfl
    rw [List.take_length, HF.out.cl.sum] at c3
    go_wp2
    have b2 := hb2.set 0 (.bool true)
    have hK3 := (Below.heap_setCell W' ⟨W.heap.size + 1, 0, none⟩ (.bool true) D (by simp; omega)).trans hK
    have hB3 := hB.setCell (p := ⟨W.heap.size + 1, 0, none⟩) (by simp) (.bool true)
    obtain ⟨W3, hW3⟩ : ∃ W3, W'.setCell ⟨W.heap.size + 1, 0, none⟩ (.bool true) = W3 := ⟨_, rfl⟩
    rw [hW3] at b2 hK3 hB3 ⊢
    clear hW3 c1 f2 c3 hb1 hb2 hb3
    refine ⟨by simp, .inl ⟨_, _, rfl, run_takeDeferred hK3, ?_⟩⟩
    have c1 := (b2.kept (grownBy_putObj' W3 D (.deferred none)) (by intro e; injection e; omega)).cell (i := 0) rfl
    refine ⟨_, (results_cell1 rfl _ _ _).trans ?_, rfl, hB3.trans (belowK_b (w := w2) (by omega) W3 D _ _ hD hK3 rfl rfl)⟩
    go_simp
  case stop =>
    rintro D c W' hD hF hK
    exact hF.elim

theorem allL_no {xs : Bs} {ms : List Mv} (h : (movesL xs ms).1 ≠ 0) : allL xs ms = xs := by unfold allL; rw [if_neg h]
/-- what holds of a ledger ahead of each round -/
def LS (W : World) (z : Nat) (xs : Bs) (w : World) : Prop := TMg tL w z xs ∧ Fine xs ∧ Below W.heap.size W w
set_option maxHeartbeats 8000000 in
set_option maxRecDepth 100000 in
theorem sums_core (W : World) (ops : List S75) (A : Option Addr) (c : Nat) (hc : ops.length ≤ c) (hC : k75.C W A ops.length ops) (hL : ops.length ≤ 9223372036854775807) (hw : ∀ o ∈ ops, ∀ m ∈ ml o, w64 m.1 ∧ w64 m.2.1) :
    Calls Try.prog 7 #[.slice A ops.length c] W fun e w' => e = .returned (.bool true) ∧ Below W.heap.size W w' := by
  have HC := Lib.hid hC; have HW := Lib.hid hw
  clear hC hw
  cases hs : lsmB ops with
  | false =>
    go_enter Try.func7, Try.ntmps7
    go_wp2_with fail
    refine (lalive_any _).mono ?_; rintro e w1 ⟨rfl, hb1⟩
    go_wp2_with fail
    refine (lsmall_any w1 A c ops (Kd.C_below HC.out hb1) hc hL).mono ?_; rintro e w2 ⟨rfl, hb2⟩
    rw [hs]
    have HB2 := Lib.hid (hb1.trans (hb2.mono hb1.size))
    clear hb1 hb2
    go_wp2_with fail
    go_ret
    exact ⟨rfl, HB2.out⟩
  | true =>
    go_enter Try.func7, Try.ntmps7
    go_wp2_with fail
    refine (lalive_any _).mono ?_; rintro e w1 ⟨rfl, hb1⟩
    go_wp2_with fail
    refine (lsmall_any w1 A c ops (Kd.C_below HC.out hb1) hc hL).mono ?_; rintro e w2 ⟨rfl, hb2⟩
    rw [hs]
    have HB2 := Lib.hid (hb1.trans (hb2.mono hb1.size))
    have h60 := lsm_one hs
    obtain ⟨h30, hsm⟩ := lsmB_true hs
    obtain ⟨z, hz⟩ : ∃ z, w2.heap.size = z := ⟨_, rfl⟩
    have hzW : W.heap.size ≤ z := by rw [← hz]; exact HB2.out.size
    have H0 := Lib.hid (show LS W z [] (w2.alloc (.cells #[.pointer none] 30)) from by
      rw [← hz]
      exact ⟨⟨none, .leaf, Blk.new w2 [.pointer none] _, rfl, rfl⟩, Fine.nil, HB2.out.alloc HB2.out.size _⟩)
    have HZ := Lib.hid hz
    clear hb1 hb2 hs hsm hz
    go_wp2_with fail
    rw [HZ.out]
    go_loopw [21] (fun i wr => ∃ (k : Nat) (xs : Bs), i = .int .i64 (k : Int) ∧ k ≤ ops.length ∧ LS W z xs wr)
      (fun i _ => ops.length - (match i with | .int _ n => n.toNat | _ => 0))
    case atStart => exact ⟨0, [], rfl, Nat.zero_le _, H0.out⟩
    case round =>
      clear H0
      obtain ⟨k, xs, rfl, hk, hP⟩ := hrel
      by_cases hlt : k < ops.length
      · obtain ⟨o, hget⟩ : ∃ o, ops[k]? = some o := ⟨_, List.getElem?_eq_getElem hlt⟩
        have hmem := List.mem_of_getElem? hget
        obtain ⟨b, off, A3, c3, rfl, hbW, h0, h1, l3, g3⟩ := op75_at HC.out hget
        have q0 := (hP.2.2.cell (p := ⟨b, off + k * 2, none⟩) hbW).trans h0
        have q1 := (hP.2.2.cell (p := ⟨b, off + k * 2 + 1, none⟩) hbW).trans h1
        have ho6 := h60 o hmem
        have hml := ml_len o
        have hln : (ml o).length ≤ 60 := by omega
        have HWO := Lib.hid (HW.out o hmem)
        have HP := Lib.hid hP; have G3 := Lib.hid g3
        have HAL := Lib.hid ((Below.refl wr.heap.size wr).alloc (Nat.le_refl _) (.cells #[.bool o.f0, .slice A3 (ml o).length c3] 75))
        have HBL := Lib.hid (Blk.new wr [.bool o.f0, .slice A3 (ml o).length c3] 75)
        obtain ⟨wa, hwa⟩ : ∃ wa, wr.alloc (.cells #[.bool o.f0, .slice A3 (ml o).length c3] 75) = wa := ⟨_, rfl⟩
        have HWA := Lib.hid hwa
        clear hP g3 h0 h1 hget hmem hwa hml
        obtain ⟨of0, hof⟩ : ∃ of0, o.f0 = of0 := ⟨_, rfl⟩
        rw [hof] at q0 HAL HBL HWA
        have hal := HAL.out; rw [HWA.out] at hal
        have hBL := HBL.out; rw [HWA.out] at hBL
        have hTa := HP.out.1.below hal
        have hBa := HP.out.2.2.trans (hal.mono HP.out.2.2.size)
        have HA := Lib.hid (And.intro hTa (And.intro hBL hBa))
        have HFX := Lib.hid HP.out.2.1
        have hwl := HP.out.1.lt
        clear hof hal hBL hTa hBa HAL HBL HP
        go_wp2_with fail
        rw [HWA.out]
        refine (clone_any wa z xs HA.out.1).mono ?_; rintro e w3 ⟨pc, rfl, hpc, hC3, hb3⟩
        have hne : pc ≠ z := by have := HA.out.1.lt; omega
        have hT3 := HA.out.1.below hb3
        have hB3 := HA.out.2.2.trans (hb3.mono HA.out.2.2.size)
        have hBl3 := HA.out.2.1.belowS hb3
        have hRd := ((rd_of_78 (c := c3) G3.out).below hB3).mono hB3.size
        have hfl := HFX.out.len
        have MV := moves_any w3 z xs A3 c3 (ml o) (tt := tL) (by decide) hT3 HFX.out.cl.sd (by omega) (by omega) HFX.out.bnd hRd HWO.out
        have c31 := hBl3.cell (i := 1) rfl
        have hno := allL_no (xs := xs) (ms := ml o)
        have hnil : (ml o).length = 0 → (movesL xs (ml o)).1 = 0 := fun h => by rw [List.eq_nil_of_length_eq_zero h]; rfl
        have hFA := HFX.out.all (ml o)
        obtain ⟨ev, hev⟩ : ∃ ev, (movesL xs (ml o)).1 = ev := ⟨_, rfl⟩
        obtain ⟨ys, hys⟩ : ∃ ys, allL xs (ml o) = ys := ⟨_, rfl⟩
        rw [hev] at MV hno hnil
        rw [hys] at MV hno hFA
        have HMV := Lib.hid MV; have H3 := Lib.hid (And.intro hT3 (And.intro hC3 (And.intro hB3 hBl3)))
        have HFY := Lib.hid hFA
        clear MV hT3 hC3 hB3 hBl3 hRd hb3 HA hev hys hFA
        go_wp2_with fail
        refine HMV.out.mono ?_; rintro e w4 ⟨rfl, hT4, hg4⟩
        have HT := Lib.hid hT4
        have HCC := Lib.hid (tm_other (by decide) H3.out.2.1 H3.out.1 hg4 hne)
        have HB := Lib.hid (H3.out.2.2.1.grown hg4 H3.out.2.2.1.size (fun r e => by cases e; exact hzW))
        have hbl4 := H3.out.2.2.2.kept hg4 (by simp; omega)
        have HBL := Lib.hid hbl4
        have c40 := hbl4.cell (i := 0) rfl
        have c41 := hbl4.cell (i := 1) rfl
        clear hT4 hg4 hbl4 H3 HMV c31
        by_cases h0 : ev = 0
        · subst h0
          cases of0 with
          | true =>
            go_wp2_with fail
            refine (sound_any w4 z ys (by decide) HT.out HFY.out).mono ?_; rintro e wa ⟨rfl, hba⟩
            have HTa := Lib.hid (HT.out.below hba); have HBa := Lib.hid (HB.out.trans (hba.mono HB.out.size))
            clear hba
            go_wp2_with fail
            refine (total_c wa z ys HTa.out HFY.out).mono ?_; rintro e wb ⟨rfl, hbb⟩
            have HTb := Lib.hid (HTa.out.below hbb); have HBb := Lib.hid (HBa.out.trans (hbb.mono HBa.out.size))
            clear hbb
            go_wp2_with fail
            refine (lwrite_any wb z ys HTb.out HFY.out.good (by have := HFY.out.len; omega)).mono ?_; rintro e wc ⟨Aw, cw, rfl, hOw, hbc⟩
            have HTc := Lib.hid (HTb.out.below hbc); have HBc := Lib.hid (HBb.out.trans (hbc.mono HBb.out.size))
            have RR := Lib.hid (reread_any wc _ ys Aw cw HFY.out hOw)
            clear hbc hOw
            go_wp2_with fail
            refine RR.out.mono ?_; rintro e wd ⟨pd, rfl, hpd, hTd, hbd⟩
            have HTd := Lib.hid (HTc.out.below hbd); have HBd := Lib.hid (HBc.out.trans (hbd.mono HBc.out.size)); have HMd := Lib.hid hTd
            clear hbd hTd RR
            go_wp2_with fail
            refine (lsame_refl wd pd z ys HMd.out HTd.out (by have := HFY.out.len; omega)).mono ?_; rintro e we ⟨rfl, hbe⟩
            have HTe := Lib.hid (HTd.out.below hbe); have HBe := Lib.hid (HBd.out.trans (hbe.mono HBd.out.size))
            clear hbe
            go_wp2_with fail
            go_roundw
            case rel => exact ⟨k + 1, ys, by congr 1, by omega, HTe.out, HFY.out, HBe.out⟩
            case measure => simp; omega
          | false =>
            go_wp2_with fail
            refine (sound_any w4 z ys (by decide) HT.out HFY.out).mono ?_; rintro e wa ⟨rfl, hba⟩
            have HTa := Lib.hid (HT.out.below hba); have HBa := Lib.hid (HB.out.trans (hba.mono HB.out.size))
            clear hba
            go_wp2_with fail
            refine (total_c wa z ys HTa.out HFY.out).mono ?_; rintro e wb ⟨rfl, hbb⟩
            have HTb := Lib.hid (HTa.out.below hbb); have HBb := Lib.hid (HBa.out.trans (hbb.mono HBa.out.size))
            clear hbb
            go_wp2_with fail
            refine (lwrite_any wb z ys HTb.out HFY.out.good (by have := HFY.out.len; omega)).mono ?_; rintro e wc ⟨Aw, cw, rfl, hOw, hbc⟩
            have HTc := Lib.hid (HTb.out.below hbc); have HBc := Lib.hid (HBb.out.trans (hbc.mono HBb.out.size))
            have RR := Lib.hid (reread_any wc _ ys Aw cw HFY.out hOw)
            clear hbc hOw
            go_wp2_with fail
            refine RR.out.mono ?_; rintro e wd ⟨pd, rfl, hpd, hTd, hbd⟩
            have HTd := Lib.hid (HTc.out.below hbd); have HBd := Lib.hid (HBc.out.trans (hbd.mono HBc.out.size)); have HMd := Lib.hid hTd
            clear hbd hTd RR
            go_wp2_with fail
            refine (lsame_refl wd pd z ys HMd.out HTd.out (by have := HFY.out.len; omega)).mono ?_; rintro e we ⟨rfl, hbe⟩
            have HTe := Lib.hid (HTd.out.below hbe); have HBe := Lib.hid (HBd.out.trans (hbe.mono HBd.out.size))
            clear hbe
            go_wp2_with fail
            go_roundw
            case rel => exact ⟨k + 1, ys, by congr 1, by omega, HTe.out, HFY.out, HBe.out⟩
            case measure => simp; omega
        · have hyx := hno h0
          subst hyx
          have hev0 : (ev == 0) = false := by simp [h0]
          go_wp2_with fail
          refine (lsame_refl w4 z pc ys HT.out HCC.out (by have := HFY.out.len; omega)).mono ?_; rintro e w5 ⟨rfl, hb5⟩
          have HT5 := Lib.hid (HT.out.below hb5); have HC5 := Lib.hid (HCC.out.below hb5); have HB5 := Lib.hid (HB.out.trans (hb5.mono HB.out.size))
          have hbl5 := HBL.out.belowS hb5
          have c50 := hbl5.cell (i := 0) rfl
          have c51 := hbl5.cell (i := 1) rfl
          have HBL5 := Lib.hid hbl5
          clear hb5 hbl5
          have HT := HT5; have HB := HB5
          cases of0 with
          | true =>
            go_wp2_with fail
            refine (sound_any w5 z ys (by decide) HT.out HFY.out).mono ?_; rintro e wa ⟨rfl, hba⟩
            have HTa := Lib.hid (HT.out.below hba); have HBa := Lib.hid (HB.out.trans (hba.mono HB.out.size))
            clear hba
            go_wp2_with fail
            refine (total_c wa z ys HTa.out HFY.out).mono ?_; rintro e wb ⟨rfl, hbb⟩
            have HTb := Lib.hid (HTa.out.below hbb); have HBb := Lib.hid (HBa.out.trans (hbb.mono HBa.out.size))
            clear hbb
            go_wp2_with fail
            refine (lwrite_any wb z ys HTb.out HFY.out.good (by have := HFY.out.len; omega)).mono ?_; rintro e wc ⟨Aw, cw, rfl, hOw, hbc⟩
            have HTc := Lib.hid (HTb.out.below hbc); have HBc := Lib.hid (HBb.out.trans (hbc.mono HBb.out.size))
            have RR := Lib.hid (reread_any wc _ ys Aw cw HFY.out hOw)
            clear hbc hOw
            go_wp2_with fail
            refine RR.out.mono ?_; rintro e wd ⟨pd, rfl, hpd, hTd, hbd⟩
            have HTd := Lib.hid (HTc.out.below hbd); have HBd := Lib.hid (HBc.out.trans (hbd.mono HBc.out.size)); have HMd := Lib.hid hTd
            clear hbd hTd RR
            go_wp2_with fail
            refine (lsame_refl wd pd z ys HMd.out HTd.out (by have := HFY.out.len; omega)).mono ?_; rintro e we ⟨rfl, hbe⟩
            have HTe := Lib.hid (HTd.out.below hbe); have HBe := Lib.hid (HBd.out.trans (hbe.mono HBd.out.size))
            clear hbe
            go_wp2_with fail
            go_roundw
            case rel => exact ⟨k + 1, ys, by congr 1, by omega, HTe.out, HFY.out, HBe.out⟩
            case measure => simp; omega
          | false =>
            have hpos : 0 < (ml o).length := by
              rcases Nat.eq_zero_or_pos (ml o).length with h | h
              · exact absurd (hnil h) h0
              · exact h
            obtain ⟨⟨f, t, n⟩, hgm⟩ : ∃ m, (ml o)[0]? = some m := ⟨_, List.getElem?_eq_getElem hpos⟩
            have hRd := ((rd_of_78 (c := c3) G3.out).below HB5.out).mono HB5.out.size
            obtain ⟨b3, off3, c4, e1, hlb, r0, r1, r2⟩ := rd_at hRd hgm
            obtain ⟨rfl, rfl⟩ : A3 = some ⟨b3, off3, none⟩ ∧ c3 = c4 := by injection e1 with e1 e2 e3; exact ⟨e1, e3⟩
            have hwm := HWO.out _ (List.mem_of_getElem? hgm)
            simp only [Nat.zero_mul, Nat.add_zero] at r0 r1 r2
            have hal := (Below.refl w5.heap.size w5).alloc (Nat.le_refl _) (.cells #[.int .i64 f, .int .i64 t, .int .i64 n] 78)
            have hbl := Blk.new w5 [.int .i64 f, .int .i64 t, .int .i64 n] 78
            have hFM := HFY.out.move (f, t, n)
            have hmn : moveE (getV ys) (f, t, n) ≠ 0 → moveL ys (f, t, n) = ys := fun h => by unfold moveL; rw [if_neg h]
            have hl0 : (0 : Int) < ((ml o).length : Int) := by omega
            obtain ⟨ez, hez⟩ : ∃ ez, moveE (getV ys) (f, t, n) = ez := ⟨_, rfl⟩
            obtain ⟨us, hus⟩ : ∃ us, moveL ys (f, t, n) = us := ⟨_, rfl⟩
            have HMC := Lib.hid (move_c _ z ys us f t n ez (tt := tL) (by decide) (HT5.out.below hal) HFY.out hwm.1 hwm.2 hez hus)
            have HCa := Lib.hid (And.intro (HT5.out.below hal) (And.intro (HC5.out.below hal) (HB5.out.trans (hal.mono HB5.out.size))))
            have c60 := hbl.cell (i := 0) rfl
            have c61 := hbl.cell (i := 1) rfl
            have c62 := hbl.cell (i := 2) rfl
            rw [hez, hus] at hmn
            rw [hus] at hFM
            have HFU := Lib.hid hFM
            clear hal hbl hgm e1 hRd hwm hez hus hFM hno hnil
            go_wp2_with fail
            refine HMC.out.mono ?_; rintro e w6 ⟨rfl, hT6, hg6⟩
            have HC6 := Lib.hid (tm_other (by decide) HCa.out.2.1 HCa.out.1 hg6 hne)
            have HT6 := Lib.hid hT6
            have HB6 := Lib.hid (HCa.out.2.2.grown hg6 HCa.out.2.2.size (fun r e => by cases e; exact hzW))
            clear hT6 hg6 HCa HMC c60 c61 c62
            by_cases hz0 : ez = 0
            · subst hz0
              have HT := HT6; have HB := HB6; have HFY := HFU
              go_wp2_with fail
              refine (sound_any w6 z us (by decide) HT.out HFY.out).mono ?_; rintro e wa ⟨rfl, hba⟩
              have HTa := Lib.hid (HT.out.below hba); have HBa := Lib.hid (HB.out.trans (hba.mono HB.out.size))
              clear hba
              go_wp2_with fail
              refine (total_c wa z us HTa.out HFY.out).mono ?_; rintro e wb ⟨rfl, hbb⟩
              have HTb := Lib.hid (HTa.out.below hbb); have HBb := Lib.hid (HBa.out.trans (hbb.mono HBa.out.size))
              clear hbb
              go_wp2_with fail
              refine (lwrite_any wb z us HTb.out HFY.out.good (by have := HFY.out.len; omega)).mono ?_; rintro e wc ⟨Aw, cw, rfl, hOw, hbc⟩
              have HTc := Lib.hid (HTb.out.below hbc); have HBc := Lib.hid (HBb.out.trans (hbc.mono HBb.out.size))
              have RR := Lib.hid (reread_any wc _ us Aw cw HFY.out hOw)
              clear hbc hOw
              go_wp2_with fail
              refine RR.out.mono ?_; rintro e wd ⟨pd, rfl, hpd, hTd, hbd⟩
              have HTd := Lib.hid (HTc.out.below hbd); have HBd := Lib.hid (HBc.out.trans (hbd.mono HBc.out.size)); have HMd := Lib.hid hTd
              clear hbd hTd RR
              go_wp2_with fail
              refine (lsame_refl wd pd z us HMd.out HTd.out (by have := HFY.out.len; omega)).mono ?_; rintro e we ⟨rfl, hbe⟩
              have HTe := Lib.hid (HTd.out.below hbe); have HBe := Lib.hid (HBd.out.trans (hbe.mono HBd.out.size))
              clear hbe
              go_wp2_with fail
              go_roundw
              case rel => exact ⟨k + 1, us, by congr 1, by omega, HTe.out, HFY.out, HBe.out⟩
              case measure => simp; omega
            · have hze := hmn hz0
              subst hze
              have hez0 : (ez == 0) = false := by simp [hz0]
              go_wp2_with fail
              refine (lsame_refl w6 z pc us HT6.out HC6.out (by have := HFU.out.len; omega)).mono ?_; rintro e w7 ⟨rfl, hb7⟩
              have HT := Lib.hid (HT6.out.below hb7); have HB := Lib.hid (HB6.out.trans (hb7.mono HB6.out.size))
              clear hb7
              have HFY := HFU
              go_wp2_with fail
              refine (sound_any w7 z us (by decide) HT.out HFY.out).mono ?_; rintro e wa ⟨rfl, hba⟩
              have HTa := Lib.hid (HT.out.below hba); have HBa := Lib.hid (HB.out.trans (hba.mono HB.out.size))
              clear hba
              go_wp2_with fail
              refine (total_c wa z us HTa.out HFY.out).mono ?_; rintro e wb ⟨rfl, hbb⟩
              have HTb := Lib.hid (HTa.out.below hbb); have HBb := Lib.hid (HBa.out.trans (hbb.mono HBa.out.size))
              clear hbb
              go_wp2_with fail
              refine (lwrite_any wb z us HTb.out HFY.out.good (by have := HFY.out.len; omega)).mono ?_; rintro e wc ⟨Aw, cw, rfl, hOw, hbc⟩
              have HTc := Lib.hid (HTb.out.below hbc); have HBc := Lib.hid (HBb.out.trans (hbc.mono HBb.out.size))
              have RR := Lib.hid (reread_any wc _ us Aw cw HFY.out hOw)
              clear hbc hOw
              go_wp2_with fail
              refine RR.out.mono ?_; rintro e wd ⟨pd, rfl, hpd, hTd, hbd⟩
              have HTd := Lib.hid (HTc.out.below hbd); have HBd := Lib.hid (HBc.out.trans (hbd.mono HBc.out.size)); have HMd := Lib.hid hTd
              clear hbd hTd RR
              go_wp2_with fail
              refine (lsame_refl wd pd z us HMd.out HTd.out (by have := HFY.out.len; omega)).mono ?_; rintro e we ⟨rfl, hbe⟩
              have HTe := Lib.hid (HTd.out.below hbe); have HBe := Lib.hid (HBd.out.trans (hbe.mono HBd.out.size))
              clear hbe
              go_wp2_with fail
              go_roundw
              case rel => exact ⟨k + 1, us, by congr 1, by omega, HTe.out, HFY.out, HBe.out⟩
              case measure => simp; omega
      · go_wp2_with fail
        go_ret
        exact ⟨rfl, hP.2.2⟩

theorem sums_row (W : World) (ops : List S75) (A : Option Addr) (c : Nat) (hc : ops.length ≤ c) (_ : A = none → c = 0) (hC : k75.C W A ops.length ops) (hL : ops.length ≤ maxLen) (hG : ∀ o ∈ ops, goodOp o) :
    Calls Try.prog 7 #[.slice A ops.length c] W fun e w' => e = .returned (.bool true) ∧ Below W.heap.size W w' :=
  sums_core W ops A c hc hC (by unfold maxLen at hL; omega) (goodOp.w hG)

end Go.Proofs.Ytmdacfgofilbdaa.Led
