/- DelP, laid together. -/
import Derived.Test.YtnlhgnioedalpaaGr11

/- delta: changes are written and read. -/
set_option linter.unusedSimpArgs false
set_option linter.unusedVariables false
namespace Go.Proofs.Ytnlhgnioedalpaa.Cod
open Go.RowKit Go.Shelf Go.Proofs.YtnlhgnioedalpaaW.PrintWords Go.Proofs.Ytnlhgnioedalpaa.CodL
open Go.Proofs.Ytnlhgnioedalpaa.Pri (Ch dC tF tC)
attribute [local go_sem] Oper.semAt_some

set_option maxRecDepth 100000 in
set_option maxHeartbeats 4000000 in
/-- a change is written -/
theorem putC : OneP evC wrC goodC 90 #[] := by
  refine ⟨enters_of Try.func90 (by kernel_rfl) rfl, fun q W base p v bs hg hl hM => ?_⟩
  obtain ⟨x, y, z⟩ := q
  obtain ⟨hgx, hgy, hgz⟩ := hg
  dsimp only at hgx hgy hgz
  obtain ⟨m, hm⟩ : ∃ m : Nat, y = (m : Int) := ⟨y.toNat, by omega⟩
  subst hm
  have hmb : m < 18446744073709551616 := by omega
  have hB0 : Below W.heap.size W (W.alloc (.cells #[.int .i64 x, .int .u64 (m : Int), .int .i64 z] tC)) := (Below.refl _ W).alloc (Nat.le_refl _) _
  have hb := Blk.new W [.int .i64 x, .int .u64 (m : Int), .int .i64 z] tC
  have hM0 := OM.below hM hB0
  have hx2 := hgx.2
  have hxn : IntKind.u64.wrap (max x 0) = (((max x 0).toNat : Nat) : Int) := by rw [IntKind.wrap_u64]; omega
  obtain ⟨n, hn⟩ : ∃ n, (max x 0).toNat = n := ⟨_, rfl⟩
  have hw : wrC (x, (m : Int), z) = uv n ++ uv m ++ uv (zz z) := by unfold wrC; rw [hn]; simp
  rw [hw]
  rw [hn] at hxn
  have hnb : n < 18446744073709551616 := by omega
  have HU := Lib.hid (out_uint _ base p v bs n hnb (by omega) hM0)
  have HM := Lib.hid hM; have HB0 := Lib.hid hB0; have HBL := Lib.hid hb; have HM0 := Lib.hid hM0
  have c0 := hb.cell (i := 0) rfl
  have c1 := hb.cell (i := 1) rfl
  have c2 := hb.cell (i := 2) rfl
  clear hn hw hM0 hM hB0 hb
  show Calls Try.prog 90 #[.pointer (some ⟨p, 0, none⟩), .agg #[.int .i64 x, .int .u64 (m : Int), .int .i64 z]] W _
  go_enter Try.func90, Try.ntmps90
  go_wp2_with fail
  refine HU.out.mono ?_; rintro e w1 ⟨rfl, v1, hM1, hF1⟩
  have hb1 := (OM.fr HM0.out hF1).blk HBL.out (by have := HM.out.lt; omega) (by decide)
  have d1 := hb1.cell (i := 1) rfl
  have hl1 : (bs ++ uv n).length ≤ 549755813888 + 10 := by have := uv_len10 hnb; rw [List.length_append]; omega
  have HU2 := Lib.hid (out_uint w1 base p v1 (bs ++ uv n) m hmb (by omega) hM1)
  have HF1 := Lib.hid hF1; have HB1 := Lib.hid hb1; have HM1 := Lib.hid hM1
  clear hM1 hF1 hb1 HU c0 c1 c2
  go_wp2_with fail
  refine HU2.out.mono ?_; rintro e w2 ⟨rfl, v2, hM2, hF2⟩
  have hb2 := (OM.fr HM1.out hF2).blk HB1.out (by have := HM.out.lt; omega) (by decide)
  have e2 := hb2.cell (i := 2) rfl
  have hl2 : (bs ++ uv n ++ uv m).length ≤ 1099511627776 := by have := uv_len10 hmb; rw [List.length_append]; omega
  have HI := Lib.hid (out_int w2 base p v2 (bs ++ uv n ++ uv m) z hgz hl2 hM2)
  have HF2 := Lib.hid (HF1.out.trans hF2)
  clear hM2 hF2 hb2 HU2 d1
  go_wp2_with fail
  refine HI.out.mono ?_; rintro e w3 ⟨rfl, v3, hM3, hF3⟩
  have HR := Lib.hid (And.intro hM3 ((RFr.ofBelow p v HB0.out).trans (HF2.out.trans hF3)))
  clear hM3 hF3 HI
  go_wp2_with fail
  go_end0
  exact ⟨rfl, v3, by rw [← List.append_assoc, ← List.append_assoc]; exact HR.out.1, HR.out.2⟩
/-- a change is read -/
def takeC (s : St) : St × Ch := ((takeI (takeU (takeU s).1).1).1, (if (takeU s).2 < 64 then ((takeU s).2 : Int) else -1, ((takeU (takeU s).1).2 : Int), (takeI (takeU (takeU s).1).1).2))
theorem takeU_bound {s : St} (hb : ∀ x ∈ s.1, 0 ≤ x ∧ x < 256) : (takeU s).2 < 18446744073709551616 := takeU_lt hb
set_option maxRecDepth 100000 in
set_option maxHeartbeats 4000000 in
theorem takeC1 : OneT evC takeC 85 #[] where
  enters := enters_of Try.func85 (by kernel_rfl) rfl
  calls W n₀ p s hb hl hM := by
    have hbt := takeU_mem hb
    have hlt : (takeU s).1.1.length ≤ 1099511627776 := Nat.le_trans (takeU_len s) hl
    have hbt2 := takeU_mem hbt
    have hlt2 : (takeU (takeU s).1).1.1.length ≤ 1099511627776 := Nat.le_trans (takeU_len _) hlt
    have hnb := takeU_bound hb
    have h0 : IM (W.alloc (.cells #[.int .i64 0, .int .u64 0, .int .i64 0] tC)) n₀ p s := hM.grown (World.grownBy_alloc W _ none) (by simp)
    have bl := Blk.new W [.int .i64 0, .int .u64 0, .int .i64 0] tC
    have hpn := hM.1
    have hnW := hM.2.1
    have hu := in_uint _ n₀ p s hb hl h0
    unfold takeC
    obtain ⟨t, n, hT⟩ : ∃ t n, takeU s = (t, n) := ⟨_, _, rfl⟩
    rw [hT] at hu hbt hlt hbt2 hlt2 hnb ⊢
    dsimp only at hu hbt hlt hbt2 hlt2 hnb ⊢
    have hu2 := fun (w : World) (hw : IM w n₀ p t) => in_uint w n₀ p t hbt hlt hw
    obtain ⟨t2, m, hT2⟩ : ∃ t2 m, takeU t = (t2, m) := ⟨_, _, rfl⟩
    simp only [hT2] at hu2 hbt2 hlt2 ⊢
    have hi := fun (w : World) (hw : IM w n₀ p t2) => in_int w n₀ p t2 hbt2 hlt2 hw
    obtain ⟨t3, a, hT3⟩ : ∃ t3 a, takeI t2 = (t3, a) := ⟨_, _, rfl⟩
    simp only [hT3] at hi ⊢
    have HU := Lib.hid hu; have HBL := Lib.hid bl; have HU2 := Lib.hid hu2; have HI := Lib.hid hi
    clear hu hM h0 bl hT hu2 hi hT2 hT3
    show Calls Try.prog 85 #[.pointer (some ⟨p, 0, none⟩)] W _
    by_cases h64 : n < 64
    · have g64 : (n : Int) < 64 := by omega
      rw [if_pos h64]
      go_enter Try.func85, Try.ntmps85
      go_wp2_with fail
      refine HU.out.mono ?_; rintro e w1 ⟨rfl, hM1, hg1⟩
      have hb1 := HBL.out.kept hg1 (by simp; omega)
      have HG1 := Lib.hid hg1; have HB1 := Lib.hid hb1; have HM1 := Lib.hid hM1
      clear hM1 hg1 hb1
      go_wp2_with fail
      refine (HU2.out w1 HM1.out).mono ?_; rintro e w2 ⟨rfl, hM2, hg2⟩
      have hb2 := HB1.out.kept hg2 (by simp; omega)
      have HG2 := Lib.hid (grown_trans HG1.out hg2); have HB2 := Lib.hid hb2; have HM2 := Lib.hid hM2
      clear hM2 hg2 hb2
      go_wp2_with fail
      refine (HI.out w2 HM2.out).mono ?_; rintro e w3 ⟨rfl, hM3, hg3⟩
      have hb3 := HB2.out.kept hg3 (by simp; omega)
      have hG3 := grown_trans HG2.out hg3
      have hb4 := Blk.new w3 [.int .i64 (-1), .int .u64 (m : Int), .int .i64 a] tC
      have hb5 := hb3.alloc (.cells #[.int .i64 (-1), .int .u64 (m : Int), .int .i64 a] tC)
      have hlt3 := hb3.lt
      have e0 := hb3.cell (i := 0) rfl
      have e1 := hb3.cell (i := 1) rfl
      have e2 := hb3.cell (i := 2) rfl
      have g0 := hb3.frozen 0
      have g1 := hb3.frozen 1
      have g2 := hb3.frozen 2
      have HM4 := Lib.hid hM3
      have HG4 := Lib.hid (grown_trans (World.grownBy_alloc W (.cells #[.int .i64 0, .int .u64 0, .int .i64 0] tC) (some p)) hG3)
      have HF := Lib.hid hb3
      clear hM3 hg3 hb3 hG3 hb4 hb5
      go_wp2_with fail
      have hE := (((HF.out.set 0 (.int .i64 ((n : Int)))).set 1 (.int .u64 (m : Int))).set 2 (.int .i64 a)).alloc (.cells #[.int .i64 ((n : Int)), .int .u64 (m : Int), .int .i64 a] tC)
      refine bodyPost_ret (results_cell_row rfl _ _ W.heap.size tC _ (0, 0) _ rfl hE Try.underlying93 rfl (by kernel_rfl)) rfl ?_
      exact ⟨rfl, (((HM4.out.grown (grownBy_setAt _ _ 0 _) (by rintro r ⟨rfl⟩; exact hnW)).grown (grownBy_setAt _ _ 1 _) (by rintro r ⟨rfl⟩; exact hnW)).grown (grownBy_setAt _ _ 2 _) (by rintro r ⟨rfl⟩; exact hnW)).grown (World.grownBy_alloc _ _ none) (by simp),
        grown_own (grown_own (grown_own (grown_own HG4.out (grownBy_setAt _ _ 0 _) (by rintro r ⟨rfl⟩; exact Nat.le_refl _)) (grownBy_setAt _ _ 1 _) (by rintro r ⟨rfl⟩; exact Nat.le_refl _)) (grownBy_setAt _ _ 2 _) (by rintro r ⟨rfl⟩; exact Nat.le_refl _)) (World.grownBy_alloc _ _ none) (by simp)⟩
    · have g64 : ¬ (n : Int) < 64 := by omega
      rw [if_neg h64]
      go_enter Try.func85, Try.ntmps85
      go_wp2_with fail
      refine HU.out.mono ?_; rintro e w1 ⟨rfl, hM1, hg1⟩
      have hb1 := HBL.out.kept hg1 (by simp; omega)
      have HG1 := Lib.hid hg1; have HB1 := Lib.hid hb1; have HM1 := Lib.hid hM1
      clear hM1 hg1 hb1
      go_wp2_with fail
      refine (HU2.out w1 HM1.out).mono ?_; rintro e w2 ⟨rfl, hM2, hg2⟩
      have hb2 := HB1.out.kept hg2 (by simp; omega)
      have HG2 := Lib.hid (grown_trans HG1.out hg2); have HB2 := Lib.hid hb2; have HM2 := Lib.hid hM2
      clear hM2 hg2 hb2
      go_wp2_with fail
      refine (HI.out w2 HM2.out).mono ?_; rintro e w3 ⟨rfl, hM3, hg3⟩
      have hb3 := HB2.out.kept hg3 (by simp; omega)
      have hG3 := grown_trans HG2.out hg3
      have hb4 := Blk.new w3 [.int .i64 (-1), .int .u64 (m : Int), .int .i64 a] tC
      have hb5 := hb3.alloc (.cells #[.int .i64 (-1), .int .u64 (m : Int), .int .i64 a] tC)
      have hlt3 := hb3.lt
      have e0 := hb3.cell (i := 0) rfl
      have e1 := hb3.cell (i := 1) rfl
      have e2 := hb3.cell (i := 2) rfl
      have g0 := hb3.frozen 0
      have g1 := hb3.frozen 1
      have g2 := hb3.frozen 2
      have HM4 := Lib.hid hM3
      have HG4 := Lib.hid (grown_trans (World.grownBy_alloc W (.cells #[.int .i64 0, .int .u64 0, .int .i64 0] tC) (some p)) hG3)
      have HF := Lib.hid hb3
      clear hM3 hg3 hb3 hG3 hb4 hb5
      go_wp2_with fail
      have hE := (((HF.out.set 0 (.int .i64 (-1))).set 1 (.int .u64 (m : Int))).set 2 (.int .i64 a)).alloc (.cells #[.int .i64 (-1), .int .u64 (m : Int), .int .i64 a] tC)
      refine bodyPost_ret (results_cell_row rfl _ _ W.heap.size tC _ (0, 0) _ rfl hE Try.underlying93 rfl (by kernel_rfl)) rfl ?_
      exact ⟨rfl, (((HM4.out.grown (grownBy_setAt _ _ 0 _) (by rintro r ⟨rfl⟩; exact hnW)).grown (grownBy_setAt _ _ 1 _) (by rintro r ⟨rfl⟩; exact hnW)).grown (grownBy_setAt _ _ 2 _) (by rintro r ⟨rfl⟩; exact hnW)).grown (World.grownBy_alloc _ _ none) (by simp),
        grown_own (grown_own (grown_own (grown_own HG4.out (grownBy_setAt _ _ 0 _) (by rintro r ⟨rfl⟩; exact Nat.le_refl _)) (grownBy_setAt _ _ 1 _) (by rintro r ⟨rfl⟩; exact Nat.le_refl _)) (grownBy_setAt _ _ 2 _) (by rintro r ⟨rfl⟩; exact Nat.le_refl _)) (World.grownBy_alloc _ _ none) (by simp)⟩
  sub s := by
    obtain ⟨k1, h1⟩ := takeU_sub (s := s)
    obtain ⟨k2, h2⟩ := takeU_sub (s := (takeU s).1)
    obtain ⟨k3, h3⟩ := takeU_sub (s := (takeU (takeU s).1).1)
    refine ⟨k1 + k2 + k3, ?_⟩
    show (takeU (takeU (takeU s).1).1).1.1 = _
    rw [h3, h2, h1, List.drop_drop, List.drop_drop]
    first | rfl | (congr 1; omega)
/-- the slice v reads as changes -/
def PC (W : World) (v : Value) (cs : List Ch) : Prop := ∃ A c, v = .slice A cs.length c ∧ ∀ (i : Nat) q, cs[i]? = some q → ∃ b off, A = some ⟨b, off, none⟩ ∧ b < W.heap.size ∧ W.cell? ⟨b, off + i * 3, none⟩ = some (.int .i64 q.1) ∧ W.cell? ⟨b, off + i * 3 + 1, none⟩ = some (.int .u64 q.2.1) ∧ W.cell? ⟨b, off + i * 3 + 2, none⟩ = some (.int .i64 q.2.2)
theorem PC.below {W W' : World} {v : Value} {cs : List Ch} (h : PC W v cs) (hb : Below W.heap.size W W') : PC W' v cs := by
  obtain ⟨A, c, rfl, h1⟩ := h
  refine ⟨A, c, rfl, fun i q hq => ?_⟩
  obtain ⟨b, off, e, hlt, c0, c1, c2⟩ := h1 i q hq
  exact ⟨b, off, e, Nat.lt_of_lt_of_le hlt hb.size, (hb.cell (p := ⟨b, off + i * 3, none⟩) hlt).trans c0, (hb.cell (p := ⟨b, off + i * 3 + 1, none⟩) hlt).trans c1, (hb.cell (p := ⟨b, off + i * 3 + 2, none⟩) hlt).trans c2⟩
theorem pc_own {W : World} {B : Nat} {v : Value} {cs : List Ch} (h : W.ownsRow B tC 3 v cs.length (cellsOf cP3 cs)) : PC W v cs := by
  rcases h.2 with ⟨rfl, h0⟩ | ⟨g, cap, cur, rfl, h2, h3, h4, h5, h6, h7⟩
  · have : cs = [] := List.eq_nil_of_length_eq_zero h0
    subst this
    exact ⟨none, 0, rfl, fun i q hq => by simp at hq⟩
  · have hb : Blk W g tC cur.toList := by unfold Blk; rw [Array.toArray_toList]; exact h3
    refine ⟨some ⟨g, 0, none⟩, cap, rfl, fun i q hq => ?_⟩
    have hi : i < cs.length := (List.getElem?_eq_some_iff.1 hq).1
    have hgd : cs.getD i dC = q := by rw [List.getD_eq_getElem?_getD, hq]; rfl
    have at_ : ∀ j, j < 3 → cur.toList[i * 3 + j]? = (cP3 q)[j]? := fun j hj => by
      have h8 := cellsOf_at cP3_length cs dC (i := i) (j := j) hi hj
      rw [hgd, ← h7, List.getElem?_take, if_pos (by omega)] at h8
      exact h8
    have k0 := hb.cell (i := i * 3) (by have := at_ 0 (by omega); rw [Nat.add_zero] at this; rw [this]; rfl)
    have k1 := hb.cell (i := i * 3 + 1) (by rw [at_ 1 (by omega)]; rfl)
    have k2 := hb.cell (i := i * 3 + 2) (by rw [at_ 2 (by omega)]; rfl)
    exact ⟨g, 0, rfl, hb.lt, by rw [Nat.zero_add]; exact k0, by rw [Nat.zero_add]; exact k1, by rw [Nat.zero_add]; exact k2⟩
theorem PC.at {W : World} {v : Value} {cs : List Ch} (h : PC W v cs) {i : Nat} {q : Ch} (hq : cs[i]? = some q) : ∃ b off c, v = .slice (some ⟨b, off, none⟩) cs.length c ∧ b < W.heap.size ∧ W.cell? ⟨b, off + i * 3, none⟩ = some (.int .i64 q.1) ∧ W.cell? ⟨b, off + i * 3 + 1, none⟩ = some (.int .u64 q.2.1) ∧ W.cell? ⟨b, off + i * 3 + 2, none⟩ = some (.int .i64 q.2.2) := by
  obtain ⟨A, c, rfl, h1⟩ := h
  obtain ⟨b, off, rfl, hlt, c0, c1, c2⟩ := h1 i q hq
  exact ⟨b, off, c, rfl, hlt, c0, c1, c2⟩
set_option maxRecDepth 100000 in
set_option maxHeartbeats 4000000 in
/-- slices.Values gives them all -/
theorem vals_gives (B1 : Nat) (v : Value) (zs : List Ch) (hz : zs.length ≤ 1073741824) :
    GivesC 115 #[.pointer (some ⟨B1, 0, none⟩)] LisTs (fun W => W.cell? ⟨B1, 0, none⟩ = some v ∧ PC W v zs) (fun W => W.cell? ⟨B1, 0, none⟩ = some v ∧ PC W v zs) zs := by
  refine ⟨enters_of Try.func115 (by kernel_rfl) rfl, fun n bnd Inv hN hD hO => ?_⟩
  intro l Rc JX W1 hRc hJX hR0 hS0 hY
  obtain ⟨hbw, ⟨c1, hpc⟩, hI0⟩ := hS0
  refine callsIn_of_wp Try.func115 rfl trivial ?_ rfl
  simp only [Try.ntmps115, List.size_toArray, List.length_cons, List.length_nil, Nat.reduceAdd, Nat.reduceSub, Array.replicate_succ, Array.replicate_zero, List.push_toArray, List.append_toArray, List.nil_append, List.cons_append]
  obtain ⟨A, c, rfl, -⟩ := id hpc
  obtain ⟨n1, hn1⟩ : ∃ n1, W1.heap.size = n1 := ⟨_, rfl⟩
  rw [hn1] at hbw hRc hJX hY
  have HN := Lib.hid hN; have HO := Lib.hid hO; have HRC := Lib.hid hRc; have HJX := Lib.hid hJX; have HY := Lib.hid hY; have HZ := Lib.hid hn1
  clear hpc hN hD hO hRc hJX hY hn1
  gi_wp2_with fail
  clear c1
  gi_loopw [7] (fun i wr => ∃ k : Nat, k ≤ zs.length ∧ i = .int .i64 k ∧ Rc wr ∧ Inv k wr ∧ n1 ≤ wr.heap.size) (fun i _ => zs.length - (intOf i).toNat)
  case atStart => exact ⟨0, Nat.zero_le _, rfl, hR0, hI0, by have := HZ.out; omega⟩
  case round =>
    obtain ⟨k, hk, rfl, hr, hi, hsz⟩ := hrel
    have k0 : (0 : Int) ≤ (k : Int) := Int.natCast_nonneg _
    have k9 : (k : Int) ≤ 9223372036854775807 := by omega
    by_cases hlt : k < zs.length
    · have kl : (k : Int) < (zs.length : Int) := by omega
      obtain ⟨⟨x, y, z⟩, hx⟩ : ∃ x, zs[k] = x := ⟨_, rfl⟩
      have hx2 : zs[k]? = some (x, y, z) := by rw [List.getElem?_eq_getElem hlt, hx]
      have hgd : zs.getD k dC = (x, y, z) := by rw [List.getD_eq_getElem?_getD, hx2]; rfl
      obtain ⟨b3, off3, c4, e1, hlb, r0, r1, r2⟩ := (HN.out _ _ hi).2.at hx2
      obtain ⟨rfl, rfl⟩ : A = some ⟨b3, off3, none⟩ ∧ c = c4 := by injection e1 with e1 e2 e3; exact ⟨e1, e3⟩
      simp only at r0 r1 r2
      have hal : Below wr.heap.size wr (wr.alloc (.cells #[.int .i64 x, .int .u64 y, .int .i64 z] tC)) := (Below.refl _ wr).alloc (Nat.le_refl _) _
      have hia : Inv k (wr.alloc (.cells #[.int .i64 x, .int .u64 y, .int .i64 z] tC)) := HO.out k bnd (Nat.le_refl _) () wr _ none hi (World.grownBy_alloc wr _ none) (fun r e => by cases e)
      have hra : Rc (wr.alloc (.cells #[.int .i64 x, .int .u64 y, .int .i64 z] tC)) := HRC.out _ _ hr (KU.grown (World.grownBy_alloc wr _ none) (fun r e => by cases e))
      have hya := HY.out k _ ⟨hlt, hia⟩ hra (Nat.le_trans hsz hal.size)
      rw [hgd] at hya
      obtain ⟨fn, tmps, assign, body, hy, hRn⟩ := hya
      have HRN := Lib.hid hRn; have HSZ := Lib.hid (Nat.le_trans hsz hal.size)
      unfold evC at hy
      dsimp only at hy
      clear hx hx2 hgd e1 hal hia hra hRn hi hr
      gi_wp2_with fail
      refine ⟨fun h => (by cases h), ?_⟩
      refine HRN.out.mono ?_
      clear hy
      rintro e W3 ⟨hfy, (⟨rfl, hi3, hr3⟩ | ⟨rfl, hJ⟩)⟩
      · gi_wp2_with fail
        go_roundw
        case rel => exact ⟨k + 1, by omega, by simp, hr3, hi3, Nat.le_trans HSZ.out hfy.1.size⟩
        case measure => simp [intOf]; omega
      · gi_wp2_with fail
        refine bodyPost_ret (results_none rfl _ _ _) rfl ?_
        exact ⟨⟨_, rfl⟩, .inr hJ⟩
    · obtain rfl : k = zs.length := by omega
      gi_wp2_with fail
      go_end0
      exact ⟨⟨_, rfl⟩, .inl ⟨hi, hr⟩⟩
theorem values_any (W : World) (A : Option Addr) (n c : Nat) :
    Calls Try.prog 89 #[.slice A n c] W fun e w' => e = .returned (.func (.func 115) #[] #[.pointer (some ⟨W.heap.size, 0, none⟩)]) ∧ w' = W.alloc (.cells #[.slice A n c] 80) := by
  go_enter Try.func89, Try.ntmps89
  go_wp2_with fail
  go_ret
  exact ⟨rfl, rfl⟩
def wrL (cs : List Ch) : List Int := uv cs.length ++ cs.flatMap wrC
set_option maxRecDepth 100000 in
set_option maxHeartbeats 4000000 in
/-- delta.Write -/
theorem write_any (W : World) (v : Value) (cs : List Ch) (h : PC W v cs) (hg : ∀ q ∈ cs, goodC q) (hl : cs.length ≤ 1000000) :
    Calls Try.prog 52 #[v] W fun e w' => ∃ o, e = .returned o ∧ w'.ownsRow W.heap.size 5 1 o (wrL cs).length (nums .u8 (wrL cs)) ∧ Below W.heap.size W w' := by
  have H := Lib.hid h
  obtain ⟨A, c, rfl, -⟩ := h
  go_enter Try.func52, Try.ntmps52
  go_wp2_with fail
  refine (values_any _ _ _ _).mono ?_; rintro e w2 ⟨rfl, hw2⟩
  have hal : Below W.heap.size W w2 := by rw [hw2]; exact ((Below.refl _ W).alloc (Nat.le_refl _) _).alloc (by simp) _
  have hb1 : Blk w2 W.heap.size 136 [.slice none 0 0] := by rw [hw2]; exact (Blk.new W [.slice none 0 0] 136).alloc _
  have hb2 : Blk w2 (W.heap.size + 1) 80 [.slice A cs.length c] := by rw [hw2]; exact Blk.new2 W _ [.slice A cs.length c] 80
  have hM0 : OM w2 W.heap.size W.heap.size (.slice none 0 0) [] := ⟨Nat.le_refl _, hb1, World.ownsRow_nil _ _ _ _⟩
  have HAL := Lib.hid hal; have HB2 := Lib.hid hb2; have HM0 := Lib.hid hM0
  simp only [World.size_alloc]
  clear hw2 hal hb1 hb2 hM0
  have hG := vals_gives (W.heap.size + 1) (.slice A cs.length c) cs (by omega)
  have hstn : ∀ W', Below w2.heap.size w2 W' → W'.cell? ⟨W.heap.size + 1, 0, none⟩ = some (.slice A cs.length c) ∧ PC W' (.slice A cs.length c) cs := fun W' hb => ⟨(HB2.out.belowS hb).cell rfl, (H.out.below HAL.out).below hb⟩
  have PU := put_any w2 W.heap.size W.heap.size (.slice none 0 0) [] 90 #[] putC _ _ cs _ _ hG hstn hstn hg (by omega) (by simp) HM0.out
  have HPU := Lib.hid PU
  clear hG hstn PU
  go_wp2_with fail
  refine HPU.out.mono ?_; rintro e w3 ⟨rfl, v3, hM3, hF3⟩
  rw [List.nil_append] at hM3
  have hB3 : Below W.heap.size W w3 := HAL.out.trans (HM0.out.belowB hF3)
  have hfl := flat_len (wr := wrC) (m := 30) cs (fun z hz' => wrC_len (hg z hz'))
  have hul := uv_len10 (n := cs.length) (by omega)
  have hsm : (wrL cs).length ≤ 1099511627776 := by unfold wrL; rw [List.length_append]; omega
  have hM3' : OM w3 W.heap.size W.heap.size v3 (wrL cs) := hM3
  have HM3 := Lib.hid hM3'; have HB3 := Lib.hid hB3
  clear hM3 hM3' hF3 hB3 hfl hul
  go_wp2_with fail
  refine (out_done w3 W.heap.size W.heap.size v3 (wrL cs) hsm HM3.out).mono ?_; rintro e w4 ⟨A4, c4, rfl, ho4, hb4⟩
  have HR := Lib.hid (And.intro (own_weaken ho4 HB3.out.size) (HB3.out.trans (hb4.mono HB3.out.size)))
  clear ho4 hb4
  go_wp2_with fail
  exact bodyPost_ret (v := .slice A4 (wrL cs).length c4) (by simp [results, Try.f52, go_sem]) rfl ⟨_, rfl, HR.out.1, HR.out.2⟩
end Go.Proofs.Ytnlhgnioedalpaa.Cod
