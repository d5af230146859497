/- DelP, DelQ, DelD, DelL, DelS, laid together. -/
import Derived.Test.YtnlhgnioedalpaaGr12
import Derived.Test.YtnlhgnioedalpaaGr10

/- delta: changes are written and read. -/
set_option linter.unusedSimpArgs false
set_option linter.unusedVariables false
namespace Go.Proofs.Ytnlhgnioedalpaa.Cod
open Go.RowKit Go.Shelf Go.Proofs.YtnlhgnioedalpaaW.PrintWords Go.Proofs.Ytnlhgnioedalpaa.CodL
open Go.Proofs.Ytnlhgnioedalpaa.Pri (Ch dC tF tC)
attribute [local go_sem] Oper.semAt_some

set_option maxRecDepth 100000 in
set_option maxHeartbeats 4000000 in
/-- a change is written -/
theorem putC : OneP evC wrC goodC 90 #[] := by
  refine ⟨enters_of Try.func90 (by kernel_rfl) rfl, fun q W base p v bs hg hl hM => ?_⟩
  obtain ⟨x, y, z⟩ := q
  obtain ⟨hgx, hgy, hgz⟩ := hg
  dsimp only at hgx hgy hgz
  obtain ⟨m, hm⟩ : ∃ m : Nat, y = (m : Int) := ⟨y.toNat, by omega⟩
  subst hm
  have hmb : m < 18446744073709551616 := by omega
  have hB0 : Below W.heap.size W (W.alloc (.cells #[.int .i64 x, .int .u64 (m : Int), .int .i64 z] tC)) := (Below.refl _ W).alloc (Nat.le_refl _) _
  have hb := Blk.new W [.int .i64 x, .int .u64 (m : Int), .int .i64 z] tC
  have hM0 := OM.below hM hB0
  have hx2 := hgx.2
  have hxn : IntKind.u64.wrap (max x 0) = (((max x 0).toNat : Nat) : Int) := by rw [IntKind.wrap_u64]; omega
  obtain ⟨n, hn⟩ : ∃ n, (max x 0).toNat = n := ⟨_, rfl⟩
  have hw : wrC (x, (m : Int), z) = uv n ++ uv m ++ uv (zz z) := by unfold wrC; rw [hn]; simp
  rw [hw]
  rw [hn] at hxn
  have hnb : n < 18446744073709551616 := by omega
  have HU := Lib.hid (out_uint _ base p v bs n hnb (by omega) hM0)
  have HM := Lib.hid hM; have HB0 := Lib.hid hB0; have HBL := Lib.hid hb; have HM0 := Lib.hid hM0
  have c0 := hb.cell (i := 0) rfl
  have c1 := hb.cell (i := 1) rfl
  have c2 := hb.cell (i := 2) rfl
  clear hn hw hM0 hM hB0 hb
  show Calls Try.prog 90 #[.pointer (some ⟨p, 0, none⟩), .agg #[.int .i64 x, .int .u64 (m : Int), .int .i64 z]] W _
  go_enter Try.func90, Try.ntmps90
  go_wp2_with fail
  refine HU.out.mono ?_; rintro e w1 ⟨rfl, v1, hM1, hF1⟩
  have hb1 := (OM.fr HM0.out hF1).blk HBL.out (by have := HM.out.lt; omega) (by decide)
  have d1 := hb1.cell (i := 1) rfl
  have hl1 : (bs ++ uv n).length ≤ 549755813888 + 10 := by have := uv_len10 hnb; rw [List.length_append]; omega
  have HU2 := Lib.hid (out_uint w1 base p v1 (bs ++ uv n) m hmb (by omega) hM1)
  have HF1 := Lib.hid hF1; have HB1 := Lib.hid hb1; have HM1 := Lib.hid hM1
  clear hM1 hF1 hb1 HU c0 c1 c2
  go_wp2_with fail
  refine HU2.out.mono ?_; rintro e w2 ⟨rfl, v2, hM2, hF2⟩
  have hb2 := (OM.fr HM1.out hF2).blk HB1.out (by have := HM.out.lt; omega) (by decide)
  have e2 := hb2.cell (i := 2) rfl
  have hl2 : (bs ++ uv n ++ uv m).length ≤ 1099511627776 := by have := uv_len10 hmb; rw [List.length_append]; omega
  have HI := Lib.hid (out_int w2 base p v2 (bs ++ uv n ++ uv m) z hgz hl2 hM2)
  have HF2 := Lib.hid (HF1.out.trans hF2)
  clear hM2 hF2 hb2 HU2 d1
  go_wp2_with fail
  refine HI.out.mono ?_; rintro e w3 ⟨rfl, v3, hM3, hF3⟩
  have HR := Lib.hid (And.intro hM3 ((RFr.ofBelow p v HB0.out).trans (HF2.out.trans hF3)))
  clear hM3 hF3 HI
  go_wp2_with fail
  go_end0
  exact ⟨rfl, v3, by rw [← List.append_assoc, ← List.append_assoc]; exact HR.out.1, HR.out.2⟩
/-- a change is read -/
def takeC (s : St) : St × Ch := ((takeI (takeU (takeU s).1).1).1, (if (takeU s).2 < 64 then ((takeU s).2 : Int) else -1, ((takeU (takeU s).1).2 : Int), (takeI (takeU (takeU s).1).1).2))
theorem takeU_bound {s : St} (hb : ∀ x ∈ s.1, 0 ≤ x ∧ x < 256) : (takeU s).2 < 18446744073709551616 := takeU_lt hb
set_option maxRecDepth 100000 in
set_option maxHeartbeats 4000000 in
theorem takeC1 : OneT evC takeC 85 #[] where
  enters := enters_of Try.func85 (by kernel_rfl) rfl
  calls W n₀ p s hb hl hM := by
    have hbt := takeU_mem hb
    have hlt : (takeU s).1.1.length ≤ 1099511627776 := Nat.le_trans (takeU_len s) hl
    have hbt2 := takeU_mem hbt
    have hlt2 : (takeU (takeU s).1).1.1.length ≤ 1099511627776 := Nat.le_trans (takeU_len _) hlt
    have hnb := takeU_bound hb
    have h0 : IM (W.alloc (.cells #[.int .i64 0, .int .u64 0, .int .i64 0] tC)) n₀ p s := hM.grown (World.grownBy_alloc W _ none) (by simp)
    have bl := Blk.new W [.int .i64 0, .int .u64 0, .int .i64 0] tC
    have hpn := hM.1
    have hnW := hM.2.1
    have hu := in_uint _ n₀ p s hb hl h0
    unfold takeC
    obtain ⟨t, n, hT⟩ : ∃ t n, takeU s = (t, n) := ⟨_, _, rfl⟩
    rw [hT] at hu hbt hlt hbt2 hlt2 hnb ⊢
    dsimp only at hu hbt hlt hbt2 hlt2 hnb ⊢
    have hu2 := fun (w : World) (hw : IM w n₀ p t) => in_uint w n₀ p t hbt hlt hw
    obtain ⟨t2, m, hT2⟩ : ∃ t2 m, takeU t = (t2, m) := ⟨_, _, rfl⟩
    simp only [hT2] at hu2 hbt2 hlt2 ⊢
    have hi := fun (w : World) (hw : IM w n₀ p t2) => in_int w n₀ p t2 hbt2 hlt2 hw
    obtain ⟨t3, a, hT3⟩ : ∃ t3 a, takeI t2 = (t3, a) := ⟨_, _, rfl⟩
    simp only [hT3] at hi ⊢
    have HU := Lib.hid hu; have HBL := Lib.hid bl; have HU2 := Lib.hid hu2; have HI := Lib.hid hi
    clear hu hM h0 bl hT hu2 hi hT2 hT3
    show Calls Try.prog 85 #[.pointer (some ⟨p, 0, none⟩)] W _
    by_cases h64 : n < 64
    · have g64 : (n : Int) < 64 := by omega
      rw [if_pos h64]
      go_enter Try.func85, Try.ntmps85
      go_wp2_with fail
      refine HU.out.mono ?_; rintro e w1 ⟨rfl, hM1, hg1⟩
      have hb1 := HBL.out.kept hg1 (by simp; omega)
      have HG1 := Lib.hid hg1; have HB1 := Lib.hid hb1; have HM1 := Lib.hid hM1
      clear hM1 hg1 hb1
      go_wp2_with fail
      refine (HU2.out w1 HM1.out).mono ?_; rintro e w2 ⟨rfl, hM2, hg2⟩
      have hb2 := HB1.out.kept hg2 (by simp; omega)
      have HG2 := Lib.hid (grown_trans HG1.out hg2); have HB2 := Lib.hid hb2; have HM2 := Lib.hid hM2
      clear hM2 hg2 hb2
      go_wp2_with fail
      refine (HI.out w2 HM2.out).mono ?_; rintro e w3 ⟨rfl, hM3, hg3⟩
      have hb3 := HB2.out.kept hg3 (by simp; omega)
      have hG3 := grown_trans HG2.out hg3
      have hb4 := Blk.new w3 [.int .i64 (-1), .int .u64 (m : Int), .int .i64 a] tC
      have hb5 := hb3.alloc (.cells #[.int .i64 (-1), .int .u64 (m : Int), .int .i64 a] tC)
      have hlt3 := hb3.lt
      have e0 := hb3.cell (i := 0) rfl
      have e1 := hb3.cell (i := 1) rfl
      have e2 := hb3.cell (i := 2) rfl
      have g0 := hb3.frozen 0
      have g1 := hb3.frozen 1
      have g2 := hb3.frozen 2
      have HM4 := Lib.hid hM3
      have HG4 := Lib.hid (grown_trans (World.grownBy_alloc W (.cells #[.int .i64 0, .int .u64 0, .int .i64 0] tC) (some p)) hG3)
      have HF := Lib.hid hb3
      clear hM3 hg3 hb3 hG3 hb4 hb5
      go_wp2_with fail
      have hE := (((HF.out.set 0 (.int .i64 ((n : Int)))).set 1 (.int .u64 (m : Int))).set 2 (.int .i64 a)).alloc (.cells #[.int .i64 ((n : Int)), .int .u64 (m : Int), .int .i64 a] tC)
      refine bodyPost_ret (results_cell_row rfl _ _ W.heap.size tC _ (0, 0) _ rfl hE Try.underlying93 rfl (by kernel_rfl)) rfl ?_
      exact ⟨rfl, (((HM4.out.grown (grownBy_setAt _ _ 0 _) (by rintro r ⟨rfl⟩; exact hnW)).grown (grownBy_setAt _ _ 1 _) (by rintro r ⟨rfl⟩; exact hnW)).grown (grownBy_setAt _ _ 2 _) (by rintro r ⟨rfl⟩; exact hnW)).grown (World.grownBy_alloc _ _ none) (by simp),
        grown_own (grown_own (grown_own (grown_own HG4.out (grownBy_setAt _ _ 0 _) (by rintro r ⟨rfl⟩; exact Nat.le_refl _)) (grownBy_setAt _ _ 1 _) (by rintro r ⟨rfl⟩; exact Nat.le_refl _)) (grownBy_setAt _ _ 2 _) (by rintro r ⟨rfl⟩; exact Nat.le_refl _)) (World.grownBy_alloc _ _ none) (by simp)⟩
    · have g64 : ¬ (n : Int) < 64 := by omega
      rw [if_neg h64]
      go_enter Try.func85, Try.ntmps85
      go_wp2_with fail
      refine HU.out.mono ?_; rintro e w1 ⟨rfl, hM1, hg1⟩
      have hb1 := HBL.out.kept hg1 (by simp; omega)
      have HG1 := Lib.hid hg1; have HB1 := Lib.hid hb1; have HM1 := Lib.hid hM1
      clear hM1 hg1 hb1
      go_wp2_with fail
      refine (HU2.out w1 HM1.out).mono ?_; rintro e w2 ⟨rfl, hM2, hg2⟩
      have hb2 := HB1.out.kept hg2 (by simp; omega)
      have HG2 := Lib.hid (grown_trans HG1.out hg2); have HB2 := Lib.hid hb2; have HM2 := Lib.hid hM2
      clear hM2 hg2 hb2
      go_wp2_with fail
      refine (HI.out w2 HM2.out).mono ?_; rintro e w3 ⟨rfl, hM3, hg3⟩
      have hb3 := HB2.out.kept hg3 (by simp; omega)
      have hG3 := grown_trans HG2.out hg3
      have hb4 := Blk.new w3 [.int .i64 (-1), .int .u64 (m : Int), .int .i64 a] tC
      have hb5 := hb3.alloc (.cells #[.int .i64 (-1), .int .u64 (m : Int), .int .i64 a] tC)
      have hlt3 := hb3.lt
      have e0 := hb3.cell (i := 0) rfl
      have e1 := hb3.cell (i := 1) rfl
      have e2 := hb3.cell (i := 2) rfl
      have g0 := hb3.frozen 0
      have g1 := hb3.frozen 1
      have g2 := hb3.frozen 2
      have HM4 := Lib.hid hM3
      have HG4 := Lib.hid (grown_trans (World.grownBy_alloc W (.cells #[.int .i64 0, .int .u64 0, .int .i64 0] tC) (some p)) hG3)
      have HF := Lib.hid hb3
      clear hM3 hg3 hb3 hG3 hb4 hb5
      go_wp2_with fail
      have hE := (((HF.out.set 0 (.int .i64 (-1))).set 1 (.int .u64 (m : Int))).set 2 (.int .i64 a)).alloc (.cells #[.int .i64 (-1), .int .u64 (m : Int), .int .i64 a] tC)
      refine bodyPost_ret (results_cell_row rfl _ _ W.heap.size tC _ (0, 0) _ rfl hE Try.underlying93 rfl (by kernel_rfl)) rfl ?_
      exact ⟨rfl, (((HM4.out.grown (grownBy_setAt _ _ 0 _) (by rintro r ⟨rfl⟩; exact hnW)).grown (grownBy_setAt _ _ 1 _) (by rintro r ⟨rfl⟩; exact hnW)).grown (grownBy_setAt _ _ 2 _) (by rintro r ⟨rfl⟩; exact hnW)).grown (World.grownBy_alloc _ _ none) (by simp),
        grown_own (grown_own (grown_own (grown_own HG4.out (grownBy_setAt _ _ 0 _) (by rintro r ⟨rfl⟩; exact Nat.le_refl _)) (grownBy_setAt _ _ 1 _) (by rintro r ⟨rfl⟩; exact Nat.le_refl _)) (grownBy_setAt _ _ 2 _) (by rintro r ⟨rfl⟩; exact Nat.le_refl _)) (World.grownBy_alloc _ _ none) (by simp)⟩
  sub s := by
    obtain ⟨k1, h1⟩ := takeU_sub (s := s)
    obtain ⟨k2, h2⟩ := takeU_sub (s := (takeU s).1)
    obtain ⟨k3, h3⟩ := takeU_sub (s := (takeU (takeU s).1).1)
    refine ⟨k1 + k2 + k3, ?_⟩
    show (takeU (takeU (takeU s).1).1).1.1 = _
    rw [h3, h2, h1, List.drop_drop, List.drop_drop]
    first | rfl | (congr 1; omega)
/-- the slice v reads as changes -/
def PC (W : World) (v : Value) (cs : List Ch) : Prop := ∃ A c, v = .slice A cs.length c ∧ ∀ (i : Nat) q, cs[i]? = some q → ∃ b off, A = some ⟨b, off, none⟩ ∧ b < W.heap.size ∧ W.cell? ⟨b, off + i * 3, none⟩ = some (.int .i64 q.1) ∧ W.cell? ⟨b, off + i * 3 + 1, none⟩ = some (.int .u64 q.2.1) ∧ W.cell? ⟨b, off + i * 3 + 2, none⟩ = some (.int .i64 q.2.2)
theorem PC.below {W W' : World} {v : Value} {cs : List Ch} (h : PC W v cs) (hb : Below W.heap.size W W') : PC W' v cs := by
  obtain ⟨A, c, rfl, h1⟩ := h
  refine ⟨A, c, rfl, fun i q hq => ?_⟩
  obtain ⟨b, off, e, hlt, c0, c1, c2⟩ := h1 i q hq
  exact ⟨b, off, e, Nat.lt_of_lt_of_le hlt hb.size, (hb.cell (p := ⟨b, off + i * 3, none⟩) hlt).trans c0, (hb.cell (p := ⟨b, off + i * 3 + 1, none⟩) hlt).trans c1, (hb.cell (p := ⟨b, off + i * 3 + 2, none⟩) hlt).trans c2⟩
theorem pc_own {W : World} {B : Nat} {v : Value} {cs : List Ch} (h : W.ownsRow B tC 3 v cs.length (cellsOf cP3 cs)) : PC W v cs := by
  rcases h.2 with ⟨rfl, h0⟩ | ⟨g, cap, cur, rfl, h2, h3, h4, h5, h6, h7⟩
  · have : cs = [] := List.eq_nil_of_length_eq_zero h0
    subst this
    exact ⟨none, 0, rfl, fun i q hq => by simp at hq⟩
  · have hb : Blk W g tC cur.toList := by unfold Blk; rw [Array.toArray_toList]; exact h3
    refine ⟨some ⟨g, 0, none⟩, cap, rfl, fun i q hq => ?_⟩
    have hi : i < cs.length := (List.getElem?_eq_some_iff.1 hq).1
    have hgd : cs.getD i dC = q := by rw [List.getD_eq_getElem?_getD, hq]; rfl
    have at_ : ∀ j, j < 3 → cur.toList[i * 3 + j]? = (cP3 q)[j]? := fun j hj => by
      have h8 := cellsOf_at cP3_length cs dC (i := i) (j := j) hi hj
      rw [hgd, ← h7, List.getElem?_take, if_pos (by omega)] at h8
      exact h8
    have k0 := hb.cell (i := i * 3) (by have := at_ 0 (by omega); rw [Nat.add_zero] at this; rw [this]; rfl)
    have k1 := hb.cell (i := i * 3 + 1) (by rw [at_ 1 (by omega)]; rfl)
    have k2 := hb.cell (i := i * 3 + 2) (by rw [at_ 2 (by omega)]; rfl)
    exact ⟨g, 0, rfl, hb.lt, by rw [Nat.zero_add]; exact k0, by rw [Nat.zero_add]; exact k1, by rw [Nat.zero_add]; exact k2⟩
theorem PC.at {W : World} {v : Value} {cs : List Ch} (h : PC W v cs) {i : Nat} {q : Ch} (hq : cs[i]? = some q) : ∃ b off c, v = .slice (some ⟨b, off, none⟩) cs.length c ∧ b < W.heap.size ∧ W.cell? ⟨b, off + i * 3, none⟩ = some (.int .i64 q.1) ∧ W.cell? ⟨b, off + i * 3 + 1, none⟩ = some (.int .u64 q.2.1) ∧ W.cell? ⟨b, off + i * 3 + 2, none⟩ = some (.int .i64 q.2.2) := by
  obtain ⟨A, c, rfl, h1⟩ := h
  obtain ⟨b, off, rfl, hlt, c0, c1, c2⟩ := h1 i q hq
  exact ⟨b, off, c, rfl, hlt, c0, c1, c2⟩
set_option maxRecDepth 100000 in
set_option maxHeartbeats 4000000 in
/-- slices.Values gives them all -/
theorem vals_gives (B1 : Nat) (v : Value) (zs : List Ch) (hz : zs.length ≤ 1073741824) :
    GivesC 115 #[.pointer (some ⟨B1, 0, none⟩)] LisTs (fun W => W.cell? ⟨B1, 0, none⟩ = some v ∧ PC W v zs) (fun W => W.cell? ⟨B1, 0, none⟩ = some v ∧ PC W v zs) zs := by
  refine ⟨enters_of Try.func115 (by kernel_rfl) rfl, fun n bnd Inv hN hD hO => ?_⟩
  intro l Rc JX W1 hRc hJX hR0 hS0 hY
  obtain ⟨hbw, ⟨c1, hpc⟩, hI0⟩ := hS0
  refine callsIn_of_wp Try.func115 rfl trivial ?_ rfl
  simp only [Try.ntmps115, List.size_toArray, List.length_cons, List.length_nil, Nat.reduceAdd, Nat.reduceSub, Array.replicate_succ, Array.replicate_zero, List.push_toArray, List.append_toArray, List.nil_append, List.cons_append]
  obtain ⟨A, c, rfl, -⟩ := id hpc
  obtain ⟨n1, hn1⟩ : ∃ n1, W1.heap.size = n1 := ⟨_, rfl⟩
  rw [hn1] at hbw hRc hJX hY
  have HN := Lib.hid hN; have HO := Lib.hid hO; have HRC := Lib.hid hRc; have HJX := Lib.hid hJX; have HY := Lib.hid hY; have HZ := Lib.hid hn1
  clear hpc hN hD hO hRc hJX hY hn1
  gi_wp2_with fail
  clear c1
  gi_loopw [7] (fun i wr => ∃ k : Nat, k ≤ zs.length ∧ i = .int .i64 k ∧ Rc wr ∧ Inv k wr ∧ n1 ≤ wr.heap.size) (fun i _ => zs.length - (intOf i).toNat)
  case atStart => exact ⟨0, Nat.zero_le _, rfl, hR0, hI0, by have := HZ.out; omega⟩
  case round =>
    obtain ⟨k, hk, rfl, hr, hi, hsz⟩ := hrel
    have k0 : (0 : Int) ≤ (k : Int) := Int.natCast_nonneg _
    have k9 : (k : Int) ≤ 9223372036854775807 := by omega
    by_cases hlt : k < zs.length
    · have kl : (k : Int) < (zs.length : Int) := by omega
      obtain ⟨⟨x, y, z⟩, hx⟩ : ∃ x, zs[k] = x := ⟨_, rfl⟩
      have hx2 : zs[k]? = some (x, y, z) := by rw [List.getElem?_eq_getElem hlt, hx]
      have hgd : zs.getD k dC = (x, y, z) := by rw [List.getD_eq_getElem?_getD, hx2]; rfl
      obtain ⟨b3, off3, c4, e1, hlb, r0, r1, r2⟩ := (HN.out _ _ hi).2.at hx2
      obtain ⟨rfl, rfl⟩ : A = some ⟨b3, off3, none⟩ ∧ c = c4 := by injection e1 with e1 e2 e3; exact ⟨e1, e3⟩
      simp only at r0 r1 r2
      have hal : Below wr.heap.size wr (wr.alloc (.cells #[.int .i64 x, .int .u64 y, .int .i64 z] tC)) := (Below.refl _ wr).alloc (Nat.le_refl _) _
      have hia : Inv k (wr.alloc (.cells #[.int .i64 x, .int .u64 y, .int .i64 z] tC)) := HO.out k bnd (Nat.le_refl _) () wr _ none hi (World.grownBy_alloc wr _ none) (fun r e => by cases e)
      have hra : Rc (wr.alloc (.cells #[.int .i64 x, .int .u64 y, .int .i64 z] tC)) := HRC.out _ _ hr (KU.grown (World.grownBy_alloc wr _ none) (fun r e => by cases e))
      have hya := HY.out k _ ⟨hlt, hia⟩ hra (Nat.le_trans hsz hal.size)
      rw [hgd] at hya
      obtain ⟨fn, tmps, assign, body, hy, hRn⟩ := hya
      have HRN := Lib.hid hRn; have HSZ := Lib.hid (Nat.le_trans hsz hal.size)
      unfold evC at hy
      dsimp only at hy
      clear hx hx2 hgd e1 hal hia hra hRn hi hr
      gi_wp2_with fail
      refine ⟨fun h => (by cases h), ?_⟩
      refine HRN.out.mono ?_
      clear hy
      rintro e W3 ⟨hfy, (⟨rfl, hi3, hr3⟩ | ⟨rfl, hJ⟩)⟩
      · gi_wp2_with fail
        go_roundw
        case rel => exact ⟨k + 1, by omega, by simp, hr3, hi3, Nat.le_trans HSZ.out hfy.1.size⟩
        case measure => simp [intOf]; omega
      · gi_wp2_with fail
        refine bodyPost_ret (results_none rfl _ _ _) rfl ?_
        exact ⟨⟨_, rfl⟩, .inr hJ⟩
    · obtain rfl : k = zs.length := by omega
      gi_wp2_with fail
      go_end0
      exact ⟨⟨_, rfl⟩, .inl ⟨hi, hr⟩⟩
theorem values_any (W : World) (A : Option Addr) (n c : Nat) :
    Calls Try.prog 89 #[.slice A n c] W fun e w' => e = .returned (.func (.func 115) #[] #[.pointer (some ⟨W.heap.size, 0, none⟩)]) ∧ w' = W.alloc (.cells #[.slice A n c] 80) := by
  go_enter Try.func89, Try.ntmps89
  go_wp2_with fail
  go_ret
  exact ⟨rfl, rfl⟩
def wrL (cs : List Ch) : List Int := uv cs.length ++ cs.flatMap wrC
set_option maxRecDepth 100000 in
set_option maxHeartbeats 4000000 in
/-- delta.Write -/
theorem write_any (W : World) (v : Value) (cs : List Ch) (h : PC W v cs) (hg : ∀ q ∈ cs, goodC q) (hl : cs.length ≤ 1000000) :
    Calls Try.prog 52 #[v] W fun e w' => ∃ o, e = .returned o ∧ w'.ownsRow W.heap.size 5 1 o (wrL cs).length (nums .u8 (wrL cs)) ∧ Below W.heap.size W w' := by
  have H := Lib.hid h
  obtain ⟨A, c, rfl, -⟩ := h
  go_enter Try.func52, Try.ntmps52
  go_wp2_with fail
  refine (values_any _ _ _ _).mono ?_; rintro e w2 ⟨rfl, hw2⟩
  have hal : Below W.heap.size W w2 := by rw [hw2]; exact ((Below.refl _ W).alloc (Nat.le_refl _) _).alloc (by simp) _
  have hb1 : Blk w2 W.heap.size 136 [.slice none 0 0] := by rw [hw2]; exact (Blk.new W [.slice none 0 0] 136).alloc _
  have hb2 : Blk w2 (W.heap.size + 1) 80 [.slice A cs.length c] := by rw [hw2]; exact Blk.new2 W _ [.slice A cs.length c] 80
  have hM0 : OM w2 W.heap.size W.heap.size (.slice none 0 0) [] := ⟨Nat.le_refl _, hb1, World.ownsRow_nil _ _ _ _⟩
  have HAL := Lib.hid hal; have HB2 := Lib.hid hb2; have HM0 := Lib.hid hM0
  simp only [World.size_alloc]
  clear hw2 hal hb1 hb2 hM0
  have hG := vals_gives (W.heap.size + 1) (.slice A cs.length c) cs (by omega)
  have hstn : ∀ W', Below w2.heap.size w2 W' → W'.cell? ⟨W.heap.size + 1, 0, none⟩ = some (.slice A cs.length c) ∧ PC W' (.slice A cs.length c) cs := fun W' hb => ⟨(HB2.out.belowS hb).cell rfl, (H.out.below HAL.out).below hb⟩
  have PU := put_any w2 W.heap.size W.heap.size (.slice none 0 0) [] 90 #[] putC _ _ cs _ _ hG hstn hstn hg (by omega) (by simp) HM0.out
  have HPU := Lib.hid PU
  clear hG hstn PU
  go_wp2_with fail
  refine HPU.out.mono ?_; rintro e w3 ⟨rfl, v3, hM3, hF3⟩
  rw [List.nil_append] at hM3
  have hB3 : Below W.heap.size W w3 := HAL.out.trans (HM0.out.belowB hF3)
  have hfl := flat_len (wr := wrC) (m := 30) cs (fun z hz' => wrC_len (hg z hz'))
  have hul := uv_len10 (n := cs.length) (by omega)
  have hsm : (wrL cs).length ≤ 1099511627776 := by unfold wrL; rw [List.length_append]; omega
  have hM3' : OM w3 W.heap.size W.heap.size v3 (wrL cs) := hM3
  have HM3 := Lib.hid hM3'; have HB3 := Lib.hid hB3
  clear hM3 hM3' hF3 hB3 hfl hul
  go_wp2_with fail
  refine (out_done w3 W.heap.size W.heap.size v3 (wrL cs) hsm HM3.out).mono ?_; rintro e w4 ⟨A4, c4, rfl, ho4, hb4⟩
  have HR := Lib.hid (And.intro (own_weaken ho4 HB3.out.size) (HB3.out.trans (hb4.mono HB3.out.size)))
  clear ho4 hb4
  go_wp2_with fail
  exact bodyPost_ret (v := .slice A4 (wrL cs).length c4) (by simp [results, Try.f52, go_sem]) rfl ⟨_, rfl, HR.out.1, HR.out.2⟩
end Go.Proofs.Ytnlhgnioedalpaa.Cod

/- delta: changes are read. -/
set_option linter.unusedSimpArgs false
set_option linter.unusedVariables false
namespace Go.Proofs.Ytnlhgnioedalpaa.Cod
open Go.RowKit Go.Shelf Go.Proofs.YtnlhgnioedalpaaW.PrintWords Go.Proofs.Ytnlhgnioedalpaa.CodL
open Go.Proofs.Ytnlhgnioedalpaa.Pri (Ch dC tF tC)
attribute [local go_sem] Oper.semAt_some

theorem neg_any (W : World) (x y z : Int) : Calls Try.prog 87 #[.agg #[.int .i64 x, .int .u64 y, .int .i64 z]] W fun e w' => e = .returned (.bool (decide (x < 0))) ∧ Below W.heap.size W w' := by
  have HB := Lib.hid (show Below W.heap.size W (W.alloc (.cells #[.int .i64 x, .int .u64 y, .int .i64 z] tC)) from (Below.refl _ W).alloc (Nat.le_refl _) _)
  have c0 := (Blk.new W [.int .i64 x, .int .u64 y, .int .i64 z] tC).cell (i := 0) rfl
  go_enter Try.func87, Try.ntmps87
  go_wp2_with fail
  go_ret
  exact ⟨rfl, HB.out⟩
def negC (q : Ch) : Bool := decide (q.1 < 0)
set_option maxRecDepth 100000 in
set_option maxHeartbeats 4000000 in
theorem idxC_any (W : World) (v : Value) (cs : List Ch) (hv : PC W v cs) (hl : cs.length ≤ 1099511627776) :
    Calls Try.prog 113 #[v, .func (.func 87) #[] #[]] W fun e w' => ∃ r, e = .returned (.int .i64 r) ∧ ((r = -1 ∧ cs.any negC = false) ∨ (0 ≤ r ∧ cs.any negC = true)) ∧ Below W.heap.size W w' := by
  have HV := Lib.hid hv
  obtain ⟨Av, cv, rfl, -⟩ := hv
  go_enter Try.func113, Try.ntmps113
  go_wp2_with fail
  go_loopw [8] (fun i wr => ∃ k : Nat, k ≤ cs.length ∧ i = .int .i64 (k : Int) ∧ Below W.heap.size W wr ∧ ∀ j, j < k → negC (cs.getD j dC) = false) (fun i _ => cs.length - (intOf i).toNat)
  case atStart => exact ⟨0, Nat.zero_le _, rfl, Below.refl _ W, fun j hj => by omega⟩
  case round =>
    obtain ⟨k, hk, rfl, hB, hno⟩ := hrel
    by_cases hlt : k < cs.length
    · obtain ⟨⟨x, y, z⟩, hx⟩ : ∃ x, cs[k] = x := ⟨_, rfl⟩
      have hx2 : cs[k]? = some (x, y, z) := by rw [List.getElem?_eq_getElem hlt, hx]
      have hgd : cs.getD k dC = (x, y, z) := by rw [List.getD_eq_getElem?_getD, hx2]; rfl
      obtain ⟨b3, off3, c4, e1, hlb, r0, r1, r2⟩ := (HV.out.below hB).at hx2
      obtain ⟨rfl, rfl⟩ : Av = some ⟨b3, off3, none⟩ ∧ cv = c4 := by injection e1 with e1 e2 e3; exact ⟨e1, e3⟩
      simp only at r0 r1 r2
      have P1 := neg_any wr x y z
      have HB := Lib.hid hB; have HNO := Lib.hid hno
      obtain ⟨o, ho⟩ : ∃ o, decide (x < 0) = o := ⟨_, rfl⟩
      rw [ho] at P1
      have HP1 := Lib.hid P1
      have HO := Lib.hid (show negC (cs.getD k dC) = o by rw [hgd]; exact ho)
      clear hx hx2 hgd e1 P1 hB hno ho
      go_wp2_with fail
      refine HP1.out.mono ?_; rintro e w1 ⟨rfl, hb1⟩
      have HB1 := Lib.hid (HB.out.trans (hb1.mono HB.out.size))
      clear hb1
      cases o with
      | true =>
        go_wp2_with fail
        exact bodyPost_ret (v := .int .i64 (k : Int)) (by simp [results, Try.f113, go_sem]) rfl ⟨_, rfl, .inr ⟨by omega, List.any_eq_true.2 ⟨_, List.getElem_mem hlt, by have := HO.out; rwa [show cs.getD k dC = cs[k] from by simp [List.getD, hlt]] at this⟩⟩, HB1.out⟩
      | false =>
        go_wp2_with fail
        go_roundw
        case rel => exact ⟨k + 1, by omega, by simp, HB1.out, fun j hj => by rcases Nat.lt_succ_iff_lt_or_eq.1 hj with h | rfl; exact HNO.out j h; exact HO.out⟩
        case measure => simp [intOf]; omega
    · obtain rfl : k = cs.length := by omega
      have HNO := Lib.hid hno
      clear hno
      go_wp2_with fail
      exact bodyPost_ret (v := .int .i64 (-1)) (by simp [results, Try.f113, go_sem]) rfl ⟨_, rfl, .inl ⟨rfl, by
        rw [Bool.eq_false_iff]
        intro hc
        obtain ⟨e, he, hg⟩ := List.any_eq_true.1 hc
        obtain ⟨j, hj, rfl⟩ := List.getElem_of_mem he
        have := HNO.out j hj
        rw [show cs.getD j dC = cs[j] from by simp [List.getD, hj]] at this
        rw [this] at hg; cases hg⟩, hB⟩
theorem containsC_any (W : World) (v : Value) (cs : List Ch) (hv : PC W v cs) (hl : cs.length ≤ 1099511627776) :
    Calls Try.prog 86 #[v, .func (.func 87) #[] #[]] W fun e w' => e = .returned (.bool (cs.any negC)) ∧ Below W.heap.size W w' := by
  have IX := Lib.hid (idxC_any W v cs hv hl)
  obtain ⟨o, ho⟩ : ∃ o, cs.any negC = o := ⟨_, rfl⟩
  rw [ho] at IX ⊢
  obtain ⟨Av, cv, rfl, -⟩ := hv
  clear ho
  go_enter Try.func86, Try.ntmps86
  go_wp2_with fail
  refine IX.out.mono ?_; rintro e w1 ⟨r, rfl, hr, hb⟩
  have HB := Lib.hid hb
  clear hb
  rcases hr with ⟨rfl, rfl⟩ | ⟨h0, rfl⟩
  · go_wp2_with fail
    go_ret
    exact ⟨by simp, HB.out⟩
  · go_wp2_with fail
    go_ret
    exact ⟨by simp [h0], HB.out⟩
/-- what bytes are read as -/
def readC (bs : List Int) : List Ch × Int := if (allN takeC bs 4096).2 = 0 ∧ (allN takeC bs 4096).1.any negC = true then ([], 20) else allN takeC bs 4096
theorem readC_neg {bs : List Int} {out : List Ch} (h : allN takeC bs 4096 = (out, 0)) (hn : out.any negC = true) : readC bs = ([], 20) := by unfold readC; rw [h]; exact if_pos ⟨rfl, hn⟩
theorem readC_ok {bs : List Int} {out : List Ch} {er : Int} (h : allN takeC bs 4096 = (out, er)) (hn : ¬ (er = 0 ∧ out.any negC = true)) : readC bs = (out, er) := by unfold readC; rw [h]; exact if_neg hn
set_option maxRecDepth 100000 in
set_option maxHeartbeats 1000000 in
theorem read_any (W : World) (bs : List Int) (A : Option Addr) (c : Nat) (hx : (Kd.int .u8).C W A bs.length bs) (hA0 : A = none → c = 0) (hb : ∀ x ∈ bs, 0 ≤ x ∧ x < 256) (hl : bs.length ≤ 1099511627776) (hr : (allN takeC bs 4096).1.length ≤ 1000000) :
    Calls Try.prog 51 #[.slice A bs.length c] W fun e w' => ∃ v, e = .returned (.tuple #[v, .int .i64 (readC bs).2]) ∧ PC w' v (readC bs).1 ∧ Below W.heap.size W w' := by
  have AL := Lib.hid (all_any W bs A c hx hA0 hb hl takeC 85 #[] takeC1 4096 (by decide))
  obtain ⟨ro, re, hRR⟩ : ∃ ro re, readC bs = (ro, re) := ⟨_, _, rfl⟩
  have HRR := Lib.hid hRR
  rw [hRR]
  obtain ⟨out, er, hR⟩ : ∃ out er, allN takeC bs 4096 = (out, er) := ⟨_, _, rfl⟩
  rw [hR] at AL hr
  have HR := Lib.hid hR
  dsimp only at AL hr ⊢
  clear hR hx hRR
  go_enter Try.func51, Try.ntmps51
  go_wp2_with fail
  refine AL.out.mono ?_; rintro e w1 ⟨v, rfl, ho, hb1⟩
  have hpc := pc_own ho
  obtain ⟨A1, c1, rfl, -⟩ := id hpc
  have HPC := Lib.hid hpc; have HB1 := Lib.hid hb1
  clear hpc ho hb1 AL
  by_cases he : er = 0
  · subst he
    obtain ⟨o, ho⟩ : ∃ o, out.any negC = o := ⟨_, rfl⟩
    have HO := Lib.hid ho
    clear ho
    go_wp2_with fail
    refine (containsC_any w1 _ out HPC.out (by omega)).mono ?_; rintro e w2 ⟨rfl, hb2⟩
    rw [HO.out]
    have HB2 := Lib.hid (HB1.out.trans (hb2.mono HB1.out.size)); have HPC2 := Lib.hid (HPC.out.below hb2)
    clear hb2
    cases o with
    | true =>
      have hq := HRR.out.symm.trans (readC_neg HR.out HO.out)
      injection hq with h1 h2
      subst h1; subst h2
      go_wp2_with fail
      exact bodyPost_ret (v := .tuple #[.slice none 0 0, .int .i64 20]) (by simp [results, Try.f51, go_sem]) rfl ⟨_, rfl, ⟨none, 0, rfl, fun i q hq => by simp at hq⟩, HB2.out⟩
    | false =>
      have hq := HRR.out.symm.trans (readC_ok HR.out (fun h => by have := h.2; rw [HO.out] at this; cases this))
      injection hq with h1 h2
      subst h1; subst h2
      go_wp2_with fail
      exact bodyPost_ret (v := .tuple #[.slice A1 ro.length c1, .int .i64 0]) (by simp [results, Try.f51, go_sem]) rfl ⟨_, rfl, HPC2.out, HB2.out⟩
  · have hq := HRR.out.symm.trans (readC_ok HR.out (fun h => he h.1))
    injection hq with h1 h2
    subst h1; subst h2
    go_wp2_with fail
    exact bodyPost_ret (v := .tuple #[.slice A1 ro.length c1, .int .i64 re]) (by simp [results, Try.f51, go_sem]) rfl ⟨_, rfl, HPC.out, HB1.out⟩
end Go.Proofs.Ytnlhgnioedalpaa.Cod

/- delta: what has risen. -/
set_option linter.unusedSimpArgs false
set_option linter.unusedVariables false
namespace Go.Proofs.Ytnlhgnioedalpaa.Pri
open Go.RowKit Go.Proofs.YtnlhgnioedalpaaW.PrintWords Go.Proofs.Ytnlhgnioedalpaa.PPricePlays Go.Maps
attribute [local go_sem] Oper.semAt_some

/-- a book's stores, and the slices that they hold -/
theorem BK.bv {B : Nat} {ps : List Nat} {ls : List (List En)} {o : Value} {A : World} (h : BK B ps ls o A) : ∃ vs, BV ps vs ls o A := by
  obtain ⟨Ao, co, rfl⟩ := own_sl h.own
  have key : ∀ n, n ≤ ls.length → ∃ vs : List Value, vs.length = n ∧ ∀ (i : Nat) l, i < n → ls[i]? = some l → ∃ g p v, Ao = some ⟨g, 0, none⟩ ∧ ps[i]? = some p ∧ vs[i]? = some v ∧ g < A.heap.size ∧ A.cell? ⟨g, i, none⟩ = some (.pointer (some ⟨p, 0, none⟩)) ∧ A.cell? ⟨p, 0, none⟩ = some v ∧ PE A v l := by
    intro n
    induction n with
    | zero => intro _; exact ⟨[], rfl, fun i l hi => by omega⟩
    | succ n ih =>
      intro hn
      obtain ⟨vs, hv, hq⟩ := ih (by omega)
      obtain ⟨l, hl⟩ : ∃ l, ls[n]? = some l := ⟨ls[n], List.getElem?_eq_getElem (by omega)⟩
      obtain ⟨g, c, p, e1, hp, hc, hS, hg⟩ := h.at hl
      obtain ⟨v, hb, hpe⟩ := hS.pr
      injection e1 with e1 _ _
      refine ⟨vs ++ [v], by simp [hv], fun i l' hi hl' => ?_⟩
      by_cases hin : i < n
      · obtain ⟨g', p', v', a1, a2, a3, a4⟩ := hq i l' hin hl'
        exact ⟨g', p', v', a1, a2, by rw [List.getElem?_append_left (by omega)]; exact a3, a4⟩
      · obtain rfl : i = n := by omega
        rw [hl] at hl'
        cases hl'
        exact ⟨g, p, v, e1, hp, by rw [List.getElem?_append_right (by omega), hv, Nat.sub_self]; rfl, hg, hc, hb.cell rfl, hpe⟩
  obtain ⟨vs, _, hq⟩ := key ls.length (Nat.le_refl _)
  exact ⟨vs, Ao, co, rfl, fun i l hl => hq i l (List.getElem?_eq_some_iff.1 hl).1 hl⟩
theorem ball_any (W : World) (A : Option Addr) (n c : Nat) :
    Calls Try.prog 79 #[.slice A n c] W fun e w' => e = .returned (.func (.func 105) #[] #[.pointer (some ⟨W.heap.size, 0, none⟩)]) ∧ w' = W.alloc (.cells #[.slice A n c] 122) := by
  go_enter Try.func79, Try.ntmps79
  go_wp2_with fail
  go_ret
  exact ⟨rfl, rfl⟩
/-- what has risen -/
def diffL (was now : List (List En)) : List Ch := (chT (now.map ofL) now.length).filter (fun c => decide (askL (lsAt (was.map ofL) c.1) c.2.1 < c.2.2))
/-! a cell that holds a slice is written -/
theorem SR.wrote {A C : World} {p b : Nat} {l : List En} {t : TypeId} {A2 : Option Addr} {n2 c2 : Nat} (h : SR A p l) (hb : Blk A b t [.slice A2 n2 c2]) (ht : tS ≠ t) (hg : A.grownBy C (some b)) : SR C p l := by
  obtain ⟨v, kb, hpe⟩ := h.pr
  exact ⟨⟨v, kb.kept hg (by have := blk_ne kb hb ht; simpa using this), hpe.turn hb hg⟩, h.ue, h.ti, h.len⟩
theorem ST.wrote {l : List (Option (Nat × List En))} {o : Value} {A C : World} {b : Nat} {t : TypeId} {A2 : Option Addr} {n2 c2 : Nat} (h : ST l o A) (hb : Blk A b t [.slice A2 n2 c2]) (ht : tS ≠ t) (hg : A.grownBy C (some b)) : ST l o C := fun i p es hi => by
  obtain ⟨h1, h2⟩ := h i p es hi
  obtain ⟨v, kb, _⟩ := h1.pr
  have kb' := kb.kept hg (by have := blk_ne kb hb ht; simpa using this)
  refine ⟨h1.wrote hb ht hg, fun v' hv q hq => ?_⟩
  obtain rfl : v' = v := by have := (hv.inj kb').2; injection this
  have := h2 v' kb q hq
  exact ⟨Nat.lt_of_lt_of_le this.1 hg.size, this.2⟩
theorem BK.wrote {B : Nat} {ps : List Nat} {ls : List (List En)} {o : Value} {A C : World} {b : Nat} {t : TypeId} {A2 : Option Addr} {n2 c2 : Nat} (h : BK B ps ls o A) (hb : Blk A b t [.slice A2 n2 c2]) (ht : tS ≠ t) (ht2 : t ≠ tP) (hg : A.grownBy C (some b)) : BK B ps ls o C := by
  refine ⟨h.n, h.nd, fun p hp => ⟨(h.lt p hp).1, Nat.lt_of_lt_of_le (h.lt p hp).2 hg.size⟩, h.own.kept hg ?_, h.st.wrote hb ht hg⟩
  cases hv : o.ownBlock with
  | none => exact .inl rfl
  | some q => exact .inr (fun e => own_apart hb h.own ht2 (hv.trans e))
theorem BV.wrote {B : Nat} {ps : List Nat} {vs : List Value} {ls : List (List En)} {o : Value} {A C : World} {b : Nat} {t : TypeId} {A2 : Option Addr} {n2 c2 : Nat} (h : BV ps vs ls o A) (hK : BK B ps ls o A) (hb : Blk A b t [.slice A2 n2 c2]) (ht : tS ≠ t) (ht2 : t ≠ tP) (hg : A.grownBy C (some b)) : BV ps vs ls o C := by
  have hKC := hK.wrote hb ht ht2 hg
  obtain ⟨Ao, co, rfl, hq⟩ := h
  refine ⟨Ao, co, rfl, fun i l hl => ?_⟩
  obtain ⟨g, p, v, e, hp, hv, hgl, c1, c2, hpe⟩ := hq i l hl
  obtain ⟨g', c', p', e', hp', hc', hS', hg'⟩ := hKC.at hl
  rw [hp] at hp'
  cases hp'
  subst e
  injection e' with e1 _ _
  injection e1 with e1
  injection e1 with e1 _
  subst e1
  obtain ⟨g2, c3, p2, _, hp2, _, hS2, _⟩ := hK.at hl
  rw [hp] at hp2
  cases hp2
  obtain ⟨v2, kb, _⟩ := hS2.pr
  have hvv : v2 = v := by have := kb.cell (i := 0) rfl; rw [c2] at this; injection this with this; exact this.symm
  have kb' := kb.kept hg (by have := blk_ne kb hb ht; simpa using this)
  exact ⟨g, p, v, rfl, hp, hv, hg', hc', by rw [← hvv]; exact kb'.cell rfl, hpe.turn hb hg⟩
end Go.Proofs.Ytnlhgnioedalpaa.Pri

/- delta, in plain words: a book in which changes are put; what is put, told and put again. -/
set_option linter.unusedSimpArgs false
set_option linter.unusedVariables false
namespace Go.Proofs.Ytnlhgnioedalpaa.Pri

/-- a book of n lists or more -/
def extB (b : List (List En)) (n : Nat) : List (List En) := b ++ List.replicate (n - b.length) []
/-- a change is put -/
def stepB (b : List (List En)) (c : Ch) : List (List En) :=
  if 0 ≤ c.1 ∧ c.1 < 64 then (extB b (c.1.toNat + 1)).set c.1.toNat (putP (b.getD c.1.toNat []) c.2.1 c.2.2) else b
/-- a book in which changes are put -/
def applyL (old : List (List En)) (cs : List Ch) : List (List En) := cs.foldl stepB (old.map ofL)
theorem ext_len (b : List (List En)) (n : Nat) : (extB b n).length = max b.length n := by unfold extB; rw [List.length_append, List.length_replicate]; omega
theorem ext_at (b : List (List En)) (n i : Nat) : (extB b n).getD i [] = b.getD i [] := by
  unfold extB
  rw [List.getD_eq_getElem?_getD, List.getD_eq_getElem?_getD]
  by_cases h : i < b.length
  · rw [List.getElem?_append_left h]
  · rw [List.getElem?_append_right (by omega), List.getElem?_eq_none (l := b) (by omega), List.getElem?_replicate]
    split <;> rfl
theorem step_len (b : List (List En)) (c : Ch) : (stepB b c).length = if 0 ≤ c.1 ∧ c.1 < 64 then max b.length (c.1.toNat + 1) else b.length := by
  unfold stepB
  split
  · rw [List.length_set, ext_len]
  · rfl
theorem step_at (b : List (List En)) (c : Ch) (i : Nat) : (stepB b c).getD i [] = if c.1 = (i : Int) ∧ i < 64 then putP (b.getD i []) c.2.1 c.2.2 else b.getD i [] := by
  unfold stepB
  by_cases h : 0 ≤ c.1 ∧ c.1 < 64
  · rw [if_pos h]
    by_cases hi : c.1.toNat = i
    · rw [if_pos (by omega), List.getD_eq_getElem?_getD, hi, List.getElem?_set_self (by rw [ext_len]; omega)]
      rfl
    · rw [if_neg (by omega), List.getD_eq_getElem?_getD, List.getElem?_set_ne hi, ← List.getD_eq_getElem?_getD, ext_at]
  · rw [if_neg h, if_neg (by omega)]
theorem fold_len (k : Nat) : ∀ (cs : List Ch) (b : List (List En)), k < (cs.foldl stepB b).length ↔ k < b.length ∨ ∃ c ∈ cs, 0 ≤ c.1 ∧ c.1 < 64 ∧ (k : Int) ≤ c.1
  | [], b => by simp
  | c :: cs, b => by
    rw [List.foldl_cons, fold_len k cs, step_len]
    constructor
    · rintro (h | ⟨d, hd, h⟩)
      · split at h
        · by_cases hk : k < b.length
          · exact .inl hk
          · exact .inr ⟨c, List.mem_cons_self, by omega, by omega, by omega⟩
        · exact .inl h
      · exact .inr ⟨d, List.mem_cons_of_mem _ hd, h⟩
    · rintro (h | ⟨d, hd, h1, h2, h3⟩)
      · left; split <;> omega
      · rcases List.mem_cons.1 hd with rfl | hd
        · left; rw [if_pos ⟨h1, h2⟩]; omega
        · exact .inr ⟨d, hd, h1, h2, h3⟩
theorem len_ext {a b : Nat} (h : ∀ k, k < a ↔ k < b) : a = b := by
  have h1 := h a
  have h2 := h b
  omega
theorem book_ext {L M : List (List En)} (hl : L.length = M.length) (h : ∀ i, L.getD i [] = M.getD i []) : L = M := by
  refine List.ext_getElem hl (fun i h1 h2 => ?_)
  have := h i
  rw [List.getD_eq_getElem?_getD, List.getD_eq_getElem?_getD, List.getElem?_eq_getElem h1, List.getElem?_eq_getElem h2] at this
  exact this
/-- what is asked of a bidder's list behind changes -/
theorem fold_ask (i : Nat) (x t : Int) : ∀ (cs : List Ch) (b : List (List En)), x ≤ askL ((cs.foldl stepB b).getD i []) t ↔ x ≤ askL (b.getD i []) t ∨ ∃ c ∈ cs, c.1 = (i : Int) ∧ i < 64 ∧ c.2.1 ≠ 0 ∧ c.2.2 ≤ most ∧ wi c.2.1 t = true ∧ x ≤ c.2.2
  | [], b => by simp
  | c :: cs, b => by
    rw [List.foldl_cons, fold_ask i x t cs, step_at]
    constructor
    · rintro (h | ⟨d, hd, h⟩)
      · by_cases hc : c.1 = (i : Int) ∧ i < 64
        · rw [if_pos hc, ask_put] at h
          split at h
          · rename_i hp
            by_cases hx : x ≤ askL (b.getD i []) t
            · exact .inl hx
            · exact .inr ⟨c, List.mem_cons_self, hc.1, hc.2, hp.1, hp.2.1, hp.2.2, by omega⟩
          · exact .inl h
        · rw [if_neg hc] at h; exact .inl h
      · exact .inr ⟨d, List.mem_cons_of_mem _ hd, h⟩
    · rintro (h | ⟨d, hd, h1, h2, h3, h4, h5, h6⟩)
      · left
        split
        · rw [ask_put]; split <;> omega
        · exact h
      · rcases List.mem_cons.1 hd with rfl | hd
        · left; rw [if_pos ⟨h1, h2⟩, ask_put, if_pos ⟨h3, h4, h5⟩]; omega
        · exact .inr ⟨d, hd, h1, h2, h3, h4, h5, h6⟩
theorem fold_tight : ∀ (cs : List Ch) (b : List (List En)), (∀ c ∈ cs, U c.2.1) → (∀ i, Tight (b.getD i [])) → ∀ i, Tight ((cs.foldl stepB b).getD i [])
  | [], b, _, h, i => h i
  | c :: cs, b, hU, h, i => fold_tight cs _ (fun d hd => hU d (List.mem_cons_of_mem _ hd)) (fun j => by
      rw [step_at]
      split
      · exact (h j).put (hU c List.mem_cons_self) _
      · exact h j) i
theorem at_mem {L : List (List En)} {i : Nat} (h : L.getD i [] ≠ []) : i < L.length ∧ L.getD i [] ∈ L := by
  by_cases hi : i < L.length
  · refine ⟨hi, ?_⟩
    rw [List.getD_eq_getElem?_getD, List.getElem?_eq_getElem hi]
    exact List.getElem_mem hi
  · exact absurd (by rw [List.getD_eq_getElem?_getD, List.getElem?_eq_none (by omega)]; rfl) h
theorem at_ue {L : List (List En)} (h : ∀ l ∈ L, UE l) (i : Nat) : UE (L.getD i []) := by
  by_cases h0 : L.getD i [] = []
  · rw [h0]; intro e he; simp at he
  · exact h _ (at_mem h0).2
theorem at_map (L : List (List En)) (i : Nat) : (L.map ofL).getD i [] = ofL (L.getD i []) := by
  rw [List.getD_eq_getElem?_getD, List.getD_eq_getElem?_getD, List.getElem?_map]
  cases L[i]? <;> rfl
theorem ofs_tight {old : List (List En)} (hU : ∀ l ∈ old, UE l) (i : Nat) : Tight ((old.map ofL).getD i []) := by
  rw [at_map]
  exact tight_ofL (at_ue hU i)
theorem apply_tight {old : List (List En)} {cs : List Ch} (hU : ∀ l ∈ old, UE l) (hc : ∀ c ∈ cs, U c.2.1) (i : Nat) : Tight ((applyL old cs).getD i []) := fold_tight cs _ hc (ofs_tight hU) i
theorem apply_ask {old : List (List En)} {cs : List Ch} {i : Nat} {x t : Int} : x ≤ askL ((applyL old cs).getD i []) t ↔ x ≤ askL (ofL (old.getD i [])) t ∨ ∃ c ∈ cs, c.1 = (i : Int) ∧ i < 64 ∧ c.2.1 ≠ 0 ∧ c.2.2 ≤ most ∧ wi c.2.1 t = true ∧ x ≤ c.2.2 := by
  unfold applyL
  rw [fold_ask, at_map]
theorem apply_len {old : List (List En)} {cs : List Ch} {k : Nat} : k < (applyL old cs).length ↔ k < old.length ∨ ∃ c ∈ cs, 0 ≤ c.1 ∧ c.1 < 64 ∧ (k : Int) ≤ c.1 := by
  unfold applyL
  rw [fold_len, List.length_map]
/-- it hangs on which changes there are, not on their order -/
theorem apply_perm {old : List (List En)} {cs ds : List Ch} (hU : ∀ l ∈ old, UE l) (hc : ∀ c ∈ cs, U c.2.1) (h : ∀ c, c ∈ ds ↔ c ∈ cs) : applyL old ds = applyL old cs := by
  refine book_ext (len_ext (fun k => ?_)) (fun i => (apply_tight hU (fun c hd => hc c ((h c).1 hd)) i).ext (apply_tight hU hc i) (fun t _ => ask_eq (fun x => ?_)))
  · rw [apply_len, apply_len]
    simp only [h]
  · rw [apply_ask, apply_ask]
    simp only [h]
theorem ch_mem {ls : List (List En)} {c : Ch} : ∀ {k : Nat}, c ∈ chT ls k ↔ ∃ i, i < k ∧ ∃ e ∈ ls.getD i [], c = ((i : Int), e.1, e.2) := by
  intro k
  unfold chT
  rw [List.mem_flatMap]
  constructor
  · rintro ⟨i, hi, h⟩
    rw [List.mem_map] at h
    obtain ⟨e, he, h⟩ := h
    exact ⟨i, List.mem_range.1 hi, e, he, h.symm⟩
  · rintro ⟨i, hi, e, he, h⟩
    exact ⟨i, List.mem_range.2 hi, List.mem_map.2 ⟨e, he, h.symm⟩⟩
theorem lsAt_nat (ls : List (List En)) (i : Nat) : lsAt ls (i : Int) = ls.getD i [] := by
  unfold lsAt
  rw [if_neg (by omega), Int.toNat_natCast]
theorem diff_mem {was now : List (List En)} {c : Ch} : c ∈ diffL was now ↔ ∃ i, i < now.length ∧ ∃ e ∈ ofL (now.getD i []), c = ((i : Int), e.1, e.2) ∧ askL (ofL (was.getD i [])) e.1 < e.2 := by
  unfold diffL
  rw [List.mem_filter, ch_mem]
  constructor
  · rintro ⟨⟨i, hi, e, he, rfl⟩, h⟩
    rw [at_map] at he
    dsimp only at h
    rw [lsAt_nat, at_map, decide_eq_true_eq] at h
    exact ⟨i, hi, e, he, rfl, h⟩
  · rintro ⟨i, hi, e, he, rfl, h⟩
    refine ⟨⟨i, hi, e, by rw [at_map]; exact he, rfl⟩, ?_⟩
    dsimp only
    rw [lsAt_nat, at_map, decide_eq_true_eq]
    exact h
theorem apply_len64 {old : List (List En)} {cs : List Ch} (hl : old.length ≤ 64) : (applyL old cs).length ≤ 64 := by
  by_cases h : (applyL old cs).length ≤ 64
  · exact h
  · rcases apply_len.1 (show 64 < (applyL old cs).length by omega) with h | ⟨c, _, h1, h2, h3⟩ <;> omega
end Go.Proofs.Ytnlhgnioedalpaa.Pri

/- delta: a row of changes behind a cell, while all of a book comes. -/
set_option linter.unusedSimpArgs false
set_option linter.unusedVariables false
namespace Go.Proofs.Ytnlhgnioedalpaa.Pri
open Go.RowKit Go.Proofs.YtnlhgnioedalpaaW.PrintWords Go.Proofs.Ytnlhgnioedalpaa.PPricePlays Go.Maps
open Go.Proofs.Ytnlhgnioedalpaa.Cod (PC cP3 cP3_length pc_own infoC grown_own KTy.setOther)
attribute [local go_sem] Oper.semAt_some

abbrev tCs : TypeId := 80
abbrev tBk : TypeId := 122
theorem ko_row {A B : World} {row : Option Nat} (hg : A.grownBy B row) (hr : ∀ r, row = some r → ∃ cs e fr, A.heap[r]? = some (.cells cs e fr)) : KeepsOthers A B :=
  ⟨hg.size, fun k o ha ho => (hg.block k (Array.getElem?_eq_some_iff.1 ha).1 (fun e => by
    obtain ⟨cs, t, fr, h⟩ := hr k e.symm
    rw [ha] at h
    cases h
    simp [Obj.isCells] at ho)).trans ha⟩
theorem kty_row {A B : World} {row : Option Nat} {t u : TypeId} (hg : A.grownBy B row) (hr : ∀ r, row = some r → ∃ cs fr, A.heap[r]? = some (.cells cs u fr)) (ht : t ≠ u) : KTy t A B :=
  ⟨hg.size, fun b cs fr hb => (hg.block b (Array.getElem?_eq_some_iff.1 hb).1 (fun e => by
    obtain ⟨cs', fr', h⟩ := hr b e.symm
    rw [hb] at h
    injection h with h
    injection h with _ h2
    exact ht h2)).trans hb⟩
/-- changes behind a cell of the walk's own; nothing else is written -/
structure DI (w3 : World) (b6 : Nat) (L : List Ch) (A : Option Addr) (c : Nat) (W' : World) : Prop where
  b : Blk W' b6 tCs [.slice A L.length c]
  own : W'.ownsRow w3.heap.size tC 3 (.slice A L.length c) L.length (cellsOf cP3 L)
  g : w3.grownBy W' (some b6)
theorem DI.start {w3 : World} {b6 : Nat} (h : Blk w3 b6 tCs [.slice none 0 0]) : DI w3 b6 [] none 0 w3 := ⟨h, World.ownsRow_nil _ _ _ _, below_gb (Below.refl _ w3)⟩
theorem DI.row {w3 : World} {b6 : Nat} {L : List Ch} {A : Option Addr} {c : Nat} {X Y : World} {row : Option Nat} (h : DI w3 b6 L A c X) (hg : X.grownBy Y row) (hr : ∀ r, row = some r → w3.heap.size ≤ r ∧ ∃ o : Obj, X.heap[r]? = some o ∧ o.isCells = false) : DI w3 b6 L A c Y :=
  ⟨blk_row1 h.b hg (fun r e => (hr r e).2), own_row h.own hg (fun r e => (hr r e).2), grown_own h.g hg (fun r e => (hr r e).1)⟩
theorem DI.below {w3 : World} {b6 : Nat} {L : List Ch} {A : Option Addr} {c : Nat} {X Y : World} (h : DI w3 b6 L A c X) (hb : Below X.heap.size X Y) : DI w3 b6 L A c Y := h.row (gb_none hb) (fun r e => by cases e)
theorem DI.blk {w3 : World} {b6 : Nat} {L : List Ch} {A : Option Addr} {c : Nat} {X : World} (h : DI w3 b6 L A c X) {b : Nat} {t : TypeId} {l : List Value} (hb : Blk w3 b t l) (hn : b ≠ b6) : Blk X b t l := hb.kept h.g (by simpa using hn)
theorem DI.push {w3 : World} {b6 : Nat} {L : List Ch} {A : Option Addr} {c : Nat} {X Y : World} {v9 : Value} {q : Ch} (h : DI w3 b6 L A c X) (hown : Y.ownsRow w3.heap.size tC 3 v9 (L.length + 1) (cellsOf cP3 L ++ cP3 q)) (hg : X.grownBy Y (Value.slice A L.length c).ownBlock) :
    (∃ A9 c9, DI w3 b6 (L ++ [q]) A9 c9 (Y.setCell ⟨b6, 0, none⟩ v9)) ∧ KeepsOthers X (Y.setCell ⟨b6, 0, none⟩ v9) ∧ ∀ t, AllTs t → KTy t X (Y.setCell ⟨b6, 0, none⟩ v9) := by
  have hne := own_apart h.b h.own (by decide)
  have hbY : Blk Y b6 tCs [.slice A L.length c] := h.b.kept hg (Ne.symm hne)
  obtain ⟨A9, c9, rfl⟩ := own_sl hown
  have hn2 := own_apart hbY hown (by decide)
  have hrow : ∀ r, (Value.slice A L.length c).ownBlock = some r → w3.heap.size ≤ r ∧ ∃ cs fr, X.heap[r]? = some (.cells cs tC fr) := own_typ h.own
  refine ⟨⟨A9, c9, ?_, ?_, ?_⟩, (ko_row hg (fun r e => by obtain ⟨_, cs, fr, hh⟩ := hrow r e; exact ⟨cs, _, fr, hh⟩)).trans (KeepsOthers.setCell _ _ _), fun t ht => (kty_row hg (fun r e => (hrow r e).2) ?_).trans (KTy.setOther hbY ?_ _)⟩
  · have := hbY.set 0 (.slice A9 (L.length + 1) c9)
    rw [List.length_append]
    exact this
  · rw [List.length_append, cellsOf_append, cellsOf_one]
    exact own_setCell hown hn2 0 _
  · exact gb_trans (grown_own h.g hg (fun r e => (hrow r e).1)) (grownBy_setAt Y b6 0 _)
  · rcases ht with rfl | rfl | rfl <;> decide
  · rcases ht with rfl | rfl | rfl <;> decide
theorem ch_len {ls : List (List En)} {m : Nat} (h : ∀ l ∈ ls, l.length ≤ m) : ∀ k, (chT ls k).length ≤ k * m
  | 0 => by unfold chT; simp
  | k + 1 => by
    rw [chT_succ, List.length_append, List.length_map, Nat.add_mul]
    have := ch_len h k
    have h2 : (ls.getD k []).length ≤ m := by
      by_cases h0 : ls.getD k [] = []
      · rw [h0]; simp
      · exact h _ (at_mem h0).2
    omega
theorem ch_u {now : List (List En)} (hU : ∀ l ∈ now, UE l) {k : Nat} {q : Ch} (h : q ∈ chT (now.map ofL) k) : U q.2.1 := by
  obtain ⟨i, _, e, he, rfl⟩ := ch_mem.1 h
  rw [at_map] at he
  exact ((tight_ofL (at_ue hU i)).ok e he).1
/-! and where the cell holds a number -/
theorem BK.one {B : Nat} {ps : List Nat} {ls : List (List En)} {o : Value} {A C : World} {b : Nat} {t : TypeId} {x : Value} (h : BK B ps ls o A) (hb : Blk A b t [x]) (ht : tS ≠ t) (ht2 : t ≠ tP) (hx : ∀ z, x ≠ .int .u64 z) (hg : A.grownBy C (some b)) : BK B ps ls o C := by
  refine ⟨h.n, h.nd, fun p hp => ⟨(h.lt p hp).1, Nat.lt_of_lt_of_le (h.lt p hp).2 hg.size⟩, h.own.kept hg ?_, h.st.one hb ht hx hg⟩
  cases hv : o.ownBlock with
  | none => exact .inl rfl
  | some q => exact .inr (fun e => own_apart hb h.own ht2 (hv.trans e))
theorem BV.one {B : Nat} {ps : List Nat} {vs : List Value} {ls : List (List En)} {o : Value} {A C : World} {b : Nat} {t : TypeId} {x : Value} (h : BV ps vs ls o A) (hK : BK B ps ls o A) (hb : Blk A b t [x]) (ht : tS ≠ t) (ht2 : t ≠ tP) (hx : ∀ z, x ≠ .int .u64 z) (hg : A.grownBy C (some b)) : BV ps vs ls o C := by
  have hKC := hK.one hb ht ht2 hx hg
  obtain ⟨Ao, co, rfl, hq⟩ := h
  refine ⟨Ao, co, rfl, fun i l hl => ?_⟩
  obtain ⟨g, p, v, e, hp, hv, hgl, c1, c2, hpe⟩ := hq i l hl
  obtain ⟨g', c', p', e', hp', hc', hS', hg'⟩ := hKC.at hl
  rw [hp] at hp'
  cases hp'
  subst e
  injection e' with e1 _ _
  injection e1 with e1
  injection e1 with e1 _
  subst e1
  obtain ⟨g2, c3, p2, _, hp2, _, hS2, _⟩ := hK.at hl
  rw [hp] at hp2
  cases hp2
  obtain ⟨v2, kb, _⟩ := hS2.pr
  have hvv : v2 = v := by have := kb.cell (i := 0) rfl; rw [c2] at this; injection this with this; exact this.symm
  have kb' := kb.kept hg (by have := blk_ne kb hb ht; simpa using this)
  exact ⟨g, p, v, rfl, hp, hv, hg', hc', by rw [← hvv]; exact kb'.cell rfl, hpe.one hb hx hg⟩
end Go.Proofs.Ytnlhgnioedalpaa.Pri
