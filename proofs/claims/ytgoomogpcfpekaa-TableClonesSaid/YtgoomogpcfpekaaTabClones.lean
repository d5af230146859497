/- TableClones. -/
import Derived.Test.YtgoomogpcfpekaaTabLx
set_option linter.unusedSimpArgs false
set_option linter.unusedVariables false
namespace Go.Proofs.Ytgoomogpcfpekaa.TabR
open Go.RowKit Go.Proofs.Ytgoomogpcfpekaa.TabL Go.Proofs.YtgoomogpcfpekaaW.PrintWords Go.Proofs.Ytgoomogpcfpekaa.PTablePlays
open Go.Proofs.Ytgoomogpcfpekaa.TabN (ltI belowL getV putL_len lin TMx cP d0 ek ev Gives2)
attribute [local go_sem] Oper.semAt_some

/-- one table is turned, two that were made of it stay, and the pairs -/
structure CS (W : World) (p c u : Nat) (v : Value) (xs ys : List (Int × Int)) (w : World) : Prop where
  t : TMx w p ys
  c : TMx w c xs
  u : TMx w u xs
  ps : PS w v xs
  b : Below W.heap.size W w
theorem CS.below {W w w' : World} {p c u : Nat} {v : Value} {xs ys : List (Int × Int)} (h : CS W p c u v xs ys w) (hb : Below w.heap.size w w') : CS W p c u v xs ys w' :=
  ⟨h.t.below hb, h.c.below hb, h.u.below hb, h.ps.below hb, h.b.trans (hb.mono h.b.size)⟩
theorem CS.turn {W w w' : World} {p c u : Nat} {v : Value} {xs ys zs : List (Int × Int)} (h : CS W p c u v xs ys w) (hp : W.heap.size ≤ p) (hc : c ≠ p) (hu : u ≠ p) (hT : TMx w' p zs) (hg : w.grownBy w' (some p)) : CS W p c u v xs zs w' :=
  ⟨hT, tm_table h.c h.t hg hc, tm_table h.u h.t hg hu, h.ps.table h.t hg, h.b.grown hg (h.b.size) (fun r e => by cases e; exact hp)⟩

set_option maxRecDepth 100000 in
set_option maxHeartbeats 8000000 in
theorem clones_walk (W : World) (sv : Value) (ops : List Op3) (hR : Rd cO 3 W.heap.size W sv ops) (hL : ops.length ≤ maxLen) (_ : ∀ z ∈ ops, (Lit.int .i64 z.1).wf = true ∧ (Lit.int .i64 z.2.1).wf = true ∧ (Lit.int .i64 z.2.2).wf = true) (sv' : Value) (more : List Op3) (hR' : Rd cO 3 W.heap.size W sv' more) (hL' : more.length ≤ maxLen) (_ : ∀ z ∈ more, (Lit.int .i64 z.1).wf = true ∧ (Lit.int .i64 z.2.1).wf = true ∧ (Lit.int .i64 z.2.2).wf = true) :
    Calls Try.prog 4 #[sv, sv'] W fun e w' => e = .returned (.bool true) ∧ Below W.heap.size W w' := by
  obtain ⟨A, c, rfl⟩ := rd_slice hR
  obtain ⟨A', c', rfl⟩ := rd_slice hR'
  unfold maxLen at hL hL'
  have HR := Lib.hid hR
  have HR' := Lib.hid hR'
  clear hR hR'
  by_cases hl : ops.length ≤ 100
  · by_cases hl' : more.length ≤ 100
    · go_enter Try.func4, Try.ntmps4
      go_wp2_with fail
      refine (TabN.alive_any _).mono ?_; rintro e w1 ⟨rfl, hB1⟩
      have hz1 := hB1.size
      go_wp2_with fail
      have hR1 := (HR.out.below hB1).mono hB1.size
      refine (play_any w1 A c ops hl hR1).mono ?_; rintro e w2 ⟨v2, rfl, hT2, hP2, hv2, hb2⟩
      have hB2 := hB1.trans (hb2.mono hB1.size)
      have hsd := playL_sd ops
      have hpz := hT2.lt
      have hln := playL_len ops
      obtain ⟨p, hp⟩ : ∃ p, w1.heap.size = p := ⟨_, rfl⟩
      rw [hp] at hT2 hv2 hz1 hpz ⊢
      obtain ⟨xs, hxs⟩ : ∃ xs, playL ops = xs := ⟨_, rfl⟩
      rw [hxs] at hT2 hP2 hsd hln
      clear hxs hR1 HR hb2 hB1 hv2 hp
      go_wp2_with fail
      refine (TabN.clone_any w2 p xs hT2).mono ?_; rintro e w3 ⟨rfl, hC3, hb3⟩
      have hT3 := hT2.below hb3
      have hP3 := hP2.below hb3
      have hB3 := hB2.trans (hb3.mono hB2.size)
      have hz3 := hC3.lt
      obtain ⟨cc, hcc⟩ : ∃ cc, w2.heap.size = cc := ⟨_, rfl⟩
      rw [hcc] at hC3 hz3 hpz ⊢
      clear hT2 hP2 hB2 hb3 hcc
      go_wp2_with fail
      refine (TabN.back_any w3 _).mono ?_; rintro e w4 ⟨rfl, hw4⟩
      have J := of_back w3 p xs hT3 hsd (by omega)
      rw [← hw4] at J
      clear hw4
      go_wp2_with fail
      refine J.mono ?_; rintro e w5 ⟨rfl, hU5, hb5⟩
      clear J
      have hS5 : CS W p cc (w3.heap.size + 1) v2 xs xs w5 := ⟨hT3.below hb5, hC3.below hb5, hU5, hP3.below hb5, hB3.trans (hb5.mono hB3.size)⟩
      obtain ⟨u, hu⟩ : ∃ u, w3.heap.size + 1 = u := ⟨_, rfl⟩
      rw [hu] at hS5 ⊢
      have hcp : cc ≠ p := by omega
      have hup : u ≠ p := by omega
      have hpW : W.heap.size ≤ p := hz1
      have hcW : W.heap.size ≤ cc := by omega
      have huW : W.heap.size ≤ u := by omega
      have huc : u ≠ cc := by omega
      clear hu hU5 hT3 hP3 hC3 hB3 hb5 hz3 hpz
      have HS5 := Lib.hid hS5
      clear hS5
      go_wp2_with fail
      go_loopw [39] (fun i wr => ∃ k : Nat, ∃ ys : List (Int × Int), i = .int .i64 k ∧ k ≤ more.length ∧ Sd ltI ys ∧ ys.length ≤ xs.length + k ∧ CS W p cc u v2 xs ys wr)
        (fun i _ => more.length - (match i with | .int _ n => n.toNat | _ => 0))
      case atStart => exact ⟨0, xs, rfl, Nat.zero_le _, hsd, Nat.le_refl _, HS5.out⟩
      case round =>
        obtain ⟨k, ys, rfl, hk, hsy, hly, hS⟩ := hrel
        by_cases hlt : k < more.length
        · obtain ⟨⟨kd, key, val⟩, hget⟩ : ∃ o, more[k]? = some o := ⟨_, List.getElem?_eq_getElem hlt⟩
          obtain ⟨b, off, c1, e1, hlb, q0, q1, q2⟩ := rd_at (HR'.out.below hS.b) hget
          obtain ⟨rfl, rfl⟩ : A' = some ⟨b, off, none⟩ ∧ c' = c1 := by injection e1 with e1 e2 e3; exact ⟨e1, e3⟩
          have hal : Below wr.heap.size wr (wr.alloc (.cells #[.int .i64 kd, .int .i64 key, .int .i64 val] 46)) := (Below.refl _ wr).alloc (Nat.le_refl _) _
          have hO8 : Blk (wr.alloc (.cells #[.int .i64 kd, .int .i64 key, .int .i64 val] 46)) wr.heap.size 46 [.int .i64 kd, .int .i64 key, .int .i64 val] := Blk.new wr [.int .i64 kd, .int .i64 key, .int .i64 val] _
          have hpw : wr.heap.size ≠ p := by have := hS.t.lt; omega
          have HSA := Lib.hid (hS.below hal); have HSY := Lib.hid hsy; have HO8 := Lib.hid hO8
          simp only at q0 q1 q2
          have hlb2 : b < wr.heap.size := by have := hS.b.size; omega
          clear hal hS hsy hO8 e1 hget HS5
          go_wp2_with fail
          refine (TabN.putM_any _ p ys key val HSA.out.t HSY.out (by omega)).mono ?_; rintro e w6 ⟨rfl, hT6, hg6⟩
          have hS6 := HSA.out.turn hpW hcp hup hT6 hg6
          have hO6 := HO8.out.kept hg6 (by simpa using hpw)
          have p0 := hO6.cell (i := 0) rfl
          have p1 := hO6.cell (i := 1) rfl
          have p2 := hO6.cell (i := 2) rfl
          have hl6 := putL_len ys key val
          have hs6 := putL_sd lin HSY.out key val
          obtain ⟨zs, hzs⟩ : ∃ zs, putL ltI ys key val = zs := ⟨_, rfl⟩
          rw [hzs] at hS6 hl6 hs6
          have HS6 := Lib.hid hS6; have HSZ := Lib.hid hs6
          clear hzs hT6 hg6 hO6 hS6 hs6 HSA HSY HO8
          by_cases hb1 : bits BinOp.and IntKind.i64 kd 1 = 1
          · go_wp2_with fail
            refine (TabN.dropM_any _ p zs key HS6.out.t HSZ.out (by omega)).mono ?_; rintro e w7 ⟨rfl, hT7, hg7⟩
            have HS7 := Lib.hid (HS6.out.turn hpW hcp hup hT7 hg7)
            have hl7 := dropL_le zs key
            clear hT7 hg7
            go_wp2_with fail
            go_roundw
            case rel => exact ⟨k + 1, _, by congr 1, by omega, dropL_sd HSZ.out key, by omega, HS7.out⟩
            case measure => simp; omega
          · go_wp2_with fail
            go_roundw
            case rel => exact ⟨k + 1, zs, by congr 1, by omega, HSZ.out, by omega, HS6.out⟩
            case measure => simp; omega
        · obtain rfl : k = more.length := by omega
          have HS7 := Lib.hid hS; have HSY := Lib.hid hsy
          clear hsy HS5
          obtain ⟨A2, c2, rfl, hl2, -⟩ := hS.ps
          clear hS
          go_wp2_with fail
          refine (TabN.all_any wr _).mono ?_; rintro e w8 ⟨rfl, hw8⟩
          have J := pairs_full wr cc xs (xs.length + 1) (by omega) (by omega) HS7.out.c
          rw [← hw8] at J
          clear hw8
          go_wp2_with fail
          refine J.mono ?_; rintro e w9 ⟨v9, rfl, hP9, -, hb9⟩
          have HS9 := Lib.hid (HS7.out.below hb9)
          clear J HS7 hb9
          go_wp2_with fail
          refine (same_refl w9 v9 _ xs (by omega) hP9 HS9.out.ps).mono ?_; rintro e w10 ⟨rfl, hb10⟩
          have HS10 := Lib.hid (HS9.out.below hb10)
          clear HS9 hb10 hP9
          go_wp2_with fail
          refine (TabN.all_any w10 _).mono ?_; rintro e w11 ⟨rfl, hw11⟩
          have J := pairs_full w10 u xs (xs.length + 1) (by omega) (by omega) HS10.out.u
          rw [← hw11] at J
          clear hw11
          go_wp2_with fail
          refine J.mono ?_; rintro e w12 ⟨v12, rfl, hP12, -, hb12⟩
          have HS12 := Lib.hid (HS10.out.below hb12)
          clear J HS10 hb12
          go_wp2_with fail
          refine (same_refl w12 v12 _ xs (by omega) hP12 HS12.out.ps).mono ?_; rintro e w13 ⟨rfl, hb13⟩
          have HS13 := Lib.hid (HS12.out.below hb13)
          clear HS12 hb13 hP12
          go_wp2_with fail
          refine (TabN.all_any w13 _).mono ?_; rintro e w14 ⟨rfl, hw14⟩
          have J := pairs_full w13 p ys (xs.length + more.length + 1) (by omega) (by omega) HS13.out.t
          rw [← hw14] at J
          clear hw14
          go_wp2_with fail
          refine J.mono ?_; rintro e w15 ⟨v15, rfl, hP15, -, hb15⟩
          have hS15 := HS13.out.below hb15
          clear J HS13 hb15
          go_wp2_with fail
          refine (TabN.clear_any w15 cc xs hS15.c).mono ?_; rintro e w16 ⟨rfl, hT16, hg16⟩
          have HS16 := Lib.hid (show TMx w16 p ys ∧ TMx w16 cc [] ∧ TMx w16 u (xs.drop 0) ∧ PS w16 (.slice A2 xs.length c2) xs ∧ PS w16 v15 ys ∧ Below W.heap.size W w16 from ⟨tm_table hS15.t hS15.c hg16 (Ne.symm hcp), hT16, tm_table hS15.u hS15.c hg16 huc, hS15.ps.table hS15.c hg16, hP15.table hS15.c hg16, hS15.b.grown hg16 hS15.b.size (fun r e => by cases e; exact hcW)⟩)
          clear hS15 hP15 hT16 hg16
          go_wp2_with fail
          go_loopw [90] (fun i wr => ∃ k : Nat, i = .int .i64 k ∧ k ≤ xs.length ∧ TMx wr p ys ∧ TMx wr cc [] ∧ TMx wr u (xs.drop k) ∧ PS wr (.slice A2 xs.length c2) xs ∧ PS wr v15 ys ∧ Below W.heap.size W wr)
            (fun i _ => xs.length - (match i with | .int _ n => n.toNat | _ => 0))
          case atStart => exact ⟨0, rfl, Nat.zero_le _, HS16.out⟩
          case round =>
            obtain ⟨k, rfl, hk, hTp, hTc, hTu, hP, hPy, hB⟩ := hrel
            by_cases hlt : k < xs.length
            · obtain ⟨⟨key, val⟩, hget⟩ : ∃ o, xs[k]? = some o := ⟨_, List.getElem?_eq_getElem hlt⟩
              obtain ⟨b, off, c1, e1, q0, q1⟩ := hP.at hget
              obtain ⟨rfl, rfl⟩ : A2 = some ⟨b, off, none⟩ ∧ c2 = c1 := by injection e1 with e1 e2 e3; exact ⟨e1, e3⟩
              have hdr : xs.drop k = (key, val) :: xs.drop (k + 1) := by
                rw [List.drop_eq_getElem_cons hlt]
                congr 1
                simpa [List.getElem?_eq_getElem hlt] using hget
              have hsk : Sd ltI (xs.drop k) := hsd.sublist (List.drop_sublist _ _)
              have hdl : (xs.drop k).length ≤ 1099511627776 := by rw [List.length_drop]; omega
              have hdh : dropL ltI (xs.drop k) key = xs.drop (k + 1) := by rw [hdr] at hsk ⊢; exact dropL_head hsk
              have hal : Below wr.heap.size wr (wr.alloc (.cells #[.int .i64 key, .int .i64 val] 41)) := (Below.refl _ wr).alloc (Nat.le_refl _) _
              have hz : (wr.alloc (.cells #[.int .i64 key, .int .i64 val] 41)).heap.size = wr.heap.size + 1 := by simp
              have D := TabN.dropM_any (wr.alloc (.cells #[.int .i64 key, .int .i64 val] 41)) u (xs.drop k) key (hTu.below hal) hsk hdl
              rw [hdh] at D
              have HD := Lib.hid D
              have HF := Lib.hid (show TMx _ p ys ∧ TMx _ cc [] ∧ TMx _ u (xs.drop k) ∧ PS _ (.slice (some ⟨b, off, none⟩) xs.length c2) xs ∧ PS _ v15 ys ∧ Below W.heap.size W _ from ⟨hTp.below hal, hTc.below hal, hTu.below hal, hP.below hal, hPy.below hal, hB.trans (hal.mono hB.size)⟩)
              clear D hal hz hdh hdl hsk hdr hTp hTc hTu hP hPy hB e1 hget HS16
              simp only at q0 q1
              go_wp2_with fail
              refine HD.out.mono ?_; rintro e w17 ⟨rfl, hT17, hg17⟩
              obtain ⟨f1, f2, f3, f4, f5, f6⟩ := HF.out
              have HF17 := Lib.hid (show TMx w17 p ys ∧ TMx w17 cc [] ∧ TMx w17 u (xs.drop (k + 1)) ∧ PS w17 (.slice (some ⟨b, off, none⟩) xs.length c2) xs ∧ PS w17 v15 ys ∧ Below W.heap.size W w17 from ⟨tm_table f1 f3 hg17 (Ne.symm hup), tm_table f2 f3 hg17 (Ne.symm huc), hT17, f4.table f3 hg17, f5.table f3 hg17, f6.grown hg17 f6.size (fun r e => by cases e; exact huW)⟩)
              clear f1 f2 f3 f4 f5 f6 HF HD hT17 hg17
              go_wp2_with fail
              go_roundw
              case rel => exact ⟨k + 1, by congr 1, by omega, HF17.out⟩
              case measure => simp; omega
            · obtain rfl : k = xs.length := by omega
              rw [List.drop_length] at hTu
              have L1 : Calls Try.prog 28 #[.pointer (some ⟨cc, 0, none⟩)] wr fun e w' => e = .returned (.int .i64 0) ∧ wr = w' := TabN.len_any wr cc [] hTc
              have L2 : Calls Try.prog 28 #[.pointer (some ⟨u, 0, none⟩)] wr fun e w' => e = .returned (.int .i64 0) ∧ wr = w' := TabN.len_any wr u [] hTu
              have HL1 := Lib.hid L1; have HL2 := Lib.hid L2; have HTP := Lib.hid hTp; have HPY := Lib.hid hPy; have HB := Lib.hid hB
              clear L1 L2 hTp hTc hTu hP hPy hB HS16
              go_wp2_with fail
              refine HL1.out.mono ?_; rintro e w18 ⟨rfl, rfl⟩
              go_wp2_with fail
              refine HL2.out.mono ?_; rintro e w19 ⟨rfl, rfl⟩
              go_wp2_with fail
              refine (TabN.all_any wr _).mono ?_; rintro e w20 ⟨rfl, hw20⟩
              have J := pairs_full wr p ys (xs.length + more.length + 1) (by omega) (by omega) HTP.out
              rw [← hw20] at J
              clear hw20
              go_wp2_with fail
              refine J.mono ?_; rintro e w21 ⟨v21, rfl, hP21, -, hb21⟩
              have hB21 := HB.out.trans (hb21.mono HB.out.size)
              have hPy21 := HPY.out.below hb21
              clear J HL1 HL2 HTP HPY HB hb21
              go_wp2_with fail
              refine (same_refl w21 v21 _ ys (by omega) hP21 hPy21).mono ?_; rintro e w22 ⟨rfl, hb22⟩
              have HB22 := Lib.hid (hB21.trans (hb22.mono hB21.size))
              clear hB21 hb22 hP21 hPy21
              go_wp2_with fail
              go_ret
              exact ⟨rfl, HB22.out⟩
    · have h1 : (100 : Int) < (more.length : Int) := by omega
      have h2 : (ops.length : Int) ≤ 100 := by omega
      go_enter Try.func4, Try.ntmps4
      go_wp2_with fail
      refine (TabN.alive_any _).mono ?_; rintro e w1 ⟨rfl, hB1⟩
      go_wp2_with fail
      go_ret
      exact ⟨rfl, hB1⟩
  · have h1 : (100 : Int) < (ops.length : Int) := by omega
    go_enter Try.func4, Try.ntmps4
    go_wp2_with fail
    refine (TabN.alive_any _).mono ?_; rintro e w1 ⟨rfl, hB1⟩
    go_wp2_with fail
    go_ret
    exact ⟨rfl, hB1⟩

end Go.Proofs.Ytgoomogpcfpekaa.TabR
