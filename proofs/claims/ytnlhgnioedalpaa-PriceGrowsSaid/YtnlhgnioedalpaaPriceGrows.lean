/- PriceGrows: for a set no less is asked than for what lies within it. -/
import Derived.Test.YtnlhgnioedalpaaPriV
set_option linter.unusedSimpArgs false
set_option linter.unusedVariables false
namespace Go.Proofs.Ytnlhgnioedalpaa.Pri
open Go.RowKit Go.Proofs.YtnlhgnioedalpaaW.PrintWords Go.Proofs.Ytnlhgnioedalpaa.PPricePlays
attribute [local go_sem] Oper.semAt_some

theorem and_wi {a b : Int} (ha : U a) (hb : U b) : U (bits .and .u64 a b) ∧ wi (bits .and .u64 a b) a = true ∧ wi (bits .and .u64 a b) b = true := by
  rw [u64_and]
  have hlt := (BitVec.ofInt 64 a &&& BitVec.ofInt 64 b).isLt
  have hU : U (((BitVec.ofInt 64 a &&& BitVec.ofInt 64 b).toNat : Nat) : Int) := ⟨by omega, by omega⟩
  have hbit : ∀ i, i < 64 → (((BitVec.ofInt 64 a &&& BitVec.ofInt 64 b).toNat : Nat) : Int).toNat.testBit i = true → a.toNat.testBit i = true ∧ b.toNat.testBit i = true := fun i hi h => by
    rw [show (((BitVec.ofInt 64 a &&& BitVec.ofInt 64 b).toNat : Nat) : Int).toNat = (BitVec.ofInt 64 a &&& BitVec.ofInt 64 b).toNat from by omega] at h
    have h2 : (BitVec.ofInt 64 a &&& BitVec.ofInt 64 b).getLsbD i = true := h
    rw [BitVec.getLsbD_and, bit_of ha, bit_of hb] at h2
    simp [hi] at h2
    exact h2
  exact ⟨hU, wi_iff.2 (fun i hi h => (hbit i hi h).1), wi_iff.2 (fun i hi h => (hbit i hi h).2)⟩
theorem wi_zero {a : Int} (ha : U a) (h : wi a 0 = true) : a = 0 := by
  refine wi_antisym ha ⟨by decide, by decide⟩ h (wi_iff.2 (fun i _ h0 => ?_))
  rw [show (0 : Int).toNat = 0 from rfl, Nat.zero_testBit] at h0
  cases h0
theorem ask_zero {es : List En} (h : Tight es) : askL es 0 = 0 := by
  have h0 := ask_nonneg es 0
  rcases ask_ge.1 (Int.le_refl (askL es 0)) with h1 | ⟨e, he, hw, h2⟩
  · omega
  · exact absurd (wi_zero (h.ok e he).1 hw) (h.ok e he).2.1
theorem ask_put_le (es : List En) (s a t : Int) : askL es t ≤ askL (putP es s a) t := by
  rw [ask_put]
  split
  · exact Int.le_max_left _ _
  · exact Int.le_refl _
theorem ask_put_ok {es : List En} {s a : Int} (h : okP es s a = true) : askL (putP es s a) s = a ∧ askL es s < a := by
  obtain ⟨h1, h2, h3⟩ := ok_iff.1 h
  rw [ask_put, if_pos ⟨h1, h2, wi_refl s⟩, Int.max_eq_right (by omega)]
  exact ⟨rfl, h3⟩
theorem put_no {es : List En} {s a : Int} (h : okP es s a = false) : putP es s a = es := by unfold putP; rw [h]; rfl
set_option maxHeartbeats 8000000 in
set_option maxRecDepth 100000 in
theorem grows_core (W : World) (v : Value) (es : List En) (h : PE W v es) (hU : UE es) (s t : Int) (hs : U s) (ht : U t) :
    Calls Try.prog 4 #[v, .int .u64 s, .int .u64 t] W fun e w' => e = .returned (.bool true) ∧ Below W.heap.size W w' := by
  have H := Lib.hid h
  obtain ⟨A, c, rfl, -⟩ := h
  by_cases hlong : 60 < es.length
  · have g1 : (60 : Int) < (es.length : Int) := by omega
    go_enter Try.func4, Try.ntmps4
    go_wp2_with fail
    refine (alive_any _).mono ?_; rintro e w1 ⟨rfl, hb1⟩
    have HB1 := Lib.hid hb1
    clear hb1
    go_wp2_with fail
    go_ret
    exact ⟨rfl, HB1.out⟩
  · have g1 : ¬ (60 : Int) < (es.length : Int) := by omega
    go_enter Try.func4, Try.ntmps4
    go_wp2_with fail
    refine (alive_any _).mono ?_; rintro e w1 ⟨rfl, hb1⟩
    obtain ⟨p, hp⟩ : ∃ p, w1.heap.size = p := ⟨_, rfl⟩
    have hS0 := sr_nil w1
    have HW := Lib.hid (show W.heap.size ≤ p by rw [← hp]; exact hb1.size)
    have HB0 := Lib.hid (hb1.alloc hb1.size (.cells #[.slice none 0 0] tS))
    rw [hp] at hS0
    have HS0 := Lib.hid hS0; have HPP := Lib.hid hp
    clear hb1 hS0 hp
    obtain ⟨hAU, hA1, hA2⟩ := and_wi hs ht
    obtain ⟨u, hu⟩ : ∃ u, bits .and .u64 s t = u := ⟨_, rfl⟩
    rw [hu] at hAU hA1 hA2
    go_wp2_with fail
    rw [HPP.out]
    go_loopw [8, 21] (fun l i wr => ∃ k : Nat, k ≤ es.length ∧ i = .int .i64 (k : Int) ∧ l = .int .i64 (askL (ofL (es.take k)) s) ∧ SR wr p (ofL (es.take k)) ∧ (ofL (es.take k)).length ≤ k ∧ Below W.heap.size W wr) (fun _ i _ => es.length - (intOf i).toNat)
    case atStart => exact ⟨0, Nat.zero_le _, rfl, rfl, HS0.out, by simp [ofL], HB0.out⟩
    case round =>
      clear HS0 HB0
      obtain ⟨k, hk, rfl, rfl, hS, hlen, hB⟩ := hrel
      by_cases hlt : k < es.length
      · obtain ⟨⟨x, y⟩, hx⟩ : ∃ x, es[k] = x := ⟨_, rfl⟩
        have hx2 : es[k]? = some (x, y) := by rw [List.getElem?_eq_getElem hlt, hx]
        have hgd : es.getD k dE = (x, y) := by rw [List.getD_eq_getElem?_getD, hx2]; rfl
        have hux : U x := hU _ (List.mem_of_getElem? hx2)
        obtain ⟨b3, off3, c4, e1, hlb, r0, r1⟩ := (H.out.below hB).at hx2
        obtain ⟨rfl, rfl⟩ : A = some ⟨b3, off3, none⟩ ∧ c = c4 := by injection e1 with e1 e2 e3; exact ⟨e1, e3⟩
        simp only at r0 r1
        obtain ⟨wa, hwa⟩ : ∃ wa, wr.alloc (.cells #[.int .u64 x, .int .i64 y] tE) = wa := ⟨_, rfl⟩
        have hal : Below wr.heap.size wr wa := by rw [← hwa]; exact (Below.refl _ wr).alloc (Nat.le_refl _) _
        have hbl : Blk wa wr.heap.size tE [.int .u64 x, .int .i64 y] := by rw [← hwa]; exact Blk.new wr _ _
        have hot := ofL_take hlt
        rw [hgd] at hot
        have HOT := Lib.hid hot
        obtain ⟨E, hE⟩ : ∃ E, ofL (es.take k) = E := ⟨_, rfl⟩
        rw [hE] at hS hlen HOT ⊢
        have HS := Lib.hid (hS.below hal); have HB := Lib.hid (hB.trans (hal.mono hB.size)); have HBL := Lib.hid hbl; have HWA := Lib.hid hwa
        have hpw := hS.pr.lt
        clear hx hx2 hgd e1 hal hbl hot hS hB hE hwa
        obtain ⟨m0, hm0⟩ : ∃ m, askL E x = m := ⟨_, rfl⟩
        obtain ⟨ls, hls⟩ : ∃ m, askL E s = m := ⟨_, rfl⟩
        have HM0 := Lib.hid hm0; have HLS := Lib.hid hls
        rw [hls]
        clear hm0 hls
        go_wp2_with fail
        rw [HWA.out]
        refine (ask_c wa p E x m0 HS.out hux HM0.out).mono ?_; rintro e wb ⟨rfl, hb⟩
        have HS2 := Lib.hid (HS.out.below hb); have HB2 := Lib.hid (HB.out.trans (hb.mono HB.out.size)); have HBL2 := Lib.hid (HBL.out.belowS hb)
        have hwb := hb.size
        have d0 := HBL2.out.cell (i := 0) rfl
        have d1 := HBL2.out.cell (i := 1) rfl
        have hwr : wr.heap.size < wb.heap.size := HBL2.out.lt
        clear hb
        obtain ⟨F, hF⟩ : ∃ F, putP E x y = F := ⟨_, rfl⟩
        obtain ⟨r, hr⟩ : ∃ r, okP E x y = r := ⟨_, rfl⟩
        have hpl := put_len E x y
        have hns := ask_put_le E x y s
        have hyes : r = true → askL F x = y ∧ m0 < y := fun e => by
          rw [← hF, ← HM0.out]
          exact ask_put_ok (hr.trans e)
        have hno : r = false → askL F x = m0 := fun e => by rw [← hF, put_no (hr.trans e)]; exact HM0.out
        have hu1 := ask_mono F hA1
        have hu2 := ask_mono F hA2
        rw [hF] at hpl hns HOT
        have PC := Lib.hid (put_c wb p E F x y r HS2.out hux hr hF (by omega))
        obtain ⟨ns, hns2⟩ : ∃ m, askL F s = m := ⟨_, rfl⟩
        obtain ⟨nu, hnu⟩ : ∃ m, askL F u = m := ⟨_, rfl⟩
        obtain ⟨nt, hnt⟩ : ∃ m, askL F t = m := ⟨_, rfl⟩
        rw [hns2, HLS.out] at hns
        rw [hnu, hns2] at hu1
        rw [hnu, hnt] at hu2
        have HNS := Lib.hid hns2; have HNU := Lib.hid hnu; have HNT := Lib.hid hnt
        have HYES := Lib.hid hyes; have HNO := Lib.hid hno
        clear hF hr hns2 hnu hnt hyes hno
        go_wp2_with fail
        refine PC.out.mono ?_; rintro e wc ⟨rfl, hS3, hg3⟩
        have HS3 := Lib.hid hS3; have HB3 := Lib.hid (HB2.out.grown hg3 HB2.out.size (fun r e => by cases e; exact HW.out)); have HBL3 := Lib.hid (HBL2.out.kept hg3 (by simp; omega))
        have e0 := HBL3.out.cell (i := 0) rfl
        have e1 := HBL3.out.cell (i := 1) rfl
        clear hS3 hg3 d0 d1
        cases r with
        | true =>
          obtain ⟨hy1, hy2⟩ := HYES.out rfl
          go_wp2_with fail
          refine (ask_c wc p F x y HS3.out hux hy1).mono ?_; rintro e wd ⟨rfl, hb⟩
          have HS4 := Lib.hid (HS3.out.below hb); have HB4 := Lib.hid (HB3.out.trans (hb.mono HB3.out.size)); have hbl4 := HBL3.out.belowS hb
          have f1 := hbl4.cell (i := 1) rfl
          have eyy : (y == y) = true := by simp
          clear hb hbl4 e0 e1 hy1
          go_wp2_with fail
          refine (ask_c wd p F s ns HS4.out hs HNS.out).mono ?_; rintro e we ⟨rfl, hb⟩
          have HS5 := Lib.hid (HS4.out.below hb); have HB5 := Lib.hid (HB4.out.trans (hb.mono HB4.out.size))
          clear hb
          go_wp2_with fail
          refine (ask_c we p F u nu HS5.out hAU HNU.out).mono ?_; rintro e wf ⟨rfl, hb⟩
          have HS6 := Lib.hid (HS5.out.below hb); have HB6 := Lib.hid (HB5.out.trans (hb.mono HB5.out.size))
          clear hb
          go_wp2_with fail
          refine (ask_c wf p F s ns HS6.out hs HNS.out).mono ?_; rintro e wg ⟨rfl, hb⟩
          have HS7 := Lib.hid (HS6.out.below hb); have HB7 := Lib.hid (HB6.out.trans (hb.mono HB6.out.size))
          clear hb
          go_wp2_with fail
          refine (ask_c wg p F u nu HS7.out hAU HNU.out).mono ?_; rintro e wh ⟨rfl, hb⟩
          have HS8 := Lib.hid (HS7.out.below hb); have HB8 := Lib.hid (HB7.out.trans (hb.mono HB7.out.size))
          clear hb
          go_wp2_with fail
          refine (ask_c wh p F t nt HS8.out ht HNT.out).mono ?_; rintro e wi ⟨rfl, hb⟩
          have HS9 := Lib.hid (HS8.out.below hb); have HB9 := Lib.hid (HB8.out.trans (hb.mono HB8.out.size))
          clear hb
          go_wp2_with fail
          refine (ask_c wi p F s ns HS9.out hs HNS.out).mono ?_; rintro e wj ⟨rfl, hb⟩
          have HS10 := Lib.hid (HS9.out.below hb); have HB10 := Lib.hid (HB9.out.trans (hb.mono HB9.out.size))
          clear hb
          go_wp2_with fail
          go_roundw
          case rel => exact ⟨k + 1, by omega, by simp, by rw [HOT.out, HNS.out], by rw [HOT.out]; exact HS10.out, by rw [HOT.out]; omega, HB10.out⟩
          case measure => simp [intOf]; omega
        | false =>
          have hy1 := HNO.out rfl
          go_wp2_with fail
          refine (ask_c wc p F x m0 HS3.out hux hy1).mono ?_; rintro e wd ⟨rfl, hb⟩
          have HS4 := Lib.hid (HS3.out.below hb); have HB4 := Lib.hid (HB3.out.trans (hb.mono HB3.out.size)); have hbl4 := HBL3.out.belowS hb
          have f1 := hbl4.cell (i := 1) rfl
          have eyy : (m0 == m0) = true := by simp
          clear hb hbl4 e0 e1 hy1
          go_wp2_with fail
          refine (ask_c wd p F s ns HS4.out hs HNS.out).mono ?_; rintro e we ⟨rfl, hb⟩
          have HS5 := Lib.hid (HS4.out.below hb); have HB5 := Lib.hid (HB4.out.trans (hb.mono HB4.out.size))
          clear hb
          go_wp2_with fail
          refine (ask_c we p F u nu HS5.out hAU HNU.out).mono ?_; rintro e wf ⟨rfl, hb⟩
          have HS6 := Lib.hid (HS5.out.below hb); have HB6 := Lib.hid (HB5.out.trans (hb.mono HB5.out.size))
          clear hb
          go_wp2_with fail
          refine (ask_c wf p F s ns HS6.out hs HNS.out).mono ?_; rintro e wg ⟨rfl, hb⟩
          have HS7 := Lib.hid (HS6.out.below hb); have HB7 := Lib.hid (HB6.out.trans (hb.mono HB6.out.size))
          clear hb
          go_wp2_with fail
          refine (ask_c wg p F u nu HS7.out hAU HNU.out).mono ?_; rintro e wh ⟨rfl, hb⟩
          have HS8 := Lib.hid (HS7.out.below hb); have HB8 := Lib.hid (HB7.out.trans (hb.mono HB7.out.size))
          clear hb
          go_wp2_with fail
          refine (ask_c wh p F t nt HS8.out ht HNT.out).mono ?_; rintro e wi ⟨rfl, hb⟩
          have HS9 := Lib.hid (HS8.out.below hb); have HB9 := Lib.hid (HB8.out.trans (hb.mono HB8.out.size))
          clear hb
          go_wp2_with fail
          refine (ask_c wi p F s ns HS9.out hs HNS.out).mono ?_; rintro e wj ⟨rfl, hb⟩
          have HS10 := Lib.hid (HS9.out.below hb); have HB10 := Lib.hid (HB9.out.trans (hb.mono HB9.out.size))
          clear hb
          go_wp2_with fail
          go_roundw
          case rel => exact ⟨k + 1, by omega, by simp, by rw [HOT.out, HNS.out], by rw [HOT.out]; exact HS10.out, by rw [HOT.out]; omega, HB10.out⟩
          case measure => simp [intOf]; omega
      · obtain rfl : k = es.length := by omega
        rw [List.take_length] at hS hlen
        have hz := ask_zero hS.ti
        have HS := Lib.hid hS; have HB := Lib.hid hB
        clear hS hB
        go_wp2_with fail
        refine (ask_c _ p _ 0 0 HS.out ⟨by decide, by decide⟩ hz).mono ?_; rintro e w2 ⟨rfl, hb2⟩
        have HB2 := Lib.hid (HB.out.trans (hb2.mono HB.out.size))
        clear hb2
        go_wp2_with fail
        go_ret
        exact ⟨rfl, HB2.out⟩

theorem U_wf {x : Int} (h : (Lit.int .u64 x).wf = true) : U x := by
  unfold Lit.wf at h
  rw [Bool.and_eq_true, decide_eq_true_eq, decide_eq_true_eq] at h
  have h2 : x ≤ 18446744073709551615 := h.2
  exact ⟨h.1, by omega⟩
def frE (x : S41) : En := (x.f0, x.f1)
theorem frE_toE (z : List S41) : (z.map frE).map toE = z := by
  rw [List.map_map]
  exact List.map_id' z
theorem pe_row {W : World} {z : List S41} {A : Option Addr} {c : Nat} (hc : z.length ≤ c) (hA : A = none → c = 0) (hC : k41.C W A z.length z) : PE W (.slice A z.length c) (z.map frE) :=
  ⟨A, c, by rw [List.length_map], by rw [List.length_map]; exact hc, hA, by rw [frE_toE, List.length_map]; exact hC⟩
theorem ue_row {z : List S41} (hG : ∀ x ∈ z, (Lit.int .u64 x.f0).wf = true ∧ (Lit.int .i64 x.f1).wf = true) : UE (z.map frE) := fun e he => by
  obtain ⟨x, hx, rfl⟩ := List.mem_map.1 he
  exact U_wf (hG x hx).1
theorem grows_row (W : World) (z : List S41) (A : Option Addr) (c : Nat) (hc : z.length ≤ c) (hA : A = none → c = 0) (hC : k41.C W A z.length z) (_ : z.length ≤ maxLen) (hG : ∀ x ∈ z, (Lit.int .u64 x.f0).wf = true ∧ (Lit.int .i64 x.f1).wf = true) (s : Int) (hs : (Lit.int .u64 s).wf = true) (t : Int) (ht : (Lit.int .u64 t).wf = true) :
    Calls Try.prog 4 #[.slice A z.length c, .int .u64 s, .int .u64 t] W fun e w' => e = .returned (.bool true) ∧ Below W.heap.size W w' :=
  grows_core W _ (z.map frE) (pe_row hc hA hC) (ue_row hG) s t (U_wf hs) (U_wf ht)

end Go.Proofs.Ytnlhgnioedalpaa.Pri
