/- CheckBids: whether all bids may be, and which was the last one, is as the document says. -/
import Derived.Test.YtnlhgnioedalpaaChkAl
import Derived.Test.YtnlhgnioedalpaaChkD
import Derived.Test.YtnlhgnioedalpaaPCheckBidsx0
set_option linter.unusedSimpArgs false
set_option linter.unusedVariables false
namespace Go.Proofs.Ytnlhgnioedalpaa.Pri
open Go.RowKit Go.Proofs.YtnlhgnioedalpaaW.PrintWords Go.Proofs.Ytnlhgnioedalpaa.PPricePlays Go.Maps
attribute [local go_sem] Oper.semAt_some

/-- a store, and the document's entries, and what came in -/
structure CB (W : World) (p : Nat) (vx vb vn : Value) (P bs now : List En) (W' : World) : Prop where
  s : SR W' p P
  x : PE W' vx P
  b : PE W' vb bs
  n : PE W' vn now
  bel : Below W.heap.size W W'
theorem CB.below {W : World} {p : Nat} {vx vb vn : Value} {P bs now : List En} {A B : World} (h : CB W p vx vb vn P bs now A) (hb : Below A.heap.size A B) : CB W p vx vb vn P bs now B := ⟨h.s.below hb, h.x.below hb, h.b.below hb, h.n.below hb, h.bel.trans (hb.mono h.bel.size)⟩
theorem rone_c (W : World) (v : Value) (es : List En) (x y items r : Int) (h : PE W v es) (hE : UE es) (hl : es.length ≤ 1099511627776) (hx : U x) (hi : U items) (hr : oneN (x, y) es items = r) :
    Calls Try.prog 33 #[.agg #[.int .u64 x, .int .i64 y], v, .int .u64 items] W fun e w' => e = .returned (.int .i64 r) ∧ Below W.heap.size W w' := by
  have := rone_any W v es x y items h hE hl hx hi
  rw [hr] at this
  exact this
set_option maxHeartbeats 8000000 in
set_option maxRecDepth 100000 in
theorem bids_core (W : World) (v u t : Value) (bs now es : List En) (h : PE W v bs) (hU : UE bs) (k : PE W u now) (j : PE W t es) (jU : UE es) (items : Int) (hi : U items) :
    Calls Try.prog 8 #[v, u, t, .int .u64 items] W fun e w' => e = .returned (.bool true) ∧ Below W.heap.size W w' := by
  have H := Lib.hid h; have K := Lib.hid k; have J := Lib.hid j
  obtain ⟨A1, c1, rfl, -⟩ := h
  obtain ⟨A2, c2, rfl, -⟩ := k
  obtain ⟨A3, c3, rfl, -⟩ := j
  by_cases hlong : 80 < bs.length ∨ 80 < now.length ∨ 30 < es.length
  · have d1 : (80 : Int) < (bs.length : Int) ∨ ¬ (80 : Int) < (bs.length : Int) := by omega
    have d2 : (80 : Int) < (now.length : Int) ∨ ¬ (80 : Int) < (now.length : Int) := by omega
    have d3 : (30 : Int) < (es.length : Int) ∨ ¬ (30 : Int) < (es.length : Int) := by omega
    go_enter Try.func8, Try.ntmps8
    go_wp2_with fail
    refine (aliveC_any _).mono ?_; rintro e w1 ⟨rfl, hb1⟩
    have HB1 := Lib.hid hb1
    clear hb1
    rcases d1 with g1 | g1
    · go_wp2_with fail
      go_ret
      exact ⟨rfl, HB1.out⟩
    · rcases d2 with g2 | g2
      · go_wp2_with fail
        go_ret
        exact ⟨rfl, HB1.out⟩
      · rcases d3 with g3 | g3
        · go_wp2_with fail
          go_ret
          exact ⟨rfl, HB1.out⟩
        · omega
  · have g1 : ¬ (80 : Int) < (bs.length : Int) := by omega
    have g2 : ¬ (80 : Int) < (now.length : Int) := by omega
    have g3 : ¬ (30 : Int) < (es.length : Int) := by omega
    go_enter Try.func8, Try.ntmps8
    go_wp2_with fail
    refine (aliveC_any _).mono ?_; rintro e w1 ⟨rfl, hb1⟩
    have HB1 := Lib.hid hb1
    clear hb1
    go_wp2_with fail
    refine (of_any w1 _ es (J.out.below HB1.out) jU (by omega)).mono ?_; rintro e w2 ⟨rfl, hS2, hl2, hb2⟩
    obtain ⟨p, hp⟩ : ∃ p, w1.heap.size = p := ⟨_, rfl⟩
    rw [hp] at hS2 ⊢
    have HS2 := Lib.hid hS2; have HB2 := Lib.hid (HB1.out.trans (hb2.mono HB1.out.size))
    clear hS2 hb2 hp
    go_wp2_with fail
    refine (rof_any w2 _ es (J.out.below HB2.out) jU (by omega)).mono ?_; rintro e w3 ⟨vx, rfl, hpe, hb3⟩
    obtain ⟨P, hPe⟩ : ∃ P, ofL es = P := ⟨_, rfl⟩
    rw [hPe] at hpe hl2 HS2
    have HC3 := Lib.hid (show CB W p vx (.slice A1 bs.length c1) (.slice A2 now.length c2) P bs now w3 from ⟨HS2.out.below hb3, hpe, H.out.below (HB2.out.trans (hb3.mono HB2.out.size)), K.out.below (HB2.out.trans (hb3.mono HB2.out.size)), HB2.out.trans (hb3.mono HB2.out.size)⟩)
    obtain ⟨Ax, cx, rfl, -⟩ := hpe
    clear hPe hb3
    go_wp2_with fail
    go_loopw [34] (fun i wr => ∃ k : Nat, k ≤ bs.length ∧ i = .int .i64 (k : Int) ∧ CB W p (.slice Ax P.length cx) (.slice A1 bs.length c1) (.slice A2 now.length c2) P bs now wr) (fun i _ => bs.length - (intOf i).toNat)
    case atStart => exact ⟨0, Nat.zero_le _, rfl, HC3.out⟩
    case round =>
      clear HC3
      obtain ⟨k, hk, rfl, hI⟩ := hrel
      have HI := Lib.hid hI
      clear hI
      by_cases hlt : k < bs.length
      · obtain ⟨⟨x, y⟩, hx⟩ : ∃ x, bs[k] = x := ⟨_, rfl⟩
        have hx2 : bs[k]? = some (x, y) := by rw [List.getElem?_eq_getElem hlt, hx]
        have hux : U x := hU _ (List.mem_of_getElem? hx2)
        obtain ⟨b3, off3, c4, e1, hlb, r0, r1⟩ := HI.out.b.at hx2
        obtain ⟨rfl, rfl⟩ : A1 = some ⟨b3, off3, none⟩ ∧ c1 = c4 := by injection e1 with e1 e2 e3; exact ⟨e1, e3⟩
        simp only at r0 r1
        have hal : Below wr.heap.size wr (wr.alloc (.cells #[.int .u64 x, .int .i64 y] tB)) := (Below.refl _ wr).alloc (Nat.le_refl _) _
        have hI2 := (HI.out.below hal).below ((Below.refl _ _).drew)
        obtain ⟨o, ho⟩ : ∃ o, oneN (x, y) P items = o := ⟨_, rfl⟩
        obtain ⟨a, ha⟩ : ∃ a, askL P x = a := ⟨_, rfl⟩
        have C1 := fun (w : World) (hw : CB W p (.slice Ax P.length cx) (.slice (some ⟨b3, off3, none⟩) bs.length c1) (.slice A2 now.length c2) P bs now w) => one_c w p P x y items o hw.s hux hi ho
        have C2 := fun (w : World) (hw : CB W p (.slice Ax P.length cx) (.slice (some ⟨b3, off3, none⟩) bs.length c1) (.slice A2 now.length c2) P bs now w) => rone_c w _ P x y items o hw.x hw.s.ue (by omega) hux hi ho
        have C3 := fun (w : World) (hw : CB W p (.slice Ax P.length cx) (.slice (some ⟨b3, off3, none⟩) bs.length c1) (.slice A2 now.length c2) P bs now w) => last_c w p P x y (decide (y < a)) hw.s hux (by rw [ha])
        have C4 := fun (w : World) (hw : CB W p (.slice Ax P.length cx) (.slice (some ⟨b3, off3, none⟩) bs.length c1) (.slice A2 now.length c2) P bs now w) => rask_c w _ P x a hw.x hw.s.ue hux (by omega) ha
        have H1 := Lib.hid C1; have H2 := Lib.hid C2; have H3 := Lib.hid C3; have H4 := Lib.hid C4; have HI2 := Lib.hid hI2
        have q0 := (blkB wr x y).cell (i := 0) rfl
        have q1 := (blkB wr x y).cell (i := 1) rfl
        have hbl := (blkB wr x y).drew
        have HBL := Lib.hid hbl
        clear hx hx2 e1 hal hI2 ho ha C1 C2 C3 C4 hbl
        go_wp2_with fail
        go_region_held3 (fun w' => w'.cell? ⟨wr.heap.size, 0, none⟩ = some (.int .u64 x) ∧ w'.cell? ⟨wr.heap.size, 1, none⟩ = some (.int .i64 y)) (go_keep) ((first
          | (go_at_call 32; refine (H1.out _ HI2.out).mono ?_; rintro e wa ⟨rfl, hba⟩; have hBa := HBL.out.belowS hba; have HIa := HI2.out.below hba; have ka := hBa.cell (i := 0) rfl; have ka1 := hBa.cell (i := 1) rfl)
          | (go_at_call 33; refine (H2.out _ HIa).mono ?_; rintro e wb ⟨rfl, hbb⟩; have hBb := hBa.belowS hbb; have HIb := HIa.below hbb; have kb := hBb.cell (i := 0) rfl; have kb1 := hBb.cell (i := 1) rfl)
          | (go_at_call 34; refine (H3.out _ HIb).mono ?_; rintro e wc ⟨rfl, hbc⟩; have hBc := hBb.belowS hbc; have HIc := HIb.below hbc; have kc := hBc.cell (i := 0) rfl; have kc1 := hBc.cell (i := 1) rfl)
          | (go_at_call 22; refine (H4.out _ HIc).mono ?_; rintro e wd ⟨rfl, hbd⟩; have hBd := hBc.belowS hbd; have HId := HIc.below hbd; have kd := hBd.cell (i := 0) rfl; have kd1 := hBd.cell (i := 1) rfl)))
        have HN := Lib.hid HId
        clear hba hBa HIa ka ka1 hbb hBb HIb kb kb1 hbc hBc HIc kc kc1 hbd hBd HId kd kd1 q0 q1
        go_wp2_with fail
        go_roundw
        case rel => exact ⟨k + 1, by omega, by simp, HN.out⟩
        case measure => simp [intOf]; omega
      · obtain rfl : k = bs.length := by omega
        obtain ⟨o, ho⟩ : ∃ o, allN bs P items = o := ⟨_, rfl⟩
        obtain ⟨q, hq⟩ : ∃ q, keptB bs now P = q := ⟨_, rfl⟩
        have HO := Lib.hid ho; have HQ := Lib.hid hq
        clear ho hq
        go_wp2_with fail
        refine (all_any wr _ bs HI.out.b hU p P HI.out.s items hi).mono ?_; rintro e wa ⟨rfl, hb⟩
        rw [HO.out]
        have HIa := Lib.hid (HI.out.below hb)
        clear hb
        go_wp2_with fail
        refine (rall_any wa _ bs HIa.out.b hU _ P HIa.out.x HIa.out.s.ue (by omega) items hi).mono ?_; rintro e wb ⟨rfl, hb⟩
        rw [HO.out]
        have HIb := Lib.hid (HIa.out.below hb)
        clear hb
        go_wp2_with fail
        refine (kept_any wb _ _ bs now HIb.out.b hU (by omega) HIb.out.n (by omega) p P HIb.out.s).mono ?_; rintro e wc ⟨rfl, hb⟩
        rw [HQ.out]
        have HIc := Lib.hid (HIb.out.below hb)
        clear hb
        go_wp2_with fail
        refine (rkept_any wc _ _ _ bs now HIc.out.b hU HIc.out.n (by omega) (by omega) P HIc.out.x HIc.out.s.ue (by omega)).mono ?_; rintro e wd ⟨rfl, hb⟩
        rw [HQ.out]
        have HId := Lib.hid (HIc.out.below hb)
        clear hb
        go_wp2_with fail
        go_ret
        exact ⟨by simp, HId.out.bel⟩
/-- a slice of bids that came in -/
theorem pb_row {W : World} {z : List (Go.Proofs.Ytnlhgnioedalpaa.PCheckBids.S57)} {A : Option Addr} {c : Nat} (hc : z.length ≤ c) (hA : A = none → c = 0) (hC : Go.Proofs.Ytnlhgnioedalpaa.PCheckBids.k57.C W A z.length z) : PE W (.slice A z.length c) (z.map (fun x => (x.f0, x.f1))) := by
  refine ⟨A, c, by rw [List.length_map], by rw [List.length_map]; exact hc, hA, ?_⟩
  rw [List.length_map]
  refine ⟨by simp, hC.2.1, fun hpos => ?_⟩
  obtain ⟨a, rfl, hr⟩ := hC.2.2 hpos
  refine ⟨a, rfl, fun j x hx => ?_⟩
  rw [List.getElem?_map, List.getElem?_map] at hx
  cases hq : z[j]? with
  | none => rw [hq] at hx; simp at hx
  | some q =>
    rw [hq] at hx
    obtain ⟨cs, hl, hk, hcc⟩ := hr j q hq
    obtain rfl := Go.Proofs.Ytnlhgnioedalpaa.PCheckBids.k57_open hk
    obtain rfl : (⟨q.f0, q.f1⟩ : S41) = x := by simpa [toE] using hx
    exact ⟨_, hl, k41_mk W _, hcc⟩
theorem pb_row41 {W : World} {z : List (Go.Proofs.Ytnlhgnioedalpaa.PCheckBids.S41)} {A : Option Addr} {c : Nat} (hc : z.length ≤ c) (hA : A = none → c = 0) (hC : Go.Proofs.Ytnlhgnioedalpaa.PCheckBids.k41.C W A z.length z) : PE W (.slice A z.length c) (z.map (fun x => (x.f0, x.f1))) := by
  refine ⟨A, c, by rw [List.length_map], by rw [List.length_map]; exact hc, hA, ?_⟩
  rw [List.length_map]
  refine ⟨by simp, hC.2.1, fun hpos => ?_⟩
  obtain ⟨a, rfl, hr⟩ := hC.2.2 hpos
  refine ⟨a, rfl, fun j x hx => ?_⟩
  rw [List.getElem?_map, List.getElem?_map] at hx
  cases hq : z[j]? with
  | none => rw [hq] at hx; simp at hx
  | some q =>
    rw [hq] at hx
    obtain ⟨cs, hl, hk, hcc⟩ := hr j q hq
    obtain rfl := Go.Proofs.Ytnlhgnioedalpaa.PCheckBids.k41_open hk
    obtain rfl : (⟨q.f0, q.f1⟩ : S41) = x := by simpa [toE] using hx
    exact ⟨_, hl, k41_mk W _, hcc⟩
theorem bids_row (W : World) (z : List (Go.Proofs.Ytnlhgnioedalpaa.PCheckBids.S57)) (A : Option Addr) (c : Nat) (hc : z.length ≤ c) (hA : A = none → c = 0) (hC : Go.Proofs.Ytnlhgnioedalpaa.PCheckBids.k57.C W A z.length z) (_ : z.length ≤ maxLen) (hG : ∀ x ∈ z, (Lit.int .u64 x.f0).wf = true ∧ (Lit.int .i64 x.f1).wf = true)
    (z1 : List (Go.Proofs.Ytnlhgnioedalpaa.PCheckBids.S57)) (A1 : Option Addr) (c1 : Nat) (hc1 : z1.length ≤ c1) (hA1 : A1 = none → c1 = 0) (hC1 : Go.Proofs.Ytnlhgnioedalpaa.PCheckBids.k57.C W A1 z1.length z1) (_ : z1.length ≤ maxLen) (hG1 : ∀ x ∈ z1, (Lit.int .u64 x.f0).wf = true ∧ (Lit.int .i64 x.f1).wf = true)
    (z2 : List (Go.Proofs.Ytnlhgnioedalpaa.PCheckBids.S41)) (A2 : Option Addr) (c2 : Nat) (hc2 : z2.length ≤ c2) (hA2 : A2 = none → c2 = 0) (hC2 : Go.Proofs.Ytnlhgnioedalpaa.PCheckBids.k41.C W A2 z2.length z2) (_ : z2.length ≤ maxLen) (hG2 : ∀ x ∈ z2, (Lit.int .u64 x.f0).wf = true ∧ (Lit.int .i64 x.f1).wf = true)
    (n : Int) (hn : (Lit.int .u64 n).wf = true) :
    Calls Try.prog 8 #[.slice A z.length c, .slice A1 z1.length c1, .slice A2 z2.length c2, .int .u64 n] W fun e w' => e = .returned (.bool true) ∧ Below W.heap.size W w' := by
  have ue57 : ∀ (z : List (Go.Proofs.Ytnlhgnioedalpaa.PCheckBids.S57)), (∀ x ∈ z, (Lit.int .u64 x.f0).wf = true ∧ (Lit.int .i64 x.f1).wf = true) → UE (z.map (fun x => (x.f0, x.f1))) := fun z hG e he => by
    obtain ⟨x, hx, rfl⟩ := List.mem_map.1 he
    exact U_wf (hG x hx).1
  have h1 := pb_row hc hA hC
  have h2 := pb_row hc1 hA1 hC1
  have h3 := pb_row41 hc2 hA2 hC2
  exact bids_core W _ _ _ _ _ _ h1 (ue57 z hG) h2 h3 (fun e he => by
    obtain ⟨x, hx, rfl⟩ := List.mem_map.1 he
    exact U_wf (hG2 x hx).1) n (U_wf hn)
end Go.Proofs.Ytnlhgnioedalpaa.Pri
