/- check: the document's functions. -/
import Derived.Test.YtnlhgnioedalpaaChkB
import Derived.Test.YtnlhgnioedalpaaPriR
import Derived.BigQuiet
import Derived.WalkSmall
set_option linter.unusedSimpArgs false
set_option linter.unusedVariables false
namespace Go.Proofs.Ytnlhgnioedalpaa.Pri
open Go.RowKit Go.Proofs.YtnlhgnioedalpaaW.PrintWords Go.Proofs.Ytnlhgnioedalpaa.PPricePlays Go.Maps
attribute [local go_sem] Oper.semAt_some

theorem rwithin_any (W : World) (a b : Int) (ha : U a) (hb : U b) : Calls Try.prog 60 #[.int .u64 a, .int .u64 b] W fun e w' => e = .returned (.bool (wi a b)) ∧ Below W.heap.size W w' := by
  obtain ⟨n, hn⟩ := (within_ev ha hb).rounds
  exact (saleroomref02_Within.calls n a b (wi a b) W hn).mono fun e w' ⟨x, y⟩ => ⟨x, y.below⟩
theorem rask_c (W : World) (v : Value) (l : List En) (s a : Int) (h : PE W v l) (hU : UE l) (hs : U s) (hl : l.length ≤ 1099511627776) (ha : askL l s = a) :
    Calls Try.prog 22 #[v, .int .u64 s] W fun e w' => e = .returned (.int .i64 a) ∧ Below W.heap.size W w' := by
  have := rask_any W v l s h hU hs hl
  rw [ha] at this
  exact this
theorem rright_any (W : World) (x y : Int) : Calls Try.prog 72 #[.agg #[.int .u64 x, .int .i64 y]] W fun e w' => e = .returned (.bool (rightB (x, y))) ∧ Below W.heap.size W w' := by
  have HB := Lib.hid (show Below W.heap.size W (W.alloc (.cells #[.int .u64 x, .int .i64 y] tB)) from (Below.refl _ W).alloc (Nat.le_refl _) _)
  have c0 := (blkB W x y).cell (i := 0) rfl
  have c1 := (blkB W x y).cell (i := 1) rfl
  unfold rightB
  by_cases h0 : x = 0
  · subst h0
    go_enter Try.func72, Try.ntmps72
    go_wp2_with fail
    go_ret
    exact ⟨by simp, HB.out⟩
  · by_cases h1 : 0 ≤ y
    · by_cases h2 : y ≤ 2199023255552
      · go_enter Try.func72, Try.ntmps72
        go_wp2_with fail
        go_ret
        exact ⟨by simp [h0, h1, h2], HB.out⟩
      · go_enter Try.func72, Try.ntmps72
        go_wp2_with fail
        go_ret
        exact ⟨by simp [h0, h1, h2], HB.out⟩
    · go_enter Try.func72, Try.ntmps72
      go_wp2_with fail
      go_ret
      exact ⟨by simp [h0, h1]; omega, HB.out⟩
set_option maxRecDepth 100000 in
set_option maxHeartbeats 4000000 in
theorem rone_any (W : World) (v : Value) (es : List En) (x y items : Int) (h : PE W v es) (hE : UE es) (hl : es.length ≤ 1099511627776) (hx : U x) (hi : U items) :
    Calls Try.prog 33 #[.agg #[.int .u64 x, .int .i64 y], v, .int .u64 items] W fun e w' => e = .returned (.int .i64 (oneN (x, y) es items)) ∧ Below W.heap.size W w' := by
  have hal : Below W.heap.size W (W.alloc (.cells #[.int .u64 x, .int .i64 y] tB)) := (Below.refl _ W).alloc (Nat.le_refl _) _
  have hb := blkB W x y
  have c0 := hb.cell (i := 0) rfl
  have c1 := hb.cell (i := 1) rfl
  obtain ⟨r, hr⟩ : ∃ r, rightB (x, y) = r := ⟨_, rfl⟩
  obtain ⟨wv, hw⟩ : ∃ wv, wi x items = wv := ⟨_, rfl⟩
  obtain ⟨a, ha⟩ : ∃ a, askL es x = a := ⟨_, rfl⟩
  have e1 : oneN (x, y) es items = if r = false ∨ wv = false then 1 else if a < y then 50 else 0 := by unfold oneN; rw [hr, hw, ha]
  rw [e1]
  have RI := rright_any (W.alloc (.cells #[.int .u64 x, .int .i64 y] tB)) x y
  rw [hr] at RI
  have WI := fun (w : World) => rwithin_any w x items hx hi
  rw [hw] at WI
  have AK := fun (w : World) (hw : PE w v es) => rask_c w v es x a hw hE hx hl ha
  have HRI := Lib.hid RI; have HWI := Lib.hid WI
  have HAK := Lib.hid AK; have HS := Lib.hid (h.below hal); have HB := Lib.hid hal; have HBL := Lib.hid hb
  clear h hal hb AK ha hr hw RI WI e1
  obtain ⟨Av, cv, rfl, -⟩ := id HS.out
  go_enter Try.func33, Try.ntmps33
  go_wp2_with fail
  refine HRI.out.mono ?_; rintro e w1 ⟨rfl, hb1⟩
  have HB1 := Lib.hid (HB.out.trans (hb1.mono HB.out.size)); have HS1 := Lib.hid (HS.out.below hb1); have HBL1 := Lib.hid (HBL.out.belowS hb1)
  have d0 := HBL1.out.cell (i := 0) rfl
  have d1 := HBL1.out.cell (i := 1) rfl
  clear hb1 c0 c1
  cases r with
  | false =>
    go_wp2_with fail
    go_ret
    exact ⟨by simp, HB1.out⟩
  | true =>
    go_wp2_with fail
    refine (HWI.out _).mono ?_; rintro e w1b ⟨rfl, hbw⟩
    have HB1 := Lib.hid (HB1.out.trans (hbw.mono HB1.out.size)); have HS1 := Lib.hid (HS1.out.below hbw); have HBL1 := Lib.hid (HBL1.out.belowS hbw)
    have d0 := HBL1.out.cell (i := 0) rfl
    have d1 := HBL1.out.cell (i := 1) rfl
    clear hbw
    cases wv with
    | false =>
      go_wp2_with fail
      go_ret
      exact ⟨by simp, HB1.out⟩
    | true =>
      go_wp2_with fail
      go_region_held3 (fun w' => w'.cell? ⟨W.heap.size, 0, none⟩ = some (.int .u64 x) ∧ w'.cell? ⟨W.heap.size, 1, none⟩ = some (.int .i64 y)) (go_keep) ((go_at_call 22; refine (HAK.out _ (HS1.out.below ((Below.refl _ _).drew))).mono ?_; rintro e w2 ⟨rfl, hb2⟩; have q0 := ((HBL1.out.drew).belowS hb2).cell (i := 0) rfl; have q1 := ((HBL1.out.drew).belowS hb2).cell (i := 1) rfl))
      all_goals
        have HB2 := Lib.hid (HB1.out.trans ((Below.drew (Below.refl _ _)).trans (hb2.mono (Nat.le_refl _)) |>.mono HB1.out.size))
        clear q0 q1 hb2
        by_cases hay : a < y
        · go_wp2_with fail
          go_ret
          exact ⟨by simp [hay], HB2.out⟩
        · go_wp2_with fail
          go_ret
          exact ⟨by simp [hay], HB2.out⟩
/-- the sets of the first k bids, the last one first -/
def seenL (bs : List En) (k : Nat) : List Int := ((bs.take k).map Prod.fst).reverse
theorem seenL_succ {bs : List En} {k : Nat} (hk : k < bs.length) : seenL bs (k + 1) = (bs[k]).1 :: seenL bs k := by
  unfold seenL
  rw [List.take_succ_eq_append_getElem hk, List.map_append, List.reverse_append]
  rfl
theorem seenL_mem {bs : List En} {k : Nat} (hk : k ≤ bs.length) (s : Int) : (seenL bs k).contains s = true ↔ ∃ j, j < k ∧ (bs.getD j dE).1 = s := by
  unfold seenL
  rw [List.contains_iff_mem, List.mem_reverse, List.mem_map]
  constructor
  · rintro ⟨e, he, rfl⟩
    obtain ⟨j, hj, rfl⟩ := List.getElem_of_mem he
    rw [List.length_take] at hj
    exact ⟨j, by omega, by rw [List.getElem_take]; simp [List.getD, show j < bs.length by omega]⟩
  · rintro ⟨j, hj, rfl⟩
    have hjl : j < bs.length := by omega
    refine ⟨bs[j], ?_, by simp [List.getD, hjl]⟩
    rw [List.mem_iff_getElem]
    exact ⟨j, by rw [List.length_take]; omega, by rw [List.getElem_take]⟩
set_option maxRecDepth 100000 in
set_option maxHeartbeats 4000000 in
theorem rall_any (W : World) (v : Value) (bs : List En) (hv : PE W v bs) (hU : UE bs) (u : Value) (es : List En) (h : PE W u es) (hE : UE es) (hl : es.length ≤ 1099511627776) (items : Int) (hi : U items) :
    Calls Try.prog 36 #[v, u, .int .u64 items] W fun e w' => e = .returned (.int .i64 (allN bs es items)) ∧ Below W.heap.size W w' := by
  have HV := Lib.hid hv; have HS := Lib.hid h
  obtain ⟨A, c, rfl, -⟩ := hv
  obtain ⟨Au, cu, rfl, -⟩ := h
  unfold allN
  by_cases hlong : 64 < bs.length
  · have g1 : (64 : Int) < (bs.length : Int) := by omega
    go_enter Try.func36, Try.ntmps36
    go_wp2_with fail
    go_ret
    exact ⟨rfl, Below.refl _ W⟩
  · have g1 : ¬ (64 : Int) < (bs.length : Int) := by omega
    rw [if_neg hlong]
    obtain ⟨R, hR⟩ : ∃ R, allR es items [] bs = R := ⟨_, rfl⟩
    have HR := Lib.hid (show allR es items (seenL bs 0) (bs.drop 0) = R from by rw [List.drop_zero]; exact hR)
    rw [hR]
    clear hR
    go_enter Try.func36, Try.ntmps36
    go_wp2_with fail
    go_loopw [7] (fun i wr => ∃ k : Nat, k ≤ bs.length ∧ i = .int .i64 (k : Int) ∧ Below W.heap.size W wr ∧ allR es items (seenL bs k) (bs.drop k) = R) (fun i _ => bs.length - (intOf i).toNat)
    case atStart => exact ⟨0, Nat.zero_le _, rfl, Below.refl _ W, HR.out⟩
    case round =>
      clear HR
      obtain ⟨k, hk, rfl, hB, hR⟩ := hrel
      by_cases hlt : k < bs.length
      · obtain ⟨⟨x, y⟩, hx⟩ : ∃ x, bs[k] = x := ⟨_, rfl⟩
        have hx2 : bs[k]? = some (x, y) := by rw [List.getElem?_eq_getElem hlt, hx]
        have hux : U x := hU _ (List.mem_of_getElem? hx2)
        obtain ⟨b3, off3, c4, e1, hlb, r0, r1⟩ := (HV.out.below hB).at hx2
        obtain ⟨rfl, rfl⟩ : A = some ⟨b3, off3, none⟩ ∧ c = c4 := by injection e1 with e1 e2 e3; exact ⟨e1, e3⟩
        simp only at r0 r1
        have hdr : bs.drop k = (x, y) :: bs.drop (k + 1) := by rw [← hx]; exact (List.getElem_cons_drop ..).symm
        have hsu : seenL bs (k + 1) = x :: seenL bs k := by rw [seenL_succ hlt, hx]
        rw [hdr] at hR
        simp only [allR] at hR
        rw [← hsu] at hR
        have ON := rone_any _ _ es x y items (HS.out.below hB) hE hl hux hi
        obtain ⟨o, ho⟩ : ∃ o, oneN (x, y) es items = o := ⟨_, rfl⟩
        rw [ho] at ON hR
        have HON := Lib.hid ON; have HR := Lib.hid hR; have HB1 := Lib.hid hB
        have HX2 := Lib.hid hx2
        clear hx hx2 e1 hdr hR ON ho hB hsu
        go_wp2_with fail
        refine HON.out.mono ?_; rintro e w1 ⟨rfl, hb1⟩
        have HB2 := Lib.hid (HB1.out.trans (hb1.mono HB1.out.size))
        clear hb1 r0 r1
        by_cases ho : o = 0
        · subst ho
          have HR2 := Lib.hid (show (if (seenL bs k).contains x = true then 5 else allR es items (seenL bs (k + 1)) (bs.drop (k + 1))) = R from by have := HR.out; rwa [if_neg (by simp)] at this)
          clear HR HON
          go_wp2_with fail
          go_loopw [9] (fun i ws => ∃ j : Nat, j ≤ k ∧ i = .int .i64 (j : Int) ∧ Below W.heap.size W ws ∧ ∀ j', j' < j → (bs.getD j' dE).1 ≠ x) (fun i _ => k - (intOf i).toNat)
          case atStart => exact ⟨0, Nat.zero_le _, rfl, HB2.out, fun j' hj => by omega⟩
          case round =>
            obtain ⟨j, hj, rfl, hB, hno⟩ := hrel
            have HNO := Lib.hid hno
            clear hno
            by_cases hjk : j < k
            · have hjl : j < bs.length := by omega
              obtain ⟨⟨x2, y2⟩, hx⟩ : ∃ x, bs[j] = x := ⟨_, rfl⟩
              have hj2 : bs[j]? = some (x2, y2) := by rw [List.getElem?_eq_getElem hjl, hx]
              have hgd : bs.getD j dE = (x2, y2) := by rw [List.getD_eq_getElem?_getD, hj2]; rfl
              obtain ⟨b4, off4, c5, e1, hlb4, s0, s1⟩ := (HV.out.below hB).at hj2
              obtain ⟨rfl, rfl⟩ : b3 = b4 ∧ off3 = off4 := by injection e1 with e1 _ _; injection e1 with e1; injection e1 with e1 e2; exact ⟨e1, e2⟩
              obtain ⟨b5, off5, c6, e2, hlb5, t0, t1⟩ := (HV.out.below hB).at HX2.out
              obtain ⟨rfl, rfl⟩ : b3 = b5 ∧ off3 = off5 := by injection e2 with e1 _ _; injection e1 with e1; injection e1 with e1 e2; exact ⟨e1, e2⟩
              simp only at s0 s1 t0 t1
              have HB := Lib.hid hB; have HG := Lib.hid hgd
              clear hx hj2 hgd e1 e2 hB
              by_cases hxx : x2 = x
              · subst hxx
                have HR3 := Lib.hid (show (5 : Int) = R from by have := HR2.out; rwa [if_pos ((seenL_mem hk _).2 ⟨j, hjk, by rw [HG.out]⟩)] at this)
                go_wp2_with fail
                go_region_with (fail)
                all_goals
                  go_wp2_with fail
                  go_ret
                  exact ⟨by have := HR3.out; subst this; rfl, HB.out.drew⟩
              · go_wp2_with fail
                go_region_with (fail)
                all_goals
                  go_wp2_with fail
                  go_roundw
                  case rel => exact ⟨j + 1, by omega, by simp, HB.out.drew, fun j' hj' => by
                    rcases Nat.lt_succ_iff_lt_or_eq.1 hj' with h | rfl
                    · exact HNO.out j' h
                    · rw [HG.out]; exact hxx⟩
                  case measure => simp [intOf]; omega
            · obtain rfl : j = k := by omega
              have HR3 := Lib.hid (show allR es items (seenL bs (j + 1)) (bs.drop (j + 1)) = R from by
                have := HR2.out
                rwa [if_neg (fun hc => by obtain ⟨j', h1, h2⟩ := (seenL_mem (Nat.le_of_lt hlt) x).1 hc; exact HNO.out j' h1 h2)] at this)
              go_wp2_with fail
              go_roundw
              case rel => exact ⟨j + 1, by omega, by simp, hB, HR3.out⟩
              case measure => simp [intOf]; omega
        · have HR2 := Lib.hid (show o = R from by have := HR.out; rwa [if_pos (by simpa using ho)] at this)
          go_wp2_with fail
          go_ret
          exact ⟨by have := HR2.out; subst this; rfl, HB2.out⟩
      · obtain rfl : k = bs.length := by omega
        rw [List.drop_length] at hR
        have HR := Lib.hid (show (0 : Int) = R from hR)
        clear hR
        go_wp2_with fail
        go_ret
        exact ⟨by have := HR.out; subst this; rfl, hB⟩
end Go.Proofs.Ytnlhgnioedalpaa.Pri
