/- TableMerges. -/
import Derived.Test.YtgoomogpcfpekaaTabPw
import Derived.Test.YtgoomogpcfpekaaTabBt
set_option linter.unusedSimpArgs false
set_option linter.unusedVariables false
namespace Go.Proofs.Ytgoomogpcfpekaa.TabR
open Go.RowKit Go.Proofs.Ytgoomogpcfpekaa.TabL Go.Proofs.YtgoomogpcfpekaaW.PrintWords Go.Proofs.Ytgoomogpcfpekaa.PTablePlays
open Go.Proofs.Ytgoomogpcfpekaa.TabN (ltI belowL getV putL_len lin TMx cP d0 ek ev Gives2 Gives3 betL mgN mgV BetTs)
attribute [local go_sem] Oper.semAt_some

def tfG (k x y : Int) : Int := bits .xor .i64 k (bits .and .i64 x y)
set_option maxRecDepth 100000 in
theorem mixer_any (W : World) (k x y : Int) : Calls Try.prog 36 (#[.int .i64 k, .int .i64 x, .int .i64 y] ++ #[]) W fun e w' => e = .returned (.int .i64 (tfG k x y)) ∧ W = w' := by
  show Calls Try.prog 36 #[.int .i64 k, .int .i64 x, .int .i64 y] W _
  go_enter Try.func36, Try.ntmps36
  go_wp2_with fail
  go_ret
  exact ⟨rfl, rfl⟩
theorem tw_filter (high : Int) : ∀ {l : List (Int × Int)}, Sd ltI l → l.takeWhile (fun q => ltI q.1 high) = l.filter (fun q => ltI q.1 high)
  | [], _ => rfl
  | a :: l, h => by
    have hp := List.pairwise_cons.1 h
    rw [List.takeWhile_cons, List.filter_cons]
    cases ha : ltI a.1 high
    · simp only [Bool.false_eq_true, if_false]
      refine (List.filter_eq_nil_iff.2 (fun q hq hh => ?_)).symm
      have := lin.tr (hp.1 q hq) hh
      rw [ha] at this
      cases this
    · simp only [if_true]
      rw [tw_filter high hp.2]
def inR (low high : Int) (q : Int × Int) : Bool := decide (low ≤ q.1) && decide (q.1 < high)
theorem betL_eq {xs : List (Int × Int)} (h : Sd ltI xs) (low high : Int) : betL xs low high = xs.filter (inR low high) := by
  unfold betL
  rw [tw_filter high (fromL_sd h low)]
  unfold fromL
  rw [List.filter_filter]
  congr 1
  funext q
  unfold inR ltI
  by_cases h1 : low ≤ q.1 <;> by_cases h2 : q.1 < high <;> simp [h1, h2] <;> omega
/-- pairs of what lies between two keys -/
theorem pairs_between (W : World) (p : Nat) (xs : List (Int × Int)) (low high m : Int) (hm : (xs.length : Int) < m) (hz : xs.length < 1099511627776) (h : TMx W p xs) (hs : Sd ltI xs) :
    Calls Try.prog 13 #[.func (.func 61) #[] #[.pointer (some ⟨W.heap.size, 0, none⟩), .pointer (some ⟨W.heap.size + 1, 0, none⟩), .pointer (some ⟨W.heap.size + 1 + 1, 0, none⟩)], .int .i64 m] (((W.alloc (.cells #[.pointer (some ⟨p, 0, none⟩)] 24)).alloc (.cells #[.int .i64 low] 2)).alloc (.cells #[.int .i64 high] 2)) fun e w' => ∃ v, e = .returned v ∧ PS w' v (xs.filter (inR low high)) ∧ Below W.heap.size W w' := by
  obtain ⟨St, N, hG, h2⟩ := TabN.tm_between W p xs low high h hs
  rw [betL_eq hs] at hG
  have hle : (xs.filter (inR low high)).length ≤ xs.length := List.length_filter_le _ _
  refine (TabN.pairs_any3 _ _ _ BetTs (fun t ht => by rcases ht with rfl | rfl <;> exact ⟨by decide, by decide⟩) St N _ m hG (by omega) (by omega) (fun W' hb => (h2 W' (by simpa using hb)).1) (fun W' hb => (h2 W' (by simpa using hb)).2)).mono ?_
  rintro e w' ⟨v, rfl, ho, hb⟩
  rw [List.take_of_length_le (by omega)] at ho
  exact ⟨v, rfl, ps_own (by omega) ho, ((TabN.bel_alloc2 W _ _).alloc (by simp; omega) _).trans (hb.mono (by simp; omega))⟩

theorem PS.lt {W : World} {v : Value} {l : List (Int × Int)} (h : PS W v l) (h0 : 0 < l.length) : ∃ k, v.ownBlock = some k ∧ k < W.heap.size := by
  obtain ⟨q, hq⟩ : ∃ q, l[0]? = some q := ⟨_, List.getElem?_eq_getElem h0⟩
  obtain ⟨b, off, c, rfl, h1, _⟩ := h.at hq
  exact ⟨b, rfl, (cell_spot h1).2⟩
theorem PS.belowN {W W' : World} {v : Value} {l : List (Int × Int)} {n0 : Nat} (h : PS W v l) (hn : 0 < l.length → ∃ k, v.ownBlock = some k ∧ k < n0) (hb : Below n0 W W') : PS W' v l := by
  obtain ⟨A, c, rfl, h1, h2⟩ := h
  refine ⟨A, c, rfl, h1, h2.1, h2.2.1, fun hpos => ?_⟩
  obtain ⟨a, rfl, hr⟩ := h2.2.2 hpos
  obtain ⟨k, hk, hlt⟩ := hn hpos
  have hak : a.block = k := by simpa [Value.ownBlock] using hk
  refine ⟨a, rfl, fun j x hx => ?_⟩
  obtain ⟨cs, hl, hk, hc⟩ := hr j x hx
  obtain rfl := k41_open hk
  refine ⟨_, rfl, k41_mk W' x, fun i u hu => ?_⟩
  have h3 := hc i u hu
  have hbl : (a.add (j * k41.sz + i)).block = a.block := by unfold Addr.add; split <;> rfl
  rw [← h3]
  exact hb.cell (by rw [hbl, hak]; exact hlt)
set_option maxRecDepth 100000 in
set_option maxHeartbeats 8000000 in
theorem merges_walk (W : World) (sv : Value) (ops : List Op3) (hR : Rd cO 3 W.heap.size W sv ops) (hL : ops.length ≤ maxLen) (_ : ∀ z ∈ ops, (Lit.int .i64 z.1).wf = true ∧ (Lit.int .i64 z.2.1).wf = true ∧ (Lit.int .i64 z.2.2).wf = true) (sv' : Value) (more : List Op3) (hR' : Rd cO 3 W.heap.size W sv' more) (hL' : more.length ≤ maxLen) (_ : ∀ z ∈ more, (Lit.int .i64 z.1).wf = true ∧ (Lit.int .i64 z.2.1).wf = true ∧ (Lit.int .i64 z.2.2).wf = true)
    (low : Int) (_ : (Lit.int .i64 low).wf = true) (high : Int) (_ : (Lit.int .i64 high).wf = true) :
    Calls Try.prog 8 #[sv, sv', .int .i64 low, .int .i64 high] W fun e w' => e = .returned (.bool true) ∧ Below W.heap.size W w' := by
  obtain ⟨A, c, rfl⟩ := rd_slice hR
  obtain ⟨A', c', rfl⟩ := rd_slice hR'
  unfold maxLen at hL hL'
  have HR := Lib.hid hR
  have HR' := Lib.hid hR'
  clear hR hR'
  by_cases hl : ops.length ≤ 100
  · by_cases hl' : more.length ≤ 100
    · go_enter Try.func8, Try.ntmps8
      go_wp2_with fail
      refine (TabN.alive_any _).mono ?_; rintro e w1 ⟨rfl, hB1⟩
      have hz1 := hB1.size
      go_wp2_with fail
      have hR1 := (HR.out.below hB1).mono hB1.size
      refine (play_any w1 A c ops hl hR1).mono ?_; rintro e w2 ⟨v2, rfl, hT2, hP2, -, hb2⟩
      have hB2 := hB1.trans (hb2.mono hB1.size)
      have hsd := playL_sd ops
      have hln := playL_len ops
      obtain ⟨p, hp⟩ : ∃ p, w1.heap.size = p := ⟨_, rfl⟩
      rw [hp] at hT2 hz1 ⊢
      obtain ⟨xs, hxs⟩ : ∃ xs, playL ops = xs := ⟨_, rfl⟩
      rw [hxs] at hT2 hP2 hsd hln
      clear hxs hR1 HR hb2 hB1 hp
      obtain ⟨A2, c2, hv2, hl2, -⟩ := id hP2
      subst hv2
      go_wp2_with fail
      have hR2 := (HR'.out.below hB2).mono hB2.size
      refine (play_any w2 A' c' more hl' hR2).mono ?_; rintro e w3 ⟨v3, rfl, hU3, hQ3, -, hb3⟩
      have hB3 := hB2.trans (hb3.mono hB2.size)
      have hT3 := hT2.below hb3
      have hP3 := hP2.below hb3
      have hsd' := playL_sd more
      have hln' := playL_len more
      obtain ⟨u, hu⟩ : ∃ u, w2.heap.size = u := ⟨_, rfl⟩
      rw [hu] at hU3 ⊢
      obtain ⟨ys, hys⟩ : ∃ ys, playL more = ys := ⟨_, rfl⟩
      rw [hys] at hU3 hQ3 hsd' hln'
      clear hys hR2 HR' hb3 hB2 hT2 hP2 hu
      obtain ⟨A3, c3, hv3, hl3, -⟩ := id hQ3
      subst hv3
      go_wp2_with fail
      refine (TabN.merge_any w3 p u xs ys 36 #[] tfG hT3 hsd hU3 hsd' (by omega) (enters_of Try.func36 (by kernel_rfl) rfl) (fun W' k x y => mixer_any W' k x y)).mono ?_; rintro e w4 ⟨rfl, hO4, hb4⟩
      obtain ⟨o, ho⟩ : ∃ o, w3.heap.size + 2 = o := ⟨_, rfl⟩
      rw [ho] at hO4 ⊢
      have hT4 := hT3.below hb4
      have hP4 := hP3.below hb4
      have hU4 := hU3.below hb4
      have hQ4 := hQ3.below hb4
      have hB4 := hB3.trans (hb4.mono hB3.size)
      have hmd := fun n hn => TabN.mgN_sd tfG ys hsd n hn
      have hml := fun n hn => TabN.mgN_len tfG xs ys n hn
      have G : ∀ w, Below w4.heap.size w4 w → TMx w p xs ∧ TMx w u ys ∧ TMx w o (mgN tfG xs ys ys.length) ∧ PS w (.slice A2 xs.length c2) xs ∧ PS w (.slice A3 ys.length c3) ys ∧ Below W.heap.size W w := fun w hb => ⟨hT4.below hb, hU4.below hb, hO4.below hb, hP4.below hb, hQ4.below hb, hB4.trans (hb.mono hB4.size)⟩
      have HG := Lib.hid G
      have HMD := Lib.hid hmd
      have HML := Lib.hid hml
      clear G hT4 hU4 hO4 hQ4 hB4 hmd hml hB3 hT3 hP3 hU3 hQ3 hb4 ho
      go_wp2_with fail
      go_loopw [16, 54] (fun v i wr => ∃ k : Nat, i = .int .i64 (k : Int) ∧ k ≤ ys.length ∧ PS wr v (mgN tfG xs ys k) ∧ Below w4.heap.size w4 wr)
        (fun _ i _ => ys.length - (match i with | .int _ n => n.toNat | _ => 0))
      case atStart => exact ⟨0, rfl, Nat.zero_le _, hP4, Below.refl _ _⟩
      case round =>
        clear hP4
        obtain ⟨k, rfl, hk, hW, hB⟩ := hrel
        by_cases hlt : k < ys.length
        · obtain ⟨⟨key, val⟩, hget⟩ : ∃ o, ys[k]? = some o := ⟨_, List.getElem?_eq_getElem hlt⟩
          obtain ⟨b, off, c1, e1, q0, q1⟩ := (HG.out wr hB).2.2.2.2.1.at hget
          obtain ⟨rfl, rfl⟩ : A3 = some ⟨b, off, none⟩ ∧ c3 = c1 := by injection e1 with e1 e2 e3; exact ⟨e1, e3⟩
          have hal : Below wr.heap.size wr (wr.alloc (.cells #[.int .i64 key, .int .i64 val] 41)) := (Below.refl _ wr).alloc (Nat.le_refl _) _
          have hBa := hB.trans (hal.mono hB.size)
          have hWa := hW.below hal
          have bP := Blk.new wr [.int .i64 key, .int .i64 val] 41
          have hget2 : ys.getD k d0 = (key, val) := by rw [List.getD_eq_getElem?_getD, hget]; rfl
          have hst := TabN.mgN_succ tfG xs ys hlt
          rw [hget2] at hst
          have GET := ref_get _ _ xs key (by omega) (HG.out _ hBa).2.2.2.1
          obtain ⟨g1, g2⟩ := gv_getV xs key
          rw [g1, g2] at GET
          have HBA := Lib.hid hBa; have HWA := Lib.hid hWa; have HBP := Lib.hid bP; have HST := Lib.hid hst
          have hal2 := hBa
          simp only at q0 q1
          clear hal hBa hWa bP e1 hget hget2 hst g1 g2 hB hW hal2
          cases hgl : getL ltI xs key with
          | none =>
            rw [show getV xs key = 0 from by unfold getV; rw [hgl], hgl] at GET
            have hv : mgV tfG xs (key, val) = val := by unfold mgV; rw [hgl]
            have HGET := Lib.hid GET; have HV := Lib.hid hv
            clear GET hgl hv
            go_wp2_with fail
            refine HGET.out.mono ?_; rintro e w5 ⟨rfl, hb5⟩
            have hB5 := HBA.out.trans (hb5.mono HBA.out.size)
            have hW5 := HWA.out.below hb5
            have hP5 := HBP.out.belowS hb5
            have p0 := hP5.cell (i := 0) rfl
            have p1 := hP5.cell (i := 1) rfl
            clear HGET hb5 hP5
            go_wp2_with fail
            refine (ref_put w5 _ _ key val (HMD.out k (by omega)) (by have := HML.out k (by omega); omega) hW5).mono ?_; rintro e w6 ⟨v6, rfl, hW6, -, hb6⟩
            have HB6 := Lib.hid (hB5.trans (hb6.mono hB5.size)); have HW6 := Lib.hid hW6
            clear hB5 hW5 hW6 hb6 p0 p1
            go_wp2_with fail
            go_roundw
            case rel => exact ⟨k + 1, by congr 1, by omega, by rw [HST.out, HV.out]; exact HW6.out, HB6.out⟩
            case measure => simp; omega
          | some x =>
            rw [show getV xs key = x from by unfold getV; rw [hgl], hgl] at GET
            have hv : mgV tfG xs (key, val) = tfG key x val := by unfold mgV; rw [hgl]
            have HGET := Lib.hid GET; have HV := Lib.hid hv
            clear GET hgl hv
            go_wp2_with fail
            refine HGET.out.mono ?_; rintro e w5 ⟨rfl, hb5⟩
            have hB5 := HBA.out.trans (hb5.mono HBA.out.size)
            have hW5 := HWA.out.below hb5
            have hP5 := HBP.out.belowS hb5
            have p0 := hP5.cell (i := 0) rfl
            have p1 := hP5.cell (i := 1) rfl
            clear HGET hb5 hP5
            go_wp2_with fail
            refine (ref_put w5 _ _ key _ (HMD.out k (by omega)) (by have := HML.out k (by omega); omega) hW5).mono ?_; rintro e w6 ⟨v6, rfl, hW6, -, hb6⟩
            have HB6 := Lib.hid (hB5.trans (hb6.mono hB5.size)); have HW6 := Lib.hid hW6
            clear hB5 hW5 hW6 hb6 p0 p1
            go_wp2_with fail
            go_roundw
            case rel => exact ⟨k + 1, by congr 1, by omega, by rw [HST.out, HV.out]; exact HW6.out, HB6.out⟩
            case measure => simp; omega
        · obtain rfl : k = ys.length := by omega
          have hz := hB.size
          have hal : Below wr.heap.size wr (wr.alloc (.cells #[] 41)) := (Below.refl _ wr).alloc (Nat.le_refl _) _
          have rO : (wr.alloc (.cells #[] 41)).ownsRow wr.heap.size 41 2 (.slice (some ⟨wr.heap.size, 0, none⟩) 0 0) 0 [] :=
            World.ownsRow_lit (base := wr.heap.size) (e := 41) (size := 2) wr #[] 0 (Nat.le_refl _) (by decide) rfl
          have HW := Lib.hid hW; have HB := Lib.hid hB; have HRO := Lib.hid rO; have HAL := Lib.hid hal
          clear hW hB rO hal
          go_wp2_with fail
          obtain ⟨n0, hn0⟩ : ∃ n0, wr.heap.size = n0 := ⟨_, rfl⟩
          obtain ⟨w8, hw8⟩ : ∃ w8, wr.alloc (.cells #[] 41) = w8 := ⟨_, rfl⟩
          rw [hn0, hw8] at HRO HAL
          rw [hn0, hw8]
          have HB8 := Lib.hid (HB.out.trans (HAL.out.mono (by rw [← hn0]; exact HB.out.size)))
          have HWL := Lib.hid (show 0 < (mgN tfG xs ys ys.length).length → ∃ k, u16.ownBlock = some k ∧ k < n0 from fun h0 => by obtain ⟨k, h1, h2⟩ := HW.out.lt h0; exact ⟨k, h1, by omega⟩)
          have HW8 := Lib.hid (HW.out.belowN HWL.out HAL.out)
          have hz48 : w4.heap.size ≤ n0 := by omega
          have hz80 : w8.heap.size = n0 + 1 := by rw [← hw8, ← hn0]; simp
          obtain ⟨i0, hi0, hiz0, hiz1, hiz2⟩ := info_parts TabN.infoP
          clear HW HB HAL hz hw8 hn0
          go_loopw [22, 84] (fun v i w' => ∃ k : Nat, i = .int .i64 (k : Int) ∧ k ≤ xs.length ∧ w'.ownsRow n0 41 2 v ((xs.take k).filter (inR low high)).length (cellsOf cP ((xs.take k).filter (inR low high))) ∧ Below n0 w8 w')
            (fun _ i _ => xs.length - (match i with | .int _ n => n.toNat | _ => 0))
          case atStart => exact ⟨0, rfl, Nat.zero_le _, HRO.out, Below.refl _ _⟩
          case round =>
            obtain ⟨k, rfl, hk, hrow, hB⟩ := hrel
            by_cases hlt : k < xs.length
            · obtain ⟨⟨key, val⟩, hget⟩ : ∃ o, xs[k]? = some o := ⟨_, List.getElem?_eq_getElem hlt⟩
              have hBw := HB8.out.trans (hB.mono hz48)
              obtain ⟨b, off, c1, e1, q0, q1⟩ := (HG.out wr hBw).2.2.2.1.at hget
              obtain ⟨rfl, rfl⟩ : A2 = some ⟨b, off, none⟩ ∧ c2 = c1 := by injection e1 with e1 e2 e3; exact ⟨e1, e3⟩
              have hfl : (xs.take (k + 1)).filter (inR low high) = (xs.take k).filter (inR low high) ++ (if inR low high (key, val) then [(key, val)] else []) := by
                rw [List.take_succ_eq_append_getElem hlt, List.filter_append, List.filter_cons, List.filter_nil]
                rw [List.getElem?_eq_getElem hlt] at hget
                rw [Option.some.inj hget]
              have hfn : ((xs.take k).filter (inR low high)).length ≤ k := Nat.le_trans (List.length_filter_le _ _) (by rw [List.length_take]; omega)
              obtain ⟨fs, hfs⟩ : ∃ fs, (xs.take k).filter (inR low high) = fs := ⟨_, rfl⟩
              rw [hfs] at hfl hrow hfn
              have HFL := Lib.hid hfl
              have hz9 := hB.size
              simp only at q0 q1
              clear e1 hget hBw hfl hfs
              have hsk : ∀ w9, Below n0 w8 w9 → inR low high (key, val) = false → w9.ownsRow n0 41 2 u22 fs.length (cellsOf cP fs) → w9.ownsRow n0 41 2 u22 ((xs.take (k + 1)).filter (inR low high)).length (cellsOf cP ((xs.take (k + 1)).filter (inR low high))) := fun w9 _ h1 h2 => by
                rw [HFL.out, h1]
                simpa using h2
              have HSK := Lib.hid hsk
              clear hsk
              have hBc := (hB.alloc (by omega) (.cells #[.int .i64 key, .int .i64 val] 41))
              have hrc := hrow.alloc (.cells #[.int .i64 key, .int .i64 val] 41)
              by_cases hlo : low ≤ key
              · by_cases hhi : key < high
                · have hin : inR low high (key, val) = true := by unfold inR; simp [hlo, hhi]
                  go_wp2_with (at_builtin; refine wpList_append_own _ rfl _ _ 25 rfl n0 41 i0 _ 2 16 Try.underlying25 hi0 hiz0 hiz1 hiz2 rfl (by decide) _ fs.length _ rfl (hrc.alloc _) ⟨wr.heap.size + 1, 0, none⟩ 1 1 [.int .i64 key, .int .i64 val] rfl rfl (news_blk (Blk.new2 wr _ [.int .i64 key, .int .i64 val] 41)) (by simp [Value.oneCell']) (by unfold maxLen; omega) (by omega) (by simp; omega) ?_; intro v' w9 hown' hgrow _; obtain ⟨g', cap', rfl⟩ := ownsRow_succ hown')
                  have hB9 : Below n0 w8 w9 := ((hBc.alloc (by simp; omega) (.cells #[.int .i64 key, .int .i64 val] 41)).grown hgrow (by simp; omega) (fun r e => (own_typ hrow r e).1))
                  go_roundw
                  case rel => exact ⟨k + 1, by congr 1, by omega, by rw [HFL.out, if_pos hin, List.length_append, cellsOf_append, cellsOf_one]; exact hown', hB9⟩
                  case measure => simp; omega
                · have hin : inR low high (key, val) = false := by unfold inR; simp [hhi]
                  go_wp2_with fail
                  go_roundw
                  case rel => exact ⟨k + 1, by congr 1, by omega, HSK.out _ hBc hin hrc, hBc⟩
                  case measure => simp; omega
              · have hin : inR low high (key, val) = false := by unfold inR; simp [hlo]
                go_wp2_with fail
                go_roundw
                case rel => exact ⟨k + 1, by congr 1, by omega, HSK.out _ hBc hin hrc, hBc⟩
                case measure => simp; omega
            · obtain rfl : k = xs.length := by omega
              rw [List.take_length] at hrow
              have hfl : (xs.filter (inR low high)).length ≤ xs.length := List.length_filter_le _ _
              have hml := HML.out ys.length (Nat.le_refl _)
              have hSm := ps_own (by omega) hrow
              have hWt := HW8.out.belowN HWL.out hB
              obtain ⟨ms, hms⟩ : ∃ ms, mgN tfG xs ys ys.length = ms := ⟨_, rfl⟩
              obtain ⟨fs, hfs⟩ : ∃ fs, xs.filter (inR low high) = fs := ⟨_, rfl⟩
              have G : ∀ w, Below wr.heap.size wr w → TMx w p xs ∧ TMx w u ys ∧ TMx w o ms ∧ PS w (.slice A2 xs.length c2) xs ∧ PS w (.slice A3 ys.length c3) ys ∧ PS w u16 ms ∧ PS w u22 fs ∧ Below W.heap.size W w := fun w hb => by
                have hb4 := (HB8.out.trans (hB.mono hz48))
                obtain ⟨h1, h2, h3, h4, h5, h6⟩ := HG.out w (hb4.trans (hb.mono hb4.size))
                rw [← hms, ← hfs]
                exact ⟨h1, h2, h3, h4, h5, hWt.below hb, hSm.below hb, h6⟩
              have JB := fun w hw => pairs_between w p xs low high (xs.length + ys.length + 1) (by omega) (by omega) (G w hw).1 hsd
              rw [hfs] at JB hfl
              rw [hms] at hml
              have HG2 := Lib.hid G; have HJB := Lib.hid JB; have T : ∀ (A B : World), Below wr.heap.size wr A → Below A.heap.size A B → Below wr.heap.size wr B := fun A B h1 h2 => h1.trans (h2.mono h1.size)
              have HT := Lib.hid T
              clear G JB T hrow hSm hWt hB HB8 HG HML HMD HW8 HWL HRO hms hfs
              go_wp2_with fail
              refine (TabN.all_any wr _).mono ?_; rintro e w10 ⟨rfl, hw10⟩
              have J := pairs_full wr o ms (xs.length + ys.length + 1) (by omega) (by omega) (HG2.out _ (Below.refl _ _)).2.2.1
              rw [← hw10] at J
              clear hw10
              go_wp2_with fail
              refine J.mono ?_; rintro e w11 ⟨v11, rfl, hP11, -, hb11⟩
              have hB11 := Lib.hid hb11
              clear J hb11
              go_wp2_with fail
              refine (same_refl w11 v11 _ ms (by omega) hP11 (HG2.out _ hB11.out).2.2.2.2.2.1).mono ?_; rintro e w12 ⟨rfl, hb12⟩
              have hB12 := Lib.hid (HT.out _ _ hB11.out hb12)
              clear hP11 hb12 hB11
              go_wp2_with fail
              refine (TabN.between_any w12 p low high).mono ?_; rintro e w13 ⟨rfl, hw13⟩
              have J := HJB.out w12 hB12.out
              rw [← hw13] at J
              clear hw13 HJB
              go_wp2_with fail
              refine J.mono ?_; rintro e w14 ⟨v14, rfl, hP14, hb14⟩
              have hB14 := Lib.hid (HT.out _ _ hB12.out hb14)
              clear J hb14 hB12
              go_wp2_with fail
              refine (same_refl w14 v14 _ fs (by omega) hP14 (HG2.out _ hB14.out).2.2.2.2.2.2.1).mono ?_; rintro e w15 ⟨rfl, hb15⟩
              have hB15 := Lib.hid (HT.out _ _ hB14.out hb15)
              clear hP14 hb15 hB14
              go_wp2_with fail
              refine (TabN.all_any w15 _).mono ?_; rintro e w16 ⟨rfl, hw16⟩
              have J := pairs_full w15 p xs (xs.length + ys.length + 1) (by omega) (by omega) (HG2.out _ hB15.out).1
              rw [← hw16] at J
              clear hw16
              go_wp2_with fail
              refine J.mono ?_; rintro e w17 ⟨v17, rfl, hP17, -, hb17⟩
              have hB17 := Lib.hid (HT.out _ _ hB15.out hb17)
              clear J hb17 hB15
              go_wp2_with fail
              refine (same_refl w17 v17 _ xs (by omega) hP17 (HG2.out _ hB17.out).2.2.2.1).mono ?_; rintro e w18 ⟨rfl, hb18⟩
              have hB18 := Lib.hid (HT.out _ _ hB17.out hb18)
              clear hP17 hb18 hB17
              go_wp2_with fail
              refine (TabN.all_any w18 _).mono ?_; rintro e w19 ⟨rfl, hw19⟩
              have J := pairs_full w18 u ys (xs.length + ys.length + 1) (by omega) (by omega) (HG2.out _ hB18.out).2.1
              rw [← hw19] at J
              clear hw19
              go_wp2_with fail
              refine J.mono ?_; rintro e w20 ⟨v20, rfl, hP20, -, hb20⟩
              have hB20 := Lib.hid (HT.out _ _ hB18.out hb20)
              clear J hb20 hB18
              go_wp2_with fail
              refine (same_refl w20 v20 _ ys (by omega) hP20 (HG2.out _ hB20.out).2.2.2.2.1).mono ?_; rintro e w21 ⟨rfl, hb21⟩
              have hB21 := Lib.hid (HT.out _ _ hB20.out hb21)
              clear hP20 hb21 hB20
              go_wp2_with fail
              go_ret
              exact ⟨rfl, (HG2.out _ hB21.out).2.2.2.2.2.2.2⟩
    · have h1 : (100 : Int) < (more.length : Int) := by omega
      have h2 : (ops.length : Int) ≤ 100 := by omega
      go_enter Try.func8, Try.ntmps8
      go_wp2_with fail
      refine (TabN.alive_any _).mono ?_; rintro e w1 ⟨rfl, hB1⟩
      go_wp2_with fail
      go_ret
      exact ⟨rfl, hB1⟩
  · have h1 : (100 : Int) < (ops.length : Int) := by omega
    go_enter Try.func8, Try.ntmps8
    go_wp2_with fail
    refine (TabN.alive_any _).mono ?_; rintro e w1 ⟨rfl, hB1⟩
    go_wp2_with fail
    go_ret
    exact ⟨rfl, hB1⟩

end Go.Proofs.Ytgoomogpcfpekaa.TabR
