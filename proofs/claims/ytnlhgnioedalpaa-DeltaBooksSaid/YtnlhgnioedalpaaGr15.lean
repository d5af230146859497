/- DelV, DelW, laid together. -/
import Derived.Test.YtnlhgnioedalpaaGr14

/- delta: the document's Sum and Diff. -/
set_option linter.unusedSimpArgs false
set_option linter.unusedVariables false
namespace Go.Proofs.Ytnlhgnioedalpaa.Pri
open Go.RowKit Go.Proofs.YtnlhgnioedalpaaW.PrintWords Go.Proofs.Ytnlhgnioedalpaa.PPricePlays Go.Maps
open Go.Proofs.Ytnlhgnioedalpaa.Cod (PC cP3 cP3_length pc_own infoC grown_own KTy.setOther)
attribute [local go_sem] Oper.semAt_some

theorem clamp_c (W : World) (a q : Int) (hq : clampM a = q) : Calls Try.prog 82 #[.int .i64 a] W fun e w' => e = .returned (.int .i64 q) ∧ W = w' := by
  rw [← hq]; exact clamp_any W a
def chI (k : Nat) (e : En) : Ch := ((k : Int), e.1, e.2)
theorem chT_step {now : List (List En)} {k : Nat} {l : List En} (h : now[k]? = some l) : chT (now.map ofL) (k + 1) = chT (now.map ofL) k ++ (ofL l).map (chI k) := by
  rw [chT_succ, at_map]
  have e : now.getD k [] = l := by rw [List.getD_eq_getElem?_getD, h]; rfl
  rw [e]
  rfl
theorem take_map {k j : Nat} {es : List En} (hj : j < es.length) : (es.take (j + 1)).map (chI k) = (es.take j).map (chI k) ++ [chI k es[j]] := by
  rw [List.take_succ_eq_append_getElem hj, List.map_append]
  rfl
set_option maxRecDepth 100000 in
set_option maxHeartbeats 4000000 in
theorem rsum_any (W : World) (v : Value) (now : List (List En)) (h : PEE W v now) (hU : ∀ l ∈ now, UE l) (hl : now.length ≤ 1000) (hl2 : ∀ l ∈ now, l.length ≤ 1000) :
    Calls Try.prog 49 #[v] W fun e w' => e = .returned (.int .i64 (sumL now)) ∧ Below W.heap.size W w' := by
  have H := Lib.hid h
  obtain ⟨A, c, rfl, -⟩ := h
  go_enter Try.func49, Try.ntmps49
  go_wp2_with fail
  go_loopw [3, 4] (fun o i wr => ∃ k : Nat, k ≤ now.length ∧ i = .int .i64 (k : Int) ∧ o = .int .i64 ((chT (now.map ofL) k).foldl sumF 0) ∧ Below W.heap.size W wr) (fun _ i _ => now.length - (intOf i).toNat)
  case atStart => exact ⟨0, Nat.zero_le _, rfl, rfl, Below.refl _ W⟩
  case round =>
    obtain ⟨k, hk, rfl, rfl, hB⟩ := hrel
    have hsr := sum_rng (chT (now.map ofL) k) 0 (fun q hq => (ch_ask hU hq).1) (by decide) (by decide)
    by_cases hlt : k < now.length
    · obtain ⟨l, hx⟩ : ∃ x, now[k] = x := ⟨_, rfl⟩
      have hx2 : now[k]? = some l := by rw [List.getElem?_eq_getElem hlt, hx]
      have hUl := hU _ (List.mem_of_getElem? hx2)
      have hll := hl2 _ (List.mem_of_getElem? hx2)
      have hch := chT_step hx2
      obtain ⟨b3, off3, c4, A3, c3, e1, hlb, r0, hpe⟩ := (H.out.below hB).at hx2
      obtain ⟨rfl, rfl⟩ : A = some ⟨b3, off3, none⟩ ∧ c = c4 := by injection e1 with e1 e2 e3; exact ⟨e1, e3⟩
      obtain ⟨m, hm⟩ : ∃ m, (chT (now.map ofL) k).foldl sumF 0 = m := ⟨_, rfl⟩
      have hch2 := congrArg (fun L => L.foldl sumF 0) hch
      rw [List.foldl_append, hm] at hch2
      rw [hm] at hsr ⊢
      have hti := tight_ofL hUl
      have hol := ofL_len l
      have HPE := Lib.hid hpe; have HC := Lib.hid hch2; have HB := Lib.hid hB
      clear hx hx2 e1 hpe hm hch hch2 hB
      go_wp2_with fail
      refine (rof_any wr _ l HPE.out hUl (by omega)).mono ?_; rintro e w1 ⟨vx, rfl, hpx, hb⟩
      obtain ⟨es, hes⟩ : ∃ es, ofL l = es := ⟨_, rfl⟩
      rw [hes] at hpx hti hol HC
      have HPX := Lib.hid hpx; have HB1 := Lib.hid (HB.out.trans (hb.mono HB.out.size))
      obtain ⟨Ax, cx, rfl, -⟩ := hpx
      obtain ⟨hs0, hs1⟩ := hsr
      clear hb hes HPE HB
      go_wp2_with fail
      go_loopw [3, 6] (fun o i ws => ∃ j : Nat, j ≤ es.length ∧ i = .int .i64 (j : Int) ∧ o = .int .i64 (((es.take j).map (chI k)).foldl sumF m) ∧ Below w1.heap.size w1 ws) (fun _ i _ => es.length - (intOf i).toNat)
      case atStart => exact ⟨0, Nat.zero_le _, rfl, rfl, Below.refl _ w1⟩
      case round =>
        obtain ⟨j, hj, rfl, rfl, hB2⟩ := hrel
        have hin := sum_rng ((es.take j).map (chI k)) m (fun q hq => by
          obtain ⟨e, he, rfl⟩ := List.mem_map.1 hq
          exact (hti.ok e (List.mem_of_mem_take he)).2.2.1) hs0 hs1
        by_cases hjl : j < es.length
        · obtain ⟨⟨x, a⟩, hy⟩ : ∃ x, es[j] = x := ⟨_, rfl⟩
          have hy2 : es[j]? = some (x, a) := by rw [List.getElem?_eq_getElem hjl, hy]
          have hok := hti.ok _ (List.mem_of_getElem? hy2)
          dsimp only at hok
          have hst : ((es.take (j + 1)).map (chI k)).foldl sumF m = sumF (((es.take j).map (chI k)).foldl sumF m) ((k : Int), x, a) := by
            rw [take_map hjl, List.foldl_append, hy]
            rfl
          obtain ⟨b5, off5, c6, e2, hlb5, s0, s1⟩ := (HPX.out.below hB2).at hy2
          obtain ⟨rfl, rfl⟩ : Ax = some ⟨b5, off5, none⟩ ∧ cx = c6 := by injection e2 with e1 e2 e3; exact ⟨e1, e3⟩
          dsimp only at s1
          obtain ⟨mm, hmm⟩ : ∃ mm, ((es.take j).map (chI k)).foldl sumF m = mm := ⟨_, rfl⟩
          rw [hmm] at hin hst ⊢
          obtain ⟨q, hq⟩ : ∃ q, clampM a = q := ⟨_, rfl⟩
          have hqe : q = min a 1099511627776 := by rw [← hq]; unfold clampM; have := hok.2.2.1; omega
          have hq0 : 0 ≤ q := by have := hok.2.2.1; omega
          have hq1 : q ≤ 1099511627776 := by omega
          obtain ⟨hi0, hi1⟩ := hin
          have hsf : sumF mm ((k : Int), x, a) = min (mm + q) 140737488355328 := by unfold sumF; dsimp only; rw [hqe]
          rw [hsf] at hst
          have HST := Lib.hid hst; have HQ := Lib.hid hq; have HB2 := Lib.hid hB2
          clear hy hy2 e2 hmm hq hqe hsf hst hB2 s0
          by_cases hgt : mm + q > 140737488355328
          · go_wp2_with fail
            refine (clamp_c _ a q HQ.out).mono ?_; rintro e wx ⟨rfl, rfl⟩
            go_wp2_with fail
            go_roundw
            case rel => exact ⟨j + 1, by omega, by simp, by rw [HST.out, Int.min_eq_right (by omega)], HB2.out⟩
            case measure => simp [intOf]; omega
          · go_wp2_with fail
            refine (clamp_c _ a q HQ.out).mono ?_; rintro e wx ⟨rfl, rfl⟩
            go_wp2_with fail
            go_roundw
            case rel => exact ⟨j + 1, by omega, by simp, by rw [HST.out, Int.min_eq_left (by omega)], HB2.out⟩
            case measure => simp [intOf]; omega
        · obtain rfl : j = es.length := by omega
          rw [List.take_length, ← HC.out]
          have HN := Lib.hid (HB1.out.trans (hB2.mono HB1.out.size))
          go_wp2_with fail
          go_roundw
          case rel => exact ⟨k + 1, by omega, by simp, rfl, HN.out⟩
          case measure => simp [intOf]; omega
    · obtain rfl : k = now.length := by omega
      go_wp2_with fail
      go_ret
      exact ⟨rfl, hB⟩
theorem PE.off {A B : World} {row : Option Nat} {v : Value} {l : List En} (h : PE A v l) (hg : A.grownBy B row) (hv : ∀ q, v.ownBlock = some q → row ≠ some q) : PE B v l := by
  obtain ⟨a, c, rfl, h1, h2, h3⟩ := h
  refine ⟨a, c, rfl, h1, h2, h3.1, h3.2.1, fun hpos => ?_⟩
  obtain ⟨a, rfl, hq⟩ := h3.2.2 hpos
  refine ⟨a, rfl, fun j x hx => ?_⟩
  obtain ⟨cs, hl, hk, hc⟩ := hq j x hx
  obtain rfl := k41_open hk
  refine ⟨_, hl, k41_mk B x, fun i u hu => ?_⟩
  have hcu := hc i u hu
  have hsp := cell_spot hcu
  rw [hsp.1] at hcu ⊢
  have e : B.cell? ⟨(a.add (j * k41.sz + i)).block, (a.add (j * k41.sz + i)).off, none⟩ = A.cell? ⟨(a.add (j * k41.sz + i)).block, (a.add (j * k41.sz + i)).off, none⟩ := by
    unfold World.cell?
    rw [hg.block _ hsp.2 (fun e => hv a.block rfl (by rw [← e]; unfold Addr.add; split <;> rfl))]
  rw [e]; exact hcu
theorem own_spot {w : World} {base n size : Nat} {e : TypeId} {v : Value} {xs : List Value} (h : w.ownsRow base e size v n xs) : ∀ q, v.ownBlock = some q → base ≤ q ∧ q < w.heap.size := fun q hq => by
  obtain ⟨h1, cs, fr, h2⟩ := own_typ h q hq
  exact ⟨h1, (Array.getElem?_eq_some_iff.1 h2).1⟩
theorem rof_anyL (W : World) (v : Value) (l : List En) (h : PE W v l) (hU : UE l) (hl : l.length ≤ 1000000) :
    Calls Try.prog 24 #[v] W fun e w' => ∃ v0, e = .returned v0 ∧ PE w' v0 (ofL l) ∧ Below W.heap.size W w' ∧ ∀ q, v0.ownBlock = some q → W.heap.size ≤ q ∧ q < w'.heap.size := by
  obtain ⟨A, c, rfl, h1, _, h2⟩ := h
  obtain ⟨n, hn⟩ := (rof_ev l hU hl).rounds
  have := saleroomref11_Of.calls n A c (l.map toE) _ W (by rw [List.length_map]; exact h2) (by rw [List.length_map]; exact h1) hn
  rw [List.length_map] at this
  refine this.mono fun e w' ⟨v0, x, y, z⟩ => ⟨v0, x, pe_R y, z, ?_⟩
  obtain ⟨_, inner, ho, _⟩ := y
  exact own_spot ho
set_option maxHeartbeats 2000000 in
theorem rat_anyL (W : World) (v : Value) (L : List (List En)) (h : PEE W v L) (hU : ∀ l ∈ L, UE l) (hl2 : ∀ l ∈ L, l.length ≤ 100000) (k : Nat) (hk : k ≤ 1000000) :
    Calls Try.prog 81 #[v, .int .i64 (k : Int)] W fun e w' => ∃ vx, e = .returned vx ∧ PE w' vx (lsAt (L.map ofL) (k : Int)) ∧ Below W.heap.size W w' ∧ ∀ q, vx.ownBlock = some q → W.heap.size ≤ q ∧ q < w'.heap.size := by
  have H := Lib.hid h
  obtain ⟨A, c, rfl, -⟩ := h
  have k0 : (0 : Int) ≤ (k : Int) := Int.natCast_nonneg _
  by_cases hlt : k < L.length
  · obtain ⟨l, hx⟩ : ∃ x, L[k] = x := ⟨_, rfl⟩
    have hx2 : L[k]? = some l := by rw [List.getElem?_eq_getElem hlt, hx]
    have he : lsAt (L.map ofL) (k : Int) = ofL l := by unfold lsAt; rw [if_neg (by omega), Int.toNat_natCast, List.getD_eq_getElem?_getD, List.getElem?_map, hx2]; rfl
    rw [he]
    have hUl := hU _ (List.mem_of_getElem? hx2)
    have hll := hl2 _ (List.mem_of_getElem? hx2)
    have kl : (k : Int) < (L.length : Int) := by omega
    obtain ⟨b3, off3, c4, A3, c3, e1, hlb, r0, hpe⟩ := H.out.at hx2
    obtain ⟨rfl, rfl⟩ : A = some ⟨b3, off3, none⟩ ∧ c = c4 := by injection e1 with e1 e2 e3; exact ⟨e1, e3⟩
    have HPE := Lib.hid hpe
    clear hx hx2 he e1 hpe
    go_enter Try.func81, Try.ntmps81
    go_wp2_with fail
    refine (rof_anyL W _ l HPE.out hUl (by omega)).mono ?_; rintro e w1 ⟨vx, rfl, hpx, hb, hlo⟩
    have HPX := Lib.hid hpx; have HB := Lib.hid (And.intro hb hlo)
    obtain ⟨Ax, cx, rfl, -⟩ := hpx
    clear hb hlo
    go_wp2_with fail
    exact bodyPost_ret (v := .slice Ax (ofL l).length cx) (by simp [results, Try.f81, go_sem]) rfl ⟨_, rfl, HPX.out, HB.out.1, HB.out.2⟩
  · have he : lsAt (L.map ofL) (k : Int) = [] := by unfold lsAt; rw [if_neg (by omega), Int.toNat_natCast, List.getD_eq_getElem?_getD, List.getElem?_eq_none (by simpa using hlt)]; rfl
    rw [he]
    have kl : ¬ (k : Int) < (L.length : Int) := by omega
    clear he
    go_enter Try.func81, Try.ntmps81
    go_wp2_with fail
    exact bodyPost_ret (v := .slice none 0 0) (by simp [results, Try.f81, go_sem]) rfl ⟨_, rfl, pe_nil W, Below.refl _ W, fun q hq => by cases hq⟩
theorem diff_filter (was now : List (List En)) : diffL was now = (chT (now.map ofL) now.length).filter (fun c => decide (askL (lsAt (was.map ofL) c.1) c.2.1 < c.2.2)) := rfl
theorem filter_map_take {k j : Nat} {es : List En} (P : Ch → Bool) (hj : j < es.length) {x a : Int} (he : es[j] = (x, a)) : ((es.take (j + 1)).map (chI k)).filter P = ((es.take j).map (chI k)).filter P ++ (if P ((k : Int), x, a) = true then [((k : Int), x, a)] else []) := by
  rw [take_map hj, List.filter_append, he]
  congr 1
  by_cases h : P ((k : Int), x, a) = true
  · rw [if_pos h]; exact List.filter_cons_of_pos h
  · rw [if_neg h]; exact List.filter_cons_of_neg h
set_option maxRecDepth 100000 in
set_option maxHeartbeats 8000000 in
theorem rdiff_any (W : World) (v u : Value) (was now : List (List En)) (h : PEE W v was) (kk : PEE W u now) (hU : ∀ l ∈ was, UE l) (kU : ∀ l ∈ now, UE l) (hl : was.length ≤ 1000) (kl : now.length ≤ 1000) (hl2 : ∀ l ∈ was, l.length ≤ 1000) (kl2 : ∀ l ∈ now, l.length ≤ 1000) :
    Calls Try.prog 46 #[v, u] W fun e w' => ∃ o, e = .returned o ∧ w'.ownsRow W.heap.size tR 3 o (diffL was now).length (cellsOf cP3 (diffL was now)) ∧ Below W.heap.size W w' := by
  have H := Lib.hid h; have K := Lib.hid kk
  obtain ⟨A1, c1, rfl, -⟩ := h
  obtain ⟨A, c, rfl, -⟩ := kk
  obtain ⟨i0, hi0, hiz0, hiz1, hiz2⟩ := info_parts infoR
  obtain ⟨P, hP⟩ : ∃ P : Ch → Bool, (fun c => decide (askL (lsAt (was.map ofL) c.1) c.2.1 < c.2.2)) = P := ⟨_, rfl⟩
  have hdf := diff_filter was now
  rw [hP] at hdf
  rw [hdf]
  have HP := Lib.hid hP
  have hbd : ∀ k, k ≤ now.length → (chT (now.map ofL) k).length ≤ 1000000 := fun k hk => by
    have h1 := ch_len (ls := now.map ofL) (m := 1000) (fun l hl' => by
      rw [List.mem_map] at hl'
      obtain ⟨l0, h0, rfl⟩ := hl'
      have := kl2 l0 h0
      have := ofL_len l0
      omega) k
    have h2 : k * 1000 ≤ 1000 * 1000 := Nat.mul_le_mul_right _ (by omega)
    omega
  clear hP hdf
  go_enter Try.func46, Try.ntmps46
  go_wp2_with fail
  go_loopw [5, 6] (fun o i wr => ∃ (k : Nat) (D : List Ch), k ≤ now.length ∧ i = .int .i64 (k : Int) ∧ D = (chT (now.map ofL) k).filter P ∧ wr.ownsRow W.heap.size tR 3 o D.length (cellsOf cP3 D) ∧ Below W.heap.size W wr) (fun _ i _ => now.length - (intOf i).toNat)
  case atStart => exact ⟨0, [], Nat.zero_le _, rfl, rfl, own0 W tR 3, (Below.refl _ W).alloc (Nat.le_refl _) _⟩
  case round =>
    obtain ⟨k, D, hk, rfl, hD, hown, hB⟩ := hrel
    by_cases hlt : k < now.length
    · obtain ⟨l, hx⟩ : ∃ x, now[k] = x := ⟨_, rfl⟩
      have hx2 : now[k]? = some l := by rw [List.getElem?_eq_getElem hlt, hx]
      have hUl := kU _ (List.mem_of_getElem? hx2)
      have hll := kl2 _ (List.mem_of_getElem? hx2)
      have hch := congrArg (fun L => L.filter P) (chT_step hx2)
      rw [List.filter_append, ← hD] at hch
      have hDl : D.length ≤ 1000000 := by rw [hD]; exact Nat.le_trans (List.length_filter_le _ _) (hbd k hk)
      obtain ⟨b3, off3, c4, A3, c3, e1, hlb, r0, hpe⟩ := (K.out.below hB).at hx2
      obtain ⟨rfl, rfl⟩ : A = some ⟨b3, off3, none⟩ ∧ c = c4 := by injection e1 with e1 e2 e3; exact ⟨e1, e3⟩
      have hdr : Below wr.heap.size wr wr.drew := (Below.refl _ _).drew
      have hat := rat_anyL wr.drew _ was ((H.out.below hB).below hdr) hU (fun l hl' => by have := hl2 l hl'; omega) k (by omega)
      have hof := fun (w : World) (hb : Below wr.heap.size wr.drew w) => rof_anyL w _ l ((hpe.below hdr).below hb) hUl (by omega)
      have hti := tight_ofL hUl
      have hol := ofL_len l
      have hbn := hbd (k + 1) (by omega)
      rw [chT_step hx2, List.length_append, List.length_map] at hbn
      obtain ⟨ls, hls⟩ : ∃ ls, lsAt (was.map ofL) (k : Int) = ls := ⟨_, rfl⟩
      have huls : UE ls := by rw [← hls]; exact at_ueL hU _
      have hPk : ∀ x a, P ((k : Int), x, a) = decide (askL ls x < a) := fun x a => by rw [← HP.out, ← hls]
      have hlsl : ls.length ≤ 1000 := by
        rw [← hls, lsAt_nat, at_map]
        refine Nat.le_trans (ofL_len _) ?_
        by_cases h0 : was.getD k [] = []
        · rw [h0]; simp
        · exact hl2 _ (at_mem h0).2
      obtain ⟨es, hes⟩ : ∃ es, ofL l = es := ⟨_, rfl⟩
      rw [hes] at hof hti hol hch hbn
      rw [hls] at hat
      have HAT := Lib.hid hat; have HOF := Lib.hid hof; have HC := Lib.hid hch; have HB := Lib.hid hB; have HOWN := Lib.hid hown; have HPK := Lib.hid hPk; have HDR := Lib.hid hdr
      clear hx hx2 e1 hpe hch hB hown hat hof hes hls hPk hdr hD
      go_wp2_with fail
      go_region_held3 (fun w' => w'.cell? ⟨b3, off3 + k, none⟩ = some (.slice A3 l.length c3)) (go_keep) ((first | (go_at_call 81; refine HAT.out.mono ?_; rintro e w1 ⟨va, rfl, hpa, hb1, hla⟩; have q0 := (hb1.cell (p := ⟨b3, off3 + k, none⟩) hlb).trans r0) | (go_at_call 24; refine (HOF.out _ hb1).mono ?_; rintro e w2 ⟨vx, rfl, hpx, hb2, hlx⟩; have q1 := (hb2.cell (p := ⟨b3, off3 + k, none⟩) (cell_spot q0).2).trans q0)))
      obtain ⟨Aa, ca, rfl, -⟩ := id hpa
      obtain ⟨Ax, cx, rfl, -⟩ := id hpx
      have hB2 : Below wr.heap.size wr w2 := (HDR.out.trans hb1).trans (hb2.mono hb1.size)
      have HPA := Lib.hid (hpa.below hb2); have HPX := Lib.hid hpx; have HOWN2 := Lib.hid (own_below HOWN.out hB2); have HB2 := Lib.hid (HB.out.trans (hB2.mono HB.out.size))
      obtain ⟨za, hza⟩ : ∃ za, wr.heap.size = za := ⟨_, rfl⟩
      obtain ⟨zb, hzb⟩ : ∃ zb, w2.heap.size = zb := ⟨_, rfl⟩
      have hz1 : wr.heap.size ≤ w1.heap.size := hb1.size
      have hla' : ∀ q, (Value.slice Aa ls.length ca).ownBlock = some q → za ≤ q ∧ q < zb := fun q hq => by
        have h1 : wr.heap.size ≤ q := (hla q hq).1
        have h2 := (hla q hq).2
        have h3 := hb2.size
        omega
      have hlx' : ∀ q, (Value.slice Ax es.length cx).ownBlock = some q → za ≤ q ∧ q < zb := fun q hq => by
        have h1 := (hlx q hq).1
        have h2 := (hlx q hq).2
        omega
      have hlo : ∀ q, u5.ownBlock = some q → q < za ∨ zb ≤ q := fun q hq => by
        have h1 := (own_spot HOWN.out q hq).2
        omega
      have HLA := Lib.hid hla'; have HLX := Lib.hid hlx'; have HLO := Lib.hid hlo
      have HZB := Lib.hid (show zb ≤ w2.heap.size by omega)
      clear hla hlx hla' hlx' hlo hza hzb hz1
      clear q0 q1 hb1 hb2 hpa hpx hB2 HAT HOF HOWN HB
      go_wp2_with fail
      go_loopw [5, 9] (fun o i ws => ∃ (j : Nat) (E : List Ch), j ≤ es.length ∧ i = .int .i64 (j : Int) ∧ E = D ++ ((es.take j).map (chI k)).filter P ∧ ws.ownsRow W.heap.size tR 3 o E.length (cellsOf cP3 E) ∧ Below W.heap.size W ws ∧ PE ws (.slice Aa ls.length ca) ls ∧ PE ws (.slice Ax es.length cx) es ∧ (∀ q, o.ownBlock = some q → q < za ∨ zb ≤ q) ∧ zb ≤ ws.heap.size) (fun _ i _ => es.length - (intOf i).toNat)
      case atStart => exact ⟨0, D, Nat.zero_le _, rfl, by simp, HOWN2.out, HB2.out, HPA.out, HPX.out, HLO.out, HZB.out⟩
      case round =>
        obtain ⟨j, E, hj, rfl, hE, hown, hB3, hpa3, hpx3, hlo3, hzb3⟩ := hrel
        by_cases hjl : j < es.length
        · obtain ⟨⟨x, a⟩, hy⟩ : ∃ x, es[j] = x := ⟨_, rfl⟩
          have hy2 : es[j]? = some (x, a) := by rw [List.getElem?_eq_getElem hjl, hy]
          have hux : U x := (hti.ok _ (List.mem_of_getElem? hy2)).1
          have hst := filter_map_take (k := k) P hjl hy
          have hst2 : D ++ ((es.take (j + 1)).map (chI k)).filter P = E ++ (if decide (askL ls x < a) = true then [((k : Int), x, a)] else []) := by
            rw [hst, ← List.append_assoc, ← hE, HPK.out]
          have hEl : E.length ≤ 2000000 := by
            rw [hE, List.length_append]
            have h1 := List.length_filter_le P ((es.take j).map (chI k))
            rw [List.length_map, List.length_take] at h1
            omega
          obtain ⟨m, hm⟩ : ∃ m, askL ls x = m := ⟨_, rfl⟩
          rw [hm] at hst2
          have hdr : Below wr.heap.size wr wr.drew := (Below.refl _ _).drew
          obtain ⟨b5, off5, c6, e2, hlb5, s0, s1⟩ := hpx3.at hy2
          obtain ⟨rfl, rfl⟩ : Ax = some ⟨b5, off5, none⟩ ∧ cx = c6 := by injection e2 with e1 e2 e3; exact ⟨e1, e3⟩
          dsimp only at s0 s1
          have hra := rask_c wr.drew _ ls x m (hpa3.below hdr) huls hux (by omega) hm
          have HRA := Lib.hid hra; have HST := Lib.hid hst2; have HB3 := Lib.hid hB3; have HOWN := Lib.hid hown; have HDR2 := Lib.hid hdr
          have HPA3 := Lib.hid hpa3; have HPX3 := Lib.hid hpx3; have HLO3 := Lib.hid hlo3; have HZB3 := Lib.hid hzb3
          clear hy hy2 hst hst2 e2 hm hdr hra hB3 hown hE hpa3 hpx3 hlo3 hzb3
          go_wp2_with fail
          go_region_held3 (fun w' => w'.cell? ⟨b5, off5 + j * 2, none⟩ = some (.int .u64 x) ∧ w'.cell? ⟨b5, off5 + j * 2 + 1, none⟩ = some (.int .i64 a)) (go_keep) ((go_at_call 22; refine HRA.out.mono ?_; rintro e w5 ⟨rfl, hb5⟩; have q0 := ((HDR2.out.trans hb5).cell (p := ⟨b5, off5 + j * 2, none⟩) hlb5).trans s0; have q1 := ((HDR2.out.trans hb5).cell (p := ⟨b5, off5 + j * 2 + 1, none⟩) hlb5).trans s1))
          have hB5 : Below wr.heap.size wr w5 := HDR2.out.trans hb5
          by_cases hlt2 : m < a
          · have ha1 : Below w5.heap.size w5 (w5.alloc (.cells #[.int .i64 (k : Int), .int .u64 x, .int .i64 a] tR)) := (Below.refl _ w5).alloc (Nat.le_refl _) _
            have hB6 := hB5.trans (ha1.mono hB5.size)
            have HNB := Lib.hid (news_blk (Blk.new w5 [.int .i64 (k : Int), .int .u64 x, .int .i64 a] tR))
            have HOWN6 := Lib.hid (own_below HOWN.out hB6)
            have HB6 := Lib.hid (HB3.out.trans (hB6.mono HB3.out.size))
            have HPA6 := Lib.hid (HPA3.out.below hB6); have HPX6 := Lib.hid (HPX3.out.below hB6)
            have HZ6 := Lib.hid (Nat.le_trans HZB3.out hB6.size)
            clear hb5 hB5 ha1 hB6
            go_wp2_with (first | (at_builtin; refine wpList_append_own_at _ rfl _ _ 78 rfl W.heap.size tR i0 _ 3 24 Try.underlying78 hi0 hiz0 hiz1 hiz2 rfl (by decide) _ E.length _ rfl HOWN6.out ⟨w5.heap.size, 0, none⟩ 1 1 [.int .i64 (k : Int), .int .u64 x, .int .i64 a] rfl rfl HNB.out (by simp [Value.oneCell']) (by unfold maxLen; omega) (by omega) HB6.out.size ?_; intro v6 w6 hown6 hgrow6 hnil6 hloc6) | fail)
            refine ⟨⟨j + 1, E ++ [((k : Int), x, a)], by omega, by simp, by rw [HST.out, if_pos (by simpa using hlt2)], ?_, HB6.out.grown hgrow6 HB6.out.size (fun r e => (own_typ HOWN6.out r e).1), ?_, ?_, ?_, Nat.le_trans HZ6.out hgrow6.size⟩, ?_⟩
            · rw [List.length_append, cellsOf_append, cellsOf_one]; exact hown6
            · exact HPA6.out.off hgrow6 (fun q hq e => by have h1 := HLA.out q hq; have h2 := HLO3.out q e; omega)
            · exact HPX6.out.off hgrow6 (fun q hq e => by have h1 := HLX.out q hq; have h2 := HLO3.out q e; omega)
            · intro q hq
              rcases hloc6 with h1 | h1
              · exact HLO3.out q (h1 ▸ hq)
              · rw [h1] at hq; cases hq; exact .inr HZ6.out
            · simp [intOf]; omega
          · have HN := Lib.hid (show Below W.heap.size W w5 ∧ PE w5 (.slice Aa ls.length ca) ls ∧ PE w5 (.slice (some ⟨b5, off5, none⟩) es.length cx) es ∧ w5.ownsRow W.heap.size tR 3 u5 E.length (cellsOf cP3 E) ∧ zb ≤ w5.heap.size from ⟨HB3.out.trans (hB5.mono HB3.out.size), HPA3.out.below hB5, HPX3.out.below hB5, own_below HOWN.out hB5, Nat.le_trans HZB3.out hB5.size⟩)
            clear hb5 hB5
            go_wp2_with fail
            refine ⟨⟨j + 1, E, by omega, by simp, by rw [HST.out, if_neg (by simpa using hlt2), List.append_nil], HN.out.2.2.2.1, HN.out.1, HN.out.2.1, HN.out.2.2.1, HLO3.out, HN.out.2.2.2.2⟩, ?_⟩
            simp [intOf]; omega
        · obtain rfl : j = es.length := by omega
          rw [List.take_length, ← HC.out] at hE
          have HN := Lib.hid (And.intro hE (And.intro hown hB3))
          clear hE hown hB3 hpa3 hpx3 hlo3 hzb3
          go_wp2_with fail
          refine ⟨⟨k + 1, E, by omega, by simp, HN.out⟩, ?_⟩
          simp [intOf]; omega
    · obtain rfl : k = now.length := by omega
      rw [hD] at hown
      have HN := Lib.hid hown
      clear hown
      go_wp2_with fail
      exact bodyPost_ret (v := u5) (by simp [results, Try.f46, go_sem]) rfl ⟨u5, rfl, HN.out, hB⟩
end Go.Proofs.Ytnlhgnioedalpaa.Pri

/- delta: Apply. -/
set_option linter.unusedSimpArgs false
set_option linter.unusedVariables false
namespace Go.Proofs.Ytnlhgnioedalpaa.Pri
open Go.RowKit Go.Proofs.YtnlhgnioedalpaaW.PrintWords Go.Proofs.Ytnlhgnioedalpaa.PPricePlays Go.Maps
open Go.Proofs.Ytnlhgnioedalpaa.Cod (PC cP3 cP3_length pc_own infoC grown_own KTy.setOther)
attribute [local go_sem] Oper.semAt_some

theorem oL_sV : ∀ {ps : List Nat} {ls : List (List En)}, ps.length = ls.length → (oL ps ls).map sV = ps.map (fun p => Value.pointer (some ⟨p, 0, none⟩))
  | [], [], _ => rfl
  | p :: ps, l :: ls, h => by
    have := oL_sV (ps := ps) (ls := ls) (by simpa using h)
    unfold oL at *
    simp only [List.zip_cons_cons, List.map_cons] at *
    rw [this]
    rfl
  | [], l :: ls, h => by simp at h
  | p :: ps, [], h => by simp at h
theorem oL_at {ps : List Nat} {ls : List (List En)} {j q : Nat} {es : List En} (h : (oL ps ls)[j]? = some (some (q, es))) : ps[j]? = some q ∧ ls[j]? = some es := by
  unfold oL at h
  rw [List.getElem?_map, Option.map_eq_some_iff] at h
  obtain ⟨x, hx, h⟩ := h
  injection h with h
  subst h
  exact List.getElem?_zip_eq_some.1 hx
/-- one store of a book is written -/
theorem BK.put {B : Nat} {ps : List Nat} {ls : List (List En)} {o : Value} {A C : World} {i p : Nat} {ys : List En} (h : BK B ps ls o A) (hp : ps[i]? = some p) (hS : SR C p ys) (hg : A.grownBy C (some p)) (hn : NF A C p) : BK B ps (ls.set i ys) o C := by
  have hil : i < ls.length := by rw [← h.n]; exact (List.getElem?_eq_some_iff.1 hp).1
  obtain ⟨l, hl⟩ : ∃ l, ls[i]? = some l := ⟨_, List.getElem?_eq_getElem hil⟩
  have ho : (oL ps ls)[i]? = some (some (p, l)) := by
    unfold oL
    rw [List.getElem?_map, (List.getElem?_zip_eq_some (z := (p, l))).2 ⟨hp, hl⟩]
    rfl
  obtain ⟨hSA, hoff⟩ := h.st i p l ho
  obtain ⟨v, kb, hpe⟩ := hSA.pr
  have hnl : ps.length = (ls.set i ys).length := by rw [List.length_set]; exact h.n
  have hob : o.ownBlock ≠ some p := own_apart kb h.own (by decide)
  refine ⟨hnl, h.nd, fun q hq => ⟨(h.lt q hq).1, Nat.lt_of_lt_of_le (h.lt q hq).2 hg.size⟩, ?_, fun j q es hj => ?_⟩
  · rw [oL_sV hnl, List.length_set, ← oL_sV h.n]
    exact h.own.kept hg (by
      cases hv : o.ownBlock with
      | none => exact .inl rfl
      | some q => exact .inr (fun e => hob (hv.trans e)))
  · obtain ⟨hq, hes⟩ := oL_at hj
    by_cases hij : j = i
    · subst hij
      rw [hp] at hq
      obtain rfl : p = q := by injection hq
      obtain rfl : es = ys := by rw [List.getElem?_set_self hil] at hes; injection hes with hes; exact hes.symm
      refine ⟨hS, fun v' hv' q' hq' => ?_⟩
      rcases hn v' hv' with h1 | h1
      · refine ⟨(h1 q' hq').2, fun e => ?_⟩
        have h2 := (h1 q' hq').1
        have h3 := (own_spot h.own q' e).2
        omega
      · have := hoff v' h1 q' hq'
        exact ⟨Nat.lt_of_lt_of_le this.1 hg.size, this.2⟩
    · rw [List.getElem?_set_ne (Ne.symm hij)] at hes
      have hqp : q ≠ p := fun e => by
        subst e
        obtain ⟨h1, h2⟩ := List.getElem?_eq_some_iff.1 hq
        obtain ⟨h3, h4⟩ := List.getElem?_eq_some_iff.1 hp
        have hpw := List.pairwise_iff_getElem.1 h.nd
        rcases Nat.lt_or_gt_of_ne hij with hlt | hgt
        · exact hpw j i h1 h3 hlt (h2.trans h4.symm)
        · exact hpw i j h3 h1 hgt (h4.trans h2.symm)
      have hoj : (oL ps ls)[j]? = some (some (q, es)) := by
        unfold oL
        rw [List.getElem?_map, (List.getElem?_zip_eq_some (z := (q, es))).2 ⟨hq, hes⟩]
        rfl
      obtain ⟨hSq, hoffq⟩ := h.st j q es hoj
      refine ⟨hSq.turn hSA hqp hg, fun v' hv' q' hq' => ?_⟩
      have hA : Blk A q tS [v'] := (hg.block q (hSq.pr.lt) (by simpa using hqp)).symm.trans hv'
      have := hoffq v' hA q' hq'
      exact ⟨Nat.lt_of_lt_of_le this.1 hg.size, this.2⟩
/-- one more store, with nothing in it -/
theorem BK.more {B : Nat} {ps : List Nat} {ls : List (List En)} {o o' : Value} {A C : World} (h : BK B ps ls o A) (hB : B ≤ A.heap.size)
    (hown : C.ownsRow B tP 1 o' (ls.length + 1) ((oL ps ls).map sV ++ [.pointer (some ⟨A.heap.size, 0, none⟩)])) (hg : ((A.alloc (.cells #[.slice none 0 0] tS)).alloc (.cells #[.pointer (some ⟨A.heap.size, 0, none⟩)] tP)).grownBy C o.ownBlock) (hloc : o'.ownBlock = o.ownBlock ∨ o'.ownBlock = some ((A.alloc (.cells #[.slice none 0 0] tS)).alloc (.cells #[.pointer (some ⟨A.heap.size, 0, none⟩)] tP)).heap.size) : BK B (ps ++ [A.heap.size]) (ls ++ [[]]) o' C := by
  have ha1 : Below A.heap.size A (A.alloc (.cells #[.slice none 0 0] tS)) := (Below.refl _ A).alloc (Nat.le_refl _) _
  have ha2 : Below A.heap.size A ((A.alloc (.cells #[.slice none 0 0] tS)).alloc (.cells #[.pointer (some ⟨A.heap.size, 0, none⟩)] tP)) := ha1.alloc (by simp) _
  have hb : Blk ((A.alloc (.cells #[.slice none 0 0] tS)).alloc (.cells #[.pointer (some ⟨A.heap.size, 0, none⟩)] tP)) A.heap.size tS [.slice none 0 0] := (Blk.new A [.slice none 0 0] tS).alloc _
  refine (h.below ha2).push (fun hm => by have := (h.lt _ hm).2; omega) hB ((sr_nil A).alloc _) (fun v hv q hq => ?_) hown hg hloc
  obtain rfl : v = .slice none 0 0 := by have := (hv.inj hb).2; injection this
  cases hq
theorem ext_self (b : List (List En)) : extB b b.length = b := by unfold extB; simp
theorem ext_succ {b : List (List En)} {m : Nat} (h : b.length ≤ m) : extB b (m + 1) = extB b m ++ [[]] := by
  unfold extB
  rw [show m + 1 - b.length = (m - b.length) + 1 by omega, List.replicate_succ', List.append_assoc]
theorem ext_max {b : List (List En)} {m n : Nat} (h : b.length ≤ m) (h1 : m ≤ max b.length n) (h2 : n ≤ m) : extB b m = extB b n := by
  unfold extB
  rw [show m - b.length = n - b.length by omega]
def slLen : Value → Nat
  | .slice _ n _ => n
  | _ => 0
theorem step_short {b : List (List En)} {c : Ch} {m : Nat} (h : ∀ i, (b.getD i []).length ≤ m) (i : Nat) : ((stepB b c).getD i []).length ≤ m + 1 := by
  rw [step_at]
  have := h i
  split
  · have := put_len (b.getD i []) c.2.1 c.2.2; omega
  · omega
theorem step_ok {b : List (List En)} {x y z : Int} {n : Nat} (hx : x = (n : Int)) (hn : n < 64) : stepB b (x, y, z) = (extB b (n + 1)).set n (putP (b.getD n []) y z) := by
  unfold stepB
  dsimp only
  rw [if_pos (by omega), hx, Int.toNat_natCast]
theorem step_no {b : List (List En)} {x y z : Int} (hx : ¬ (0 ≤ x ∧ x < 64)) : stepB b (x, y, z) = b := by
  unfold stepB
  dsimp only
  rw [if_neg hx]
set_option maxRecDepth 100000 in
set_option maxHeartbeats 8000000 in
theorem apply_any (W : World) (v u : Value) (old : List (List En)) (cs : List Ch) (h : PEE W v old) (kk : PC W u cs) (hU : ∀ l ∈ old, UE l) (kU : ∀ c ∈ cs, U c.2.1) (hl : old.length ≤ 1000) (hl2 : ∀ l ∈ old, l.length ≤ 1000) (kl : cs.length ≤ 10000) :
    Calls Try.prog 50 #[v, u] W fun e w' => ∃ o vs, e = .returned o ∧ LR W.heap.size (applyL old cs) vs o w' ∧ Below W.heap.size W w' := by
  have H := Lib.hid h; have K := Lib.hid kk
  obtain ⟨A1, c1, rfl, -⟩ := h
  obtain ⟨A, c, rfl, -⟩ := kk
  obtain ⟨i0, hi0, hiz0, hiz1, hiz2⟩ := info_parts infoP
  go_enter Try.func50, Try.ntmps50
  go_wp2_with fail
  refine (open_any W _ old H.out hU (by omega) (fun l hl' => by have := hl2 l hl'; omega)).mono ?_; rintro e w1 ⟨o1, ps1, rfl, hK1, hb1⟩
  have HK1 := Lib.hid hK1; have HB1 := Lib.hid hb1
  clear hK1 hb1
  go_wp2_with fail
  go_loopw [5, 12] (fun o i wr => ∃ (k : Nat) (ps : List Nat) (ls : List (List En)), k ≤ cs.length ∧ i = .int .i64 (k : Int) ∧ ls = (cs.take k).foldl stepB (old.map ofL) ∧ BK W.heap.size ps ls o wr ∧ Below W.heap.size W wr ∧ ls.length ≤ 1000 ∧ ∀ i, (ls.getD i []).length ≤ 1000 + k) (fun _ i _ => cs.length - (intOf i).toNat)
  case atStart =>
    refine ⟨0, ps1, _, Nat.zero_le _, rfl, rfl, HK1.out, HB1.out, by simp; omega, fun i => ?_⟩
    show ((old.map ofL).getD i []).length ≤ 1000
    rw [at_map]
    refine Nat.le_trans (ofL_len _) ?_
    by_cases h0 : old.getD i [] = []
    · rw [h0]; simp
    · exact hl2 _ (at_mem h0).2
  case round =>
    obtain ⟨k, ps, ls, hk, rfl, hls, hK, hB, hlen, hsh⟩ := hrel
    by_cases hlt : k < cs.length
    · obtain ⟨⟨x, y, z⟩, hx⟩ : ∃ x, cs[k] = x := ⟨_, rfl⟩
      have hx2 : cs[k]? = some (x, y, z) := by rw [List.getElem?_eq_getElem hlt, hx]
      have huy := kU _ (List.mem_of_getElem? hx2)
      obtain ⟨b3, off3, c4, e1, hlb, r0, r1, r2⟩ := (K.out.below hB).at hx2
      obtain ⟨rfl, rfl⟩ : A = some ⟨b3, off3, none⟩ ∧ c = c4 := by injection e1 with e1 e2 e3; exact ⟨e1, e3⟩
      dsimp only at r0 r1 r2 huy
      have hst : (cs.take (k + 1)).foldl stepB (old.map ofL) = stepB ls (x, y, z) := by
        rw [List.take_succ_eq_append_getElem hlt, List.foldl_append, hx, ← hls]
        rfl
      have hsh2 := step_short (c := (x, y, z)) hsh
      have hln2 := step_len ls (x, y, z)
      have ha1 : Below wr.heap.size wr (wr.alloc (.cells #[.int .i64 x, .int .u64 y, .int .i64 z] tC)) := (Below.refl _ wr).alloc (Nat.le_refl _) _
      have HB1 := Lib.hid (Blk.new wr [.int .i64 x, .int .u64 y, .int .i64 z] tC)
      have HST := Lib.hid hst; have HSH := Lib.hid hsh; have HSH2 := Lib.hid hsh2; have HK := Lib.hid (hK.below ha1); have HB := Lib.hid (hB.trans (ha1.mono hB.size)); have HLN := Lib.hid hln2
      clear hx hx2 e1 hst hsh hsh2 hK hB ha1 hln2 hls
      by_cases h0 : x < 0
      · go_wp2_with fail
        refine ⟨⟨k + 1, ps, ls, by omega, by simp, by rw [HST.out, step_no (by omega)], HK.out, HB.out, hlen, fun i => by have := HSH.out i; omega⟩, ?_⟩
        simp [intOf]; omega
      by_cases h64 : 64 ≤ x
      · go_wp2_with fail
        refine ⟨⟨k + 1, ps, ls, by omega, by simp, by rw [HST.out, step_no (by omega)], HK.out, HB.out, hlen, fun i => by have := HSH.out i; omega⟩, ?_⟩
        simp [intOf]; omega
      obtain ⟨n, rfl⟩ : ∃ n : Nat, x = (n : Int) := ⟨x.toNat, by omega⟩
      have hn64 : n < 64 := by omega
      have hst2 := HST.out
      rw [step_ok rfl hn64] at hst2
      have HST2 := Lib.hid hst2
      have d0 := HB1.out.cell (i := 0) rfl
      clear hst2
      go_wp2_with fail
      obtain ⟨b7, hb7⟩ : ∃ b7, wr.heap.size = b7 := ⟨_, rfl⟩
      rw [hb7] at HB1 ⊢
      clear d0 hb7
      go_loopw [5] (fun o ws => ∃ (m : Nat) (ps' : List Nat), ls.length ≤ m ∧ m ≤ max ls.length (n + 1) ∧ BK W.heap.size ps' (extB ls m) o ws ∧ Below W.heap.size W ws ∧ Blk ws b7 tC [.int .i64 (n : Int), .int .u64 y, .int .i64 z]) (fun o _ => n + 1 - slLen o)
      case atStart => exact ⟨ls.length, ps, Nat.le_refl _, by omega, by rw [ext_self]; exact HK.out, HB.out, HB1.out⟩
      case round =>
        obtain ⟨m, ps', hm1, hm2, hK', hB', h7⟩ := hrel
        have hel : (extB ls m).length = m := by rw [ext_len]; omega
        have hown := hK'.own
        rw [hel] at hown
        obtain ⟨Ao, co, rfl⟩ := own_sl hown
        have m0 := h7.cell (i := 0) rfl
        have m1 := h7.cell (i := 1) rfl
        have m2 := h7.cell (i := 2) rfl
        by_cases hmn : m ≤ n
        · have ha1 : Below wr.heap.size wr (wr.alloc (.cells #[.slice none 0 0] tS)) := (Below.refl _ wr).alloc (Nat.le_refl _) _
          have ha2 : Below wr.heap.size wr ((wr.alloc (.cells #[.slice none 0 0] tS)).alloc (.cells #[.pointer (some ⟨wr.heap.size, 0, none⟩)] tP)) := ha1.alloc (by simp) _
          have hnb := news_blk (Blk.new (wr.alloc (.cells #[.slice none 0 0] tS)) [.pointer (some ⟨wr.heap.size, 0, none⟩)] tP)
          rw [World.size_alloc] at hnb
          have HNB := Lib.hid hnb; have HWK := Lib.hid (own_below hown ha2); have HKK := Lib.hid hK'; have H7 := Lib.hid (h7.belowS ha2); have HBB := Lib.hid (hB'.trans (ha2.mono hB'.size)); have HBW := Lib.hid hB'.size; have HEL := Lib.hid hel
          clear hnb hown hK' h7 hB' ha1 ha2 hel
          go_wp2_with (first | (at_builtin; refine wpList_append_own_at _ rfl _ _ 122 rfl W.heap.size tP i0 _ 1 8 Try.underlying122 hi0 hiz0 hiz1 hiz2 rfl (by decide) _ m _ rfl HWK.out ⟨wr.heap.size + 1, 0, none⟩ 1 1 [.pointer (some ⟨wr.heap.size, 0, none⟩)] rfl rfl HNB.out (by simp [Value.oneCell']) (by unfold maxLen; omega) (by omega) HBB.out.size ?_; intro v6 w6 hown6 hgrow6 hnil6 hloc6) | fail)
          obtain ⟨A6, c6, rfl⟩ := own_sl hown6
          refine ⟨⟨m + 1, ps' ++ [wr.heap.size], by omega, by omega, ?_, HBB.out.grown hgrow6 HBB.out.size (fun r e => (own_typ HWK.out r e).1), H7.out.kept hgrow6 (Ne.symm (own_apart H7.out HWK.out (by decide)))⟩, ?_⟩
          · rw [ext_succ hm1]
            exact HKK.out.more HBW.out (by rw [HEL.out]; exact hown6) hgrow6 hloc6
          · simp only [slLen]; omega
        · have hme : extB ls m = extB ls (n + 1) := ext_max hm1 hm2 (by omega)
          obtain ⟨l', hl'⟩ : ∃ l', (extB ls m)[n]? = some l' := ⟨_, List.getElem?_eq_getElem (by omega)⟩
          have hgl : ls.getD n [] = l' := by rw [← ext_at ls m n, List.getD_eq_getElem?_getD, hl']; rfl
          obtain ⟨g, c4, p, e1, hpn, hcell, hS, hgs⟩ := hK'.at hl'
          obtain ⟨rfl, rfl⟩ : Ao = some ⟨g, 0, none⟩ ∧ co = c4 := by injection e1 with e1 e2 e3; exact ⟨e1, e3⟩
          have hSl : l'.length < 100000000 := by have := HSH.out n; rw [hgl] at this; omega
          have hgp : g ≠ p := fun e => by
            obtain ⟨v, kb, _⟩ := hS.pr
            exact own_apart kb hown (by decide) (congrArg some e)
          have h7p : b7 ≠ p := by
            obtain ⟨v, kb, _⟩ := hS.pr
            exact blk_ne h7 kb (by decide)
          have hdr : Below wr.heap.size wr wr.drew := (Below.refl _ _).drew
          have hput := sput_anyF wr.drew p l' y z (hS.below hdr) huy
          have hno := fun (w5 : World) (hg5 : wr.drew.grownBy w5 (some p)) => (World.cell?_of_block (hg5.block g hgs (by simpa using hgp))).trans (show wr.drew.cell? ⟨g, n, none⟩ = _ from hcell)
          have hkn : (n : Int) < (m : Int) := by omega
          have hkn0 : (0 : Int) ≤ (n : Int) := Int.natCast_nonneg _
          have HPUT := Lib.hid hput; have HNO := Lib.hid hno; have HME := Lib.hid hme; have HGL := Lib.hid hgl; have HKD := Lib.hid (hK'.below hdr); have HSD := Lib.hid (hS.below hdr); have H7 := Lib.hid (h7.belowS hdr); have HBB := Lib.hid (hB'.trans (hdr.mono hB'.size)); have HPN := Lib.hid hpn; have HBW := Lib.hid hB'.size
          have hpW : W.heap.size ≤ p := (hK'.lt p (List.mem_of_getElem? hpn)).1
          clear hl' hgl e1 hpn hS hgs hgp hdr hput hno hme hK' hown h7 hB'
          go_wp2_with fail
          go_region_held3 (fun w' => w'.cell? ⟨b7, 0, none⟩ = some (.int .i64 (n : Int)) ∧ w'.cell? ⟨b7, 1, none⟩ = some (.int .u64 y) ∧ w'.cell? ⟨b7, 2, none⟩ = some (.int .i64 z) ∧ w'.cell? ⟨g, n, none⟩ = some (.pointer (some ⟨p, 0, none⟩))) (go_keep) ((go_at_call 25; refine HPUT.out.mono ?_; rintro e w5 ⟨rfl, hp5, hg5, hn5⟩; have h75 := H7.out.kept hg5 (by simpa using h7p); have q0 := h75.cell (i := 0) rfl; have q1 := h75.cell (i := 1) rfl; have q2 := h75.cell (i := 2) rfl; have q3 := HNO.out w5 hg5))
          have HK5 := Lib.hid (HKD.out.put HPN.out (HSD.out.put huy hp5 hSl) hg5 hn5)
          have HB5 := Lib.hid (HBB.out.grown hg5 HBB.out.size (fun r e => by cases e; exact hpW))
          clear hp5 hg5 hn5 h75 q0 q1 q2 q3 HPUT HNO m0 m1 m2
          go_wp2_with fail
          refine ⟨⟨k + 1, ps', _, by omega, by simp, rfl, ?_, HB5.out, ?_, fun i => ?_⟩, ?_⟩
          · rw [HST2.out, HGL.out, ← HME.out]; exact HK5.out
          · rw [HST2.out, List.length_set, ext_len]; omega
          · rw [HST.out]; exact HSH2.out i
          · simp [intOf]; omega
    · obtain rfl : k = cs.length := by omega
      rw [List.take_length] at hls
      obtain ⟨Ao, co, rfl⟩ := own_sl hK.own
      have HK := Lib.hid hK; have HSH := Lib.hid hsh; have HB := Lib.hid hB; have HLS := Lib.hid hls
      clear hK hsh hB hls
      go_wp2_with fail
      refine (lists_any wr _ ps ls _ HK.out (by omega) (fun l hl' => ?_)).mono ?_
      · obtain ⟨i, hi, rfl⟩ := List.getElem_of_mem hl'
        have := HSH.out i
        rw [List.getD_eq_getElem?_getD, List.getElem?_eq_getElem hi] at this
        simp at this
        omega
      · rintro e w4 ⟨v4, vs4, rfl, hL4, hb4⟩
        obtain ⟨A4, c4, rfl⟩ := own_sl hL4.own
        have HN := Lib.hid (show LR W.heap.size (applyL old cs) vs4 (.slice A4 ls.length c4) w4 ∧ Below W.heap.size W w4 from by
          have e : applyL old cs = ls := HLS.out.symm
          rw [e]
          exact ⟨⟨hL4.n, own_weaken hL4.own HB.out.size, fun i v l h1 h2 => own_weaken (hL4.each i v l h1 h2) HB.out.size⟩, HB.out.trans (hb4.mono HB.out.size)⟩)
        clear hL4 hb4
        go_wp2_with fail
        exact bodyPost_ret (v := .slice A4 ls.length c4) (by simp [results, Try.f50, go_sem]) rfl ⟨_, vs4, rfl, HN.out.1, HN.out.2⟩
end Go.Proofs.Ytnlhgnioedalpaa.Pri
