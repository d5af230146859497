/- check: the report. -/
import Derived.Test.YtnlhgnioedalpaaChkB
import Derived.Test.YtnlhgnioedalpaaPriW
import Derived.BigRegionIn
set_option linter.unusedSimpArgs false
set_option linter.unusedVariables false
namespace Go.Proofs.Ytnlhgnioedalpaa.Pri
open Go.RowKit Go.Proofs.YtnlhgnioedalpaaW.PrintWords Go.Proofs.Ytnlhgnioedalpaa.PPricePlays Go.Maps
attribute [local go_sem] Oper.semAt_some

/-- the slice v reads as slices that read as the lists of L -/
def PEE (W : World) (v : Value) (L : List (List En)) : Prop := ∃ A c, v = .slice A L.length c ∧ ∀ (i : Nat) l, L[i]? = some l → ∃ b off A1 c1, A = some ⟨b, off, none⟩ ∧ b < W.heap.size ∧ W.cell? ⟨b, off + i, none⟩ = some (.slice A1 l.length c1) ∧ PE W (.slice A1 l.length c1) l
theorem PEE.below {W W' : World} {v : Value} {L : List (List En)} (h : PEE W v L) (hb : Below W.heap.size W W') : PEE W' v L := by
  obtain ⟨A, c, rfl, h1⟩ := h
  refine ⟨A, c, rfl, fun i l hl => ?_⟩
  obtain ⟨b, off, A1, c1, e, hlt, hc, hp⟩ := h1 i l hl
  exact ⟨b, off, A1, c1, e, Nat.lt_of_lt_of_le hlt hb.size, (hb.cell (p := ⟨b, off + i, none⟩) hlt).trans hc, hp.below hb⟩
/-- the slice v reads as pointers to stores, or nil -/
def PS (W : World) (v : Value) (S : List (Option (Nat × List En))) : Prop := ∃ A c, v = .slice A S.length c ∧ ∀ (i : Nat) o, S[i]? = some o → ∃ b off, A = some ⟨b, off, none⟩ ∧ b < W.heap.size ∧ W.cell? ⟨b, off + i, none⟩ = some (.pointer (o.map (fun q => ⟨q.1, 0, none⟩))) ∧ ∀ q, o = some q → SR W q.1 q.2
theorem PS.below {W W' : World} {v : Value} {S : List (Option (Nat × List En))} (h : PS W v S) (hb : Below W.heap.size W W') : PS W' v S := by
  obtain ⟨A, c, rfl, h1⟩ := h
  refine ⟨A, c, rfl, fun i o ho => ?_⟩
  obtain ⟨b, off, e, hlt, hc, hp⟩ := h1 i o ho
  exact ⟨b, off, e, Nat.lt_of_lt_of_le hlt hb.size, (hb.cell (p := ⟨b, off + i, none⟩) hlt).trans hc, fun q hq => (hp q hq).below hb⟩
/-- what a bidder is asked -/
def esAt (S : List (Option (Nat × List En))) (k : Nat) : List En := match S[k]? with | some (some q) => q.2 | _ => []
set_option maxHeartbeats 2000000 in
theorem store_any (W : World) (v : Value) (S : List (Option (Nat × List En))) (h : PS W v S) (hl : S.length ≤ 1000000) (k : Nat) (hk : k ≤ 1000000) :
    Calls Try.prog 77 #[v, .int .i64 (k : Int)] W fun e w' => ∃ p : Nat, e = .returned (.pointer (some ⟨p, 0, none⟩)) ∧ SR w' p (esAt S k) ∧ Below W.heap.size W w' := by
  have H := Lib.hid h
  obtain ⟨A, c, rfl, -⟩ := h
  have hnew := Lib.hid (sr_nil W)
  have hal := Lib.hid (show Below W.heap.size W (W.alloc (.cells #[.slice none 0 0] tS)) from (Below.refl _ W).alloc (Nat.le_refl _) _)
  have k0 : (0 : Int) ≤ (k : Int) := Int.natCast_nonneg _
  by_cases hlt : k < S.length
  · obtain ⟨o, ho⟩ : ∃ o, S[k] = o := ⟨_, rfl⟩
    have ho2 : S[k]? = some o := by rw [List.getElem?_eq_getElem hlt, ho]
    obtain ⟨A', c', e, hat⟩ := H.out
    obtain ⟨rfl, rfl⟩ : A = A' ∧ c = c' := by injection e with e1 e2 e3; exact ⟨e1, e3⟩
    obtain ⟨b, off, rfl, hb, hc, hs⟩ := hat k o ho2
    have hlt2 : (k : Int) < (S.length : Int) := by omega
    cases o with
    | none =>
      have he : esAt S k = [] := by unfold esAt; rw [ho2]
      rw [he]
      simp only [Option.map_none] at hc
      clear hat e ho ho2 hs he
      go_enter Try.func77, Try.ntmps77
      go_wp2_with fail
      exact bodyPost_ret (v := .pointer (some ⟨W.heap.size, 0, none⟩)) (by simp [results, Try.f77, go_sem]) rfl ⟨_, rfl, hnew.out, hal.out⟩
    | some q =>
      have he : esAt S k = q.2 := by unfold esAt; rw [ho2]
      have HQ := Lib.hid (hs q rfl)
      rw [he]
      simp only [Option.map_some] at hc
      clear hat e ho ho2 hs he
      go_enter Try.func77, Try.ntmps77
      go_wp2_with fail
      exact bodyPost_ret (v := .pointer (some ⟨q.1, 0, none⟩)) (by simp [results, Try.f77, go_sem]) rfl ⟨_, rfl, HQ.out, Below.refl _ W⟩
  · have he : esAt S k = [] := by unfold esAt; rw [List.getElem?_eq_none (by omega)]
    rw [he]
    have hlt2 : ¬ (k : Int) < (S.length : Int) := by omega
    clear he
    go_enter Try.func77, Try.ntmps77
    go_wp2_with fail
    exact bodyPost_ret (v := .pointer (some ⟨W.heap.size, 0, none⟩)) (by simp [results, Try.f77, go_sem]) rfl ⟨_, rfl, hnew.out, hal.out⟩
/-- what is wrong with a bidder's bids -/
def errAt (L : List (List En)) (S : List (Option (Nat × List En))) (items : Int) (k : Nat) : Int := allN (L.getD k []) (esAt S k) items
theorem report_any (W : World) (A1 A2 : Option Addr) (n1 c1 n2 c2 : Nat) (items : Int) :
    Calls Try.prog 40 #[.slice A1 n1 c1, .slice A2 n2 c2, .int .u64 items] W fun e w' => e = .returned (.func (.func 76) #[] #[.pointer (some ⟨W.heap.size, 0, none⟩), .pointer (some ⟨W.heap.size + 1, 0, none⟩), .pointer (some ⟨W.heap.size + 2, 0, none⟩)]) ∧ w' = ((W.alloc (.cells #[.slice A1 n1 c1] 67)).alloc (.cells #[.slice A2 n2 c2] 70)).alloc (.cells #[.int .u64 items] 32) := by
  go_enter Try.func40, Try.ntmps40
  go_wp2_with fail
  go_ret
  exact ⟨rfl, rfl⟩
theorem PEE.at {W : World} {v : Value} {L : List (List En)} (h : PEE W v L) {k : Nat} {l : List En} (hl : L[k]? = some l) : ∃ b off c A1 c1, v = .slice (some ⟨b, off, none⟩) L.length c ∧ b < W.heap.size ∧ W.cell? ⟨b, off + k, none⟩ = some (.slice A1 l.length c1) ∧ PE W (.slice A1 l.length c1) l := by
  obtain ⟨A, c, rfl, h1⟩ := h
  obtain ⟨b, off, A1, c1, rfl, hlt, hc, hp⟩ := h1 k l hl
  exact ⟨b, off, c, A1, c1, rfl, hlt, hc, hp⟩
set_option maxRecDepth 100000 in
set_option maxHeartbeats 4000000 in
theorem report_iter (n : Nat) (B3 B4 B5 : Nat) (v u : Value) (L : List (List En)) (S : List (Option (Nat × List En))) (items : Int) (hi : U items) (hL : ∀ l ∈ L, UE l) (hsm : L.length ≤ 1000000) (hss : S.length ≤ 1000000) (Inv : Nat → World → Prop)
    (hI : ∀ k W, Inv k W → W.cell? ⟨B3, 0, none⟩ = some v ∧ W.cell? ⟨B4, 0, none⟩ = some u ∧ W.cell? ⟨B5, 0, none⟩ = some (.int .u64 items) ∧ PEE W v L ∧ PS W u S)
    (hbel : ∀ k W W', Inv k W → Below W.heap.size W W' → Inv k W') (hskip : ∀ k W, k < L.length → errAt L S items k = 0 → Inv k W → Inv (k + 1) W) :
    IterOk Fence.wide n Try.prog 76 #[.pointer (some ⟨B3, 0, none⟩), .pointer (some ⟨B4, 0, none⟩), .pointer (some ⟨B5, 0, none⟩)] (fun k : Nat => #[.int .i64 (k : Int), .int .i64 (errAt L S items k)])
      (Inv 0) (fun k W => k < L.length ∧ errAt L S items k ≠ 0 ∧ Inv k W) (fun k W => Inv (k + 1) W) (Inv L.length) := by
  intro l Rc JX W1 hRc hJX hR0 hS0 hY
  refine callsIn_of_wp Try.func76 rfl trivial ?_ rfl
  simp only [Try.ntmps76, List.size_toArray, List.length_cons, List.length_nil, Nat.reduceAdd, Nat.reduceSub, Array.replicate_succ, Array.replicate_zero, List.push_toArray, List.append_toArray, List.nil_append, List.cons_append]
  obtain ⟨cb3, cb4, cb5, hPEE, hPS⟩ := hI _ _ hS0
  obtain ⟨A, c, rfl, -⟩ := id hPEE
  obtain ⟨Au, cu, rfl, -⟩ := id hPS
  have HI := Lib.hid hI; have HBEL := Lib.hid hbel; have HSK := Lib.hid hskip; have HRC := Lib.hid hRc
  have HY := Lib.hid hY
  clear hPEE hPS cb4 cb5 hI hbel hskip hRc hY
  gi_wp2_with fail
  clear cb3
  gi_loopw [10] (fun i wr => ∃ k : Nat, k ≤ L.length ∧ i = .int .i64 k ∧ Rc wr ∧ Inv k wr) (fun i _ => L.length - (intOf i).toNat)
  case atStart => exact ⟨0, Nat.zero_le _, rfl, hR0, hS0⟩
  case round =>
    obtain ⟨k, hk, rfl, hr, hi0⟩ := hrel
    have k0 : (0 : Int) ≤ (k : Int) := Int.natCast_nonneg _
    by_cases hlt : k < L.length
    · have kl : (k : Int) < (L.length : Int) := by omega
      obtain ⟨db3, db4, db5, hPEE, hPS⟩ := HI.out _ _ hi0
      obtain ⟨bs, hbs⟩ : ∃ bs, L[k] = bs := ⟨_, rfl⟩
      have hb2 : L[k]? = some bs := by rw [List.getElem?_eq_getElem hlt, hbs]
      have hUb : UE bs := hL _ (List.mem_of_getElem? hb2)
      have hgd : L.getD k [] = bs := by rw [List.getD_eq_getElem?_getD, hb2]; rfl
      obtain ⟨b3, off3, c4, A1, c1, e1, hlb, r0, hpe⟩ := hPEE.at hb2
      obtain ⟨rfl, rfl⟩ : A = some ⟨b3, off3, none⟩ ∧ c = c4 := by injection e1 with e1 e2 e3; exact ⟨e1, e3⟩
      obtain ⟨er, her⟩ : ∃ er, errAt L S items k = er := ⟨_, rfl⟩
      have hal : allN bs (esAt S k) items = er := by rw [← her]; unfold errAt; rw [hgd]
      have hdr : Below wr.heap.size wr wr.drew := (Below.refl _ _).drew
      have ST := store_any wr.drew _ S (hPS.below hdr) hss k (by omega)
      have AL := fun (w : World) (p : Nat) (hs : SR w p (esAt S k)) (hb : PE w (.slice A1 bs.length c1) bs) => all_any w _ bs hb hUb p (esAt S k) hs items hi
      rw [hal] at AL
      have HST := Lib.hid ST; have HAL := Lib.hid AL; have HPE := Lib.hid (hpe.below hdr); have HI0 := Lib.hid hi0; have HR := Lib.hid hr; have HER := Lib.hid her
      have lB4 := (cell_spot db4).2
      have lB5 := (cell_spot db5).2
      clear hPEE hPS hbs hb2 hgd e1 her hal hdr ST AL hpe hi0 hr db3
      gi_wp2_with fail
      refine wpIn_wide.2 ?_
      go_region_held3 (fun w' => w'.cell? ⟨B4, 0, none⟩ = some (.slice Au S.length cu) ∧ w'.cell? ⟨B5, 0, none⟩ = some (.int .u64 items)) (go_keep) ((first | (go_at_call 77; refine HST.out.mono ?_; rintro e w2 ⟨q, rfl, hS2, hb2⟩; have t4 := (hb2.cell (p := ⟨B4, 0, none⟩) lB4).trans db4; have t5 := (hb2.cell (p := ⟨B5, 0, none⟩) lB5).trans db5) | (go_at_call 35; refine (HAL.out _ q hS2 (HPE.out.below hb2)).mono ?_; rintro e w3 ⟨rfl, hb3⟩; have s4 := (hb3.cell (p := ⟨B4, 0, none⟩) (cell_spot t4).2).trans t4; have s5 := (hb3.cell (p := ⟨B5, 0, none⟩) (cell_spot t5).2).trans t5)))
      have hB3 : Below wr.heap.size wr w3 := ((Below.refl _ _).drew.trans (hb2.mono (Nat.le_refl _))).trans (hb3.mono hb2.size)
      have HI3 := Lib.hid (HBEL.out _ _ _ HI0.out hB3); have HR3 := Lib.hid (HRC.out _ _ HR.out (belowOthers hB3))
      clear t4 t5 s4 s5 hS2 hb2 hb3 hB3 db4 db5
      by_cases he : er = 0
      · subst he
        have HN := Lib.hid (HSK.out k w3 hlt HER.out HI3.out)
        gi_wp2_with fail
        refine ⟨fun f h => (by cases h), ?_⟩
        gi_wp2_with fail
        go_roundw
        case rel => exact ⟨k + 1, by omega, by simp, HR3.out, HN.out⟩
        case measure => simp [intOf]; omega
      · obtain ⟨fn, tmps, assign, body, hy, hRn⟩ := HY.out k w3 ⟨hlt, by rw [HER.out]; exact he, HI3.out⟩ HR3.out
        rw [HER.out] at hy
        gi_wp2_with fail
        refine ⟨fun h => (by cases h), ?_⟩
        refine hRn.mono ?_
        rintro e W3 (⟨rfl, hi3, hr3⟩ | ⟨rfl, hJ⟩)
        · gi_wp2_with fail
          go_roundw
          case rel => exact ⟨k + 1, by omega, by simp, hr3, hi3⟩
          case measure => simp [intOf]; omega
        · gi_wp2_with fail
          refine bodyPost_ret (results_none rfl _ _ _) rfl ?_
          exact ⟨⟨_, rfl⟩, .inr hJ⟩
    · obtain rfl : k = L.length := by omega
      gi_wp2_with fail
      go_end0
      exact ⟨⟨_, rfl⟩, .inl ⟨hi0, hr⟩⟩
end Go.Proofs.Ytnlhgnioedalpaa.Pri
