/- LedgerReplays. -/
import Derived.Test.YtmdacfgofilbdaaLedRb
import Derived.Test.YtmdacfgofilbdaaLedRf
set_option linter.unusedSimpArgs false
set_option linter.unusedVariables false
namespace Go.Proofs.Ytmdacfgofilbdaa.Led
open Go.RowKit Go.Proofs.Ytmdacfgofilbdaa.TabL Go.Proofs.YtmdacfgofilbdaaW.PrintWords
open Go.Proofs.Ytmdacfgofilbdaa.TabB (ltI lin getV TMg)
open Go.Proofs.Ytmdacfgofilbdaa.PLedgerPlays (S75 S78 k75 k78)
open Go.Proofs.Ytmdacfgofilbdaa.LedR
attribute [local go_sem] Oper.semAt_some

/-- the statement's memory behind Replay: the moves, how many were asked, the ledger -/
structure LR (W : World) (B1 pa p : Nat) (A : Option Addr) (n c : Nat) (ask : Nat) (zs : Bs) (w : World) : Prop where
  b1 : Blk w B1 73 [.slice A n c]
  bp : Blk w pa 3 [.int .i64 (ask : Int)]
  t : TMg tL w p zs
  b : Below W.heap.size W w
theorem LR.below {W : World} {B1 pa p : Nat} {A : Option Addr} {n c ask : Nat} {zs : Bs} {w w' : World} (h : LR W B1 pa p A n c ask zs w) (hb : Below w.heap.size w w') : LR W B1 pa p A n c ask zs w' :=
  ⟨h.b1.belowS hb, h.bp.belowS hb, h.t.below hb, h.b.trans (hb.mono h.b.size)⟩
theorem LR.moved {W : World} {B1 pa p : Nat} {A : Option Addr} {n c ask : Nat} {zs ys : Bs} {w w' : World} (h : LR W B1 pa p A n c ask zs w) (hg : w.grownBy w' (some p)) (ht : TMg tL w' p ys) (h1 : B1 < pa) (h2 : pa < p) (hW : W.heap.size ≤ p) : LR W B1 pa p A n c ask ys w' :=
  ⟨h.b1.kept hg (by simp; omega), h.bp.kept hg (by simp; omega), ht, h.b.grown hg h.b.size (fun r e => by cases e; exact hW)⟩
theorem rd_take {W : World} {n₀ : Nat} {A : Option Addr} {c : Nat} {l : List Mv} (h : Rd cM 3 n₀ W (.slice A l.length c) l) (k : Nat) (hk : k ≤ l.length) : Rd cM 3 n₀ W (.slice A (l.take k).length c) (l.take k) := by
  have hlen : (l.take k).length = k := by rw [List.length_take]; omega
  by_cases h0 : k = 0
  · subst h0; exact .inl ⟨A, c, rfl, rfl⟩
  · rcases h with ⟨a, cap, e, rfl⟩ | ⟨b, off, cap, e, hlt, hc⟩
    · simp at hk; omega
    · injection e with e1 e2 e3
      subst e1; subst e3
      exact .inr ⟨b, off, c, rfl, hlt, fun j x hx => by
        rw [List.getElem?_take] at hx
        split at hx
        · exact hc j x hx
        · cases hx⟩
set_option maxHeartbeats 8000000 in
set_option maxRecDepth 100000 in
theorem replays_core (W : World) (l : List S78) (A : Option Addr) (c : Nat) (hc : l.length ≤ c) (hA0 : A = none → c = 0) (hC : k78.C W A l.length l) (hL : l.length ≤ 9223372036854775807) (hw : ∀ m ∈ l.map mv, w64 m.1 ∧ w64 m.2.1) :
    Calls Try.prog 10 #[.slice A l.length c] W fun e w' => e = .returned (.bool true) ∧ Below W.heap.size W w' := by
  have HC := Lib.hid hC; have HW := Lib.hid hw
  clear hC hw
  have hlm : (l.map mv).length = l.length := by rw [List.length_map]
  have hb0 : Below W.heap.size W (W.alloc (.cells #[.slice A l.length c] 73)) := (Below.refl _ W).alloc (Nat.le_refl _) _
  have hb1 := Blk.new W [.slice A l.length c] 73
  obtain ⟨B1, hB1⟩ : ∃ B1, W.heap.size = B1 := ⟨_, rfl⟩
  obtain ⟨w0, hw0⟩ : ∃ w0, W.alloc (.cells #[.slice A l.length c] 73) = w0 := ⟨_, rfl⟩
  rw [show (List.toArray [Value.slice A l.length c]) = #[.slice A l.length c] from rfl, hw0, hB1] at hb1
  rw [hw0] at hb0
  have HW0 := Lib.hid hw0
  have c0 := hb1.cell (i := 0) rfl
  have HB0 := Lib.hid (And.intro hb0 hb1)
  clear hb0 hb1 hw0
  by_cases hlong : 60 < l.length
  · go_enter Try.func10, Try.ntmps10
    have g1 : (60 : Int) < (l.length : Int) := by omega
    go_wp2_with fail
    rw [HW0.out]
    refine (lalive_any _).mono ?_; rintro e w1 ⟨rfl, hb1⟩
    have c1 := (HB0.out.2.belowS hb1).cell (i := 0) rfl
    have HB1 := Lib.hid (HB0.out.1.trans (hb1.mono HB0.out.1.size))
    clear hb1
    go_wp2_with fail
    go_ret
    exact ⟨rfl, HB1.out⟩
  · go_enter Try.func10, Try.ntmps10
    have g1 : ¬ (60 : Int) < (l.length : Int) := by omega
    go_wp2_with fail
    rw [HW0.out]
    refine (lalive_any _).mono ?_; rintro e w1 ⟨rfl, hb1⟩
    have c1 := (HB0.out.2.belowS hb1).cell (i := 0) rfl
    have HB1 := Lib.hid (And.intro (HB0.out.1.trans (hb1.mono HB0.out.1.size)) (HB0.out.2.belowS hb1))
    have hsz := HB1.out.2.lt
    clear hb1
    go_wp2_with fail
    obtain ⟨w2, hw2⟩ : ∃ w2, w1.alloc (.cells #[.int .i64 0] 3) = w2 := ⟨_, rfl⟩
    obtain ⟨pa, hpa⟩ : ∃ pa, w1.heap.size = pa := ⟨_, rfl⟩
    have hp2 : Blk w2 pa 3 [.int .i64 0] := by rw [← hw2, ← hpa]; exact Blk.new w1 _ _
    have hal : Below w1.heap.size w1 w2 := by rw [← hw2]; exact (Below.refl _ w1).alloc (Nat.le_refl _) _
    have hb2 := HB1.out.1.trans (hal.mono HB1.out.1.size)
    have h12 := HB1.out.2.belowS hal
    have hlt : B1 < pa := by omega
    have hWB : W.heap.size ≤ pa := by have := HB1.out.1.size; omega
    have hR := ((rd_of_78 (c := c) HC.out).below hb2).mono hWB
    rw [← hlm] at h12
    rw [hw2, hpa]
    have RP := Lib.hid (replay_any w2 B1 pa A c (l.map mv) (by omega) hp2 h12 hlt hR HW.out)
    have HB2 := Lib.hid (And.intro hb2 (And.intro h12 hp2.lt))
    clear hw2 hpa hp2 hal hb2 h12 hR
    refine RP.out.mono ?_; rintro e w3 ⟨k, er, rfl, hE⟩
    obtain ⟨p, hp⟩ : ∃ p, w2.heap.size + 3 = p := ⟨_, rfl⟩
    have hl3 : LR W B1 pa p A l.length c (min (k + 1) l.length) (stepN [] (l.map mv) k) w3 := by
      have h1 := HB2.out.2.1.kept hE.gr (by simp; omega)
      have h2 := hE.asked
      have h3 := hE.t
      rw [hlm] at h1 h2
      rw [hp] at h3
      exact ⟨h1, h2, h3, HB2.out.1.grown hE.gr HB2.out.1.size (fun r e => by cases e; exact hWB)⟩
    have hpp : pa < p := by have := HB2.out.2.2; omega
    have hpW : W.heap.size ≤ p := by omega
    have HRan := Lib.hid hE.ran
    rw [hp]
    have HL3 := Lib.hid hl3
    have c3 := hl3.b1.cell (i := 0) rfl
    have hl3s := hl3.b1.lt
    have hkl : k ≤ l.length := by have := hE.ran.le; omega
    clear hE hl3 RP hp
    obtain ⟨ms, hms⟩ : ∃ ms, l.map mv = ms := ⟨_, rfl⟩
    rw [hms] at HRan HL3 hlm HW
    go_wp2_with fail
    obtain ⟨w4, hw4⟩ : ∃ w4, w3.alloc (.cells #[] 90) = w4 := ⟨_, rfl⟩
    have hal4 : Below w3.heap.size w3 w4 := by rw [← hw4]; exact (Below.refl _ w3).alloc (Nat.le_refl _) _
    have HL4 := Lib.hid (HL3.out.below hal4)
    rw [hw4]
    clear hw4 hal4
    have AS := as_any w4 A c l (Kd.C_below HC.out HL4.out.b) hc (by omega)
    rw [hms] at AS
    have HAS := Lib.hid AS; have HMS := Lib.hid hms
    clear AS hms
    refine HAS.out.mono ?_; rintro e w5 ⟨va, rfl, hPa, hb5⟩
    have HL5 := Lib.hid (HL4.out.below hb5)
    have HX5 := Lib.hid (show PM w5 (.slice (some ⟨w3.heap.size, 0, none⟩) 0 0) (stepR [] ms 0) from pm_nil2 _ _)
    have HPA := Lib.hid hPa
    obtain ⟨Av, cv, rfl, -, -⟩ := hPa
    clear hb5 HAS
    have hREL := fun j => Rel.nil.stepNR ms j
    have hGD := fun j => stepR_good Good.nil ms j
    have HREL := Lib.hid hREL; have HGD := Lib.hid hGD
    clear hREL hGD
    go_wp2_with fail
    go_loopw [7, 8, 9, 27] (fun x want f i wr => ∃ j : Nat, want = .int .i64 (j : Int) ∧ f = .int .i64 0 ∧ i = .int .i64 (j : Int) ∧ j ≤ k ∧ LR W B1 pa p A l.length c (min (k + 1) l.length) (stepN [] ms k) wr ∧ PM wr x (stepR [] ms j) ∧ PM wr (.slice Av ms.length cv) ms)
      (fun _ _ _ i _ => ms.length - (match i with | .int _ n => n.toNat | _ => 0))
    case atStart => exact ⟨0, rfl, rfl, rfl, Nat.zero_le _, HL5.out, HX5.out, HPA.out⟩
    case round =>
      clear HX5 HPA HL5
      obtain ⟨j, rfl, rfl, rfl, hj, hLR, hX, hPA⟩ := hrel
      have hsl := stepR_len [] ms j
      simp only [List.length_nil, Nat.zero_add] at hsl
      by_cases hlj : j < ms.length
      · obtain ⟨⟨f, t, n⟩, hgm⟩ : ∃ m, ms[j]? = some m := ⟨_, List.getElem?_eq_getElem hlj⟩
        obtain ⟨b3, off3, c4, e1, r0, r1, r2⟩ := hPA.at hgm
        obtain ⟨rfl, rfl⟩ : Av = some ⟨b3, off3, none⟩ ∧ cv = c4 := by injection e1 with e1 e2 e3; exact ⟨e1, e3⟩
        have hal := (Below.refl wr.heap.size wr).alloc (Nat.le_refl _) (.cells #[.int .i64 f, .int .i64 t, .int .i64 n] 90)
        have hee := (HREL.out j).moveE (f, t, n)
        have hrel1 := stepR_succ [] ms hgm
        obtain ⟨ev, hev⟩ : ∃ ev, moveE (getV (stepN [] ms j)) (f, t, n) = ev := ⟨_, rfl⟩
        rw [hev] at hee
        have TR := try_any _ u7 (stepR [] ms j) f t n (hX.below hal) (HGD.out j) (by omega)
        rw [← hee, ← hrel1] at TR
        have HTR := Lib.hid TR; have HEV := Lib.hid hev; have HGM := Lib.hid hgm
        have HLA := Lib.hid (hLR.below hal); have HPAa := Lib.hid (hPA.below hal)
        clear hal hee hrel1 TR hev hgm hLR hX hPA e1
        by_cases hjk : j < k
        · have h0 : ev = 0 := by rw [← HEV.out]; exact HRan.out.acc j _ hjk HGM.out
          subst h0
          go_wp2_with fail
          refine HTR.out.mono ?_; rintro e w6 ⟨v', rfl, hP6, hb6⟩
          have HF := Lib.hid (And.intro (HLA.out.below hb6) (And.intro hP6 (HPAa.out.below hb6)))
          clear hP6 hb6 HTR
          go_wp2_with fail
          go_roundw
          case rel => exact ⟨j + 1, by simp, rfl, by simp, by omega, HF.out.1, HF.out.2.1, HF.out.2.2⟩
          case measure => simp; omega
        · obtain rfl : j = k := by omega
          have hne : er ≠ 0 ∧ ev = er := by
            rcases HRan.out.ends with ⟨h1, h2⟩ | ⟨m, h1, h2, h3⟩
            · omega
            · rw [HGM.out] at h1; cases h1
              exact ⟨h3, HEV.out.symm.trans h2⟩
          obtain ⟨he0, rfl⟩ := hne
          have heb : (ev == 0) = false := by simp [he0]
          go_wp2_with fail
          refine HTR.out.mono ?_; rintro e w6 ⟨v', rfl, hP6, hb6⟩
          have hx6 : stepR [] ms (j + 1) = stepR [] ms j := by rw [stepR_succ [] ms HGM.out]; unfold tryL; rw [if_neg]; rw [← (HREL.out j).moveE, HEV.out]; exact he0
          rw [hx6] at hP6
          have HX := Lib.hid hP6; have HL := Lib.hid (HLA.out.below hb6)
          clear hP6 hb6 HTR hx6
          have HRK := Lib.hid (HREL.out j)
          have HFK := Lib.hid (Fine.nil.stepN ms j)
          have hfl := HFK.out.len
          have hgl := stepR_len [] ms j
          simp only [List.length_nil, Nat.zero_add] at hgl
          have en : ((j : Int) == (j : Int)) = true := by simp
          have ee : (ev == ev) = true := by simp
          have cL := HL.out.b1.cell (i := 0) rfl
          have cP := HL.out.bp.cell (i := 0) rfl
          go_wp2_with fail
          refine (jlist_any w6 p (stepN [] ms j) HL.out.t (by omega)).mono ?_; rintro e wa ⟨v5, rfl, hO5, hb⟩
          have HLa := Lib.hid (HL.out.below hb); have HXa := Lib.hid (HX.out.below hb); have HPO := Lib.hid (po_own (by omega) hO5)
          clear hO5 hb
          go_wp2_with fail
          refine (rlist_any wa _ (stepN [] ms j) (stepR [] ms j) HXa.out HRK.out HFK.out (by omega)).mono ?_; rintro e wb ⟨v4, rfl, hO4, hb⟩
          have HLb := Lib.hid (HLa.out.below hb); have HPOb := Lib.hid (HPO.out.below hb); have HO4 := Lib.hid hO4
          clear hO4 hb
          go_wp2_with fail
          refine (osame_any wb v5 v4 (stepN [] ms j) HPOb.out HO4.out (by omega)).mono ?_; rintro e wc ⟨rfl, hb⟩
          have HLc := Lib.hid (HLb.out.below hb)
          clear hb
          have cLc := HLc.out.b1.cell (i := 0) rfl
          have cPc := HLc.out.bp.cell (i := 0) rfl
          go_wp2_with fail
          have htl : (ms.take j).length = j := by rw [List.length_take]; omega
          have hRd := (rd_of_78 (c := c) HC.out).below HLc.out.b
          rw [HMS.out] at hRd
          have hRt := (rd_take hRd j (by omega)).mono HLc.out.b.size
          have BK := back_any wc p (stepN [] ms j) A c (ms.take j) (by omega) HLc.out.t HFK.out hRt (fun m hm => HW.out m (List.mem_of_mem_take hm)) [] (back_moves HRan.out.acc (by omega))
          rw [htl] at BK
          have HBK := Lib.hid BK
          clear hRd hRt BK htl
          refine HBK.out.mono ?_; rintro e wd ⟨rfl, hTd, hgd⟩
          have HLd := Lib.hid (HLc.out.moved hgd hTd hlt hpp hpW)
          clear hTd hgd HBK
          have cLd := HLd.out.b1.cell (i := 0) rfl
          go_wp2_with fail
          refine (jlist_any wd p [] HLd.out.t (by simp)).mono ?_; rintro e we ⟨v7, rfl, hO7, hb⟩
          obtain ⟨A7, c7, rfl⟩ := own_slice hO7
          have HLe := Lib.hid (HLd.out.below hb)
          clear hO7 hb
          have cLe := HLe.out.b1.cell (i := 0) rfl
          have ejl : ((j : Int) == (l.length : Int)) = false := by rw [beq_eq_false_iff_ne]; omega
          go_wp2_with fail
          refine (total_c we p [] HLe.out.t Fine.nil).mono ?_; rintro e wf ⟨rfl, hb⟩
          have HLf := Lib.hid (HLe.out.below hb)
          clear hb
          go_wp2_with fail
          go_ret
          exact ⟨rfl, HLf.out.b⟩
      · have hjk : j = k := by omega
        subst hjk
        have her : er = 0 := by
          rcases HRan.out.ends with ⟨h1, h2⟩ | ⟨m, h1, h2, h3⟩
          · exact h2
          · have := (List.getElem?_eq_some_iff.1 h1).1; omega
        subst her
        have HX := Lib.hid hX; have HL := Lib.hid hLR
        clear hX hLR hPA
        have HRK := Lib.hid (HREL.out j)
        have HFK := Lib.hid (Fine.nil.stepN ms j)
        have hfl := HFK.out.len
        have hgl := stepR_len [] ms j
        simp only [List.length_nil, Nat.zero_add] at hgl
        have en : ((j : Int) == (j : Int)) = true := by simp
        have ee : ((0 : Int) == 0) = true := by simp
        have cL := HL.out.b1.cell (i := 0) rfl
        have cP := HL.out.bp.cell (i := 0) rfl
        go_wp2_with fail
        refine (jlist_any wr p (stepN [] ms j) HL.out.t (by omega)).mono ?_; rintro e wa ⟨v5, rfl, hO5, hb⟩
        have HLa := Lib.hid (HL.out.below hb); have HXa := Lib.hid (HX.out.below hb); have HPO := Lib.hid (po_own (by omega) hO5)
        clear hO5 hb
        go_wp2_with fail
        refine (rlist_any wa _ (stepN [] ms j) (stepR [] ms j) HXa.out HRK.out HFK.out (by omega)).mono ?_; rintro e wb ⟨v4, rfl, hO4, hb⟩
        have HLb := Lib.hid (HLa.out.below hb); have HPOb := Lib.hid (HPO.out.below hb); have HO4 := Lib.hid hO4
        clear hO4 hb
        go_wp2_with fail
        refine (osame_any wb v5 v4 (stepN [] ms j) HPOb.out HO4.out (by omega)).mono ?_; rintro e wc ⟨rfl, hb⟩
        have HLc := Lib.hid (HLb.out.below hb)
        clear hb
        have cLc := HLc.out.b1.cell (i := 0) rfl
        have cPc := HLc.out.bp.cell (i := 0) rfl
        go_wp2_with fail
        have htl : (ms.take j).length = j := by rw [List.length_take]; omega
        have hRd := (rd_of_78 (c := c) HC.out).below HLc.out.b
        rw [HMS.out] at hRd
        have hRt := (rd_take hRd j (by omega)).mono HLc.out.b.size
        have BK := back_any wc p (stepN [] ms j) A c (ms.take j) (by omega) HLc.out.t HFK.out hRt (fun m hm => HW.out m (List.mem_of_mem_take hm)) [] (back_moves HRan.out.acc (by omega))
        rw [htl] at BK
        have HBK := Lib.hid BK
        clear hRd hRt BK htl
        refine HBK.out.mono ?_; rintro e wd ⟨rfl, hTd, hgd⟩
        have HLd := Lib.hid (HLc.out.moved hgd hTd hlt hpp hpW)
        clear hTd hgd HBK
        have cLd := HLd.out.b1.cell (i := 0) rfl
        go_wp2_with fail
        refine (jlist_any wd p [] HLd.out.t (by simp)).mono ?_; rintro e we ⟨v7, rfl, hO7, hb⟩
        obtain ⟨A7, c7, rfl⟩ := own_slice hO7
        have HLe := Lib.hid (HLd.out.below hb)
        clear hO7 hb
        have cLe := HLe.out.b1.cell (i := 0) rfl
        have ejl : ((j : Int) == (l.length : Int)) = true := by rw [beq_iff_eq]; omega
        go_wp2_with fail
        go_ret
        exact ⟨rfl, HLe.out.b⟩

theorem replays_row (W : World) (l : List S78) (A : Option Addr) (c : Nat) (hc : l.length ≤ c) (hA0 : A = none → c = 0) (hC : k78.C W A l.length l) (hL : l.length ≤ maxLen) (hG : ∀ y ∈ l, (Lit.int .i64 y.f0).wf = true ∧ (Lit.int .i64 y.f1).wf = true ∧ (Lit.int .i64 y.f2).wf = true) :
    Calls Try.prog 10 #[.slice A l.length c] W fun e w' => e = .returned (.bool true) ∧ Below W.heap.size W w' :=
  replays_core W l A c hc hA0 hC (by unfold maxLen at hL; omega) (fun m hm => by
    obtain ⟨y, hy, rfl⟩ := List.mem_map.1 hm
    exact ⟨w64_of (hG y hy).1, w64_of (hG y hy).2.1⟩)

end Go.Proofs.Ytmdacfgofilbdaa.Led
