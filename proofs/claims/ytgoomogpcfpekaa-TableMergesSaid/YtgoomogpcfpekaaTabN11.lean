/- table N: the least, the greatest, the greatest below. -/
import Derived.Test.YtgoomogpcfpekaaTabN10
set_option linter.unusedSimpArgs false
set_option linter.unusedVariables false
namespace Go.Proofs.Ytgoomogpcfpekaa.TabN
open Go.RowKit Go.Proofs.Ytgoomogpcfpekaa.TabL

theorem tm_all (W : World) (p : Nat) (xs : List Pr) (h : TMx W p xs) : ∃ St N : World → Prop, Gives2 45 #[.pointer (some ⟨W.heap.size, 0, none⟩)] St N xs ∧
    ∀ W', Below (W.heap.size + 1) (W.alloc (.cells #[.pointer (some ⟨p, 0, none⟩)] 24)) W' → St W' ∧ N W' := by
  have hlt := h.lt
  obtain ⟨q, T0, h1, h2, rfl⟩ := h
  refine ⟨_, _, all_gives W W.heap.size p q T0 h2, fun W' hb => ?_⟩
  have h3 : Below W.heap.size W W' := ((Below.refl _ W).alloc (Nat.le_refl _) _).trans (hb.mono (Nat.le_succ _))
  exact ⟨⟨((Blk.new W [.pointer (some ⟨p, 0, none⟩)] 24).below hb (Nat.lt_succ_self _)).cell (i := 0) rfl, (h1.belowS h3).cell (i := 0) rfl⟩, KT.below h3⟩
theorem tm_back (W : World) (p : Nat) (xs : List Pr) (h : TMx W p xs) : ∃ St N : World → Prop, Gives2 47 #[.pointer (some ⟨W.heap.size, 0, none⟩)] St N xs.reverse ∧
    ∀ W', Below (W.heap.size + 1) (W.alloc (.cells #[.pointer (some ⟨p, 0, none⟩)] 24)) W' → St W' ∧ N W' := by
  have hlt := h.lt
  obtain ⟨q, T0, h1, h2, rfl⟩ := h
  refine ⟨_, _, back_gives W W.heap.size p q T0 h2, fun W' hb => ?_⟩
  have h3 : Below W.heap.size W W' := ((Below.refl _ W).alloc (Nat.le_refl _) _).trans (hb.mono (Nat.le_succ _))
  exact ⟨⟨((Blk.new W [.pointer (some ⟨p, 0, none⟩)] 24).below hb (Nat.lt_succ_self _)).cell (i := 0) rfl, (h1.belowS h3).cell (i := 0) rfl⟩, KT.below h3⟩
theorem tm_from (W : World) (p : Nat) (xs : List Pr) (kf : Int) (h : TMx W p xs) (hs : Sd ltI xs) : ∃ St N : World → Prop, Gives2 49 #[.pointer (some ⟨W.heap.size, 0, none⟩), .pointer (some ⟨W.heap.size + 1, 0, none⟩)] St N (fromL ltI xs kf) ∧
    ∀ W', Below (W.heap.size + 1 + 1) ((W.alloc (.cells #[.pointer (some ⟨p, 0, none⟩)] 24)).alloc (.cells #[(.int .i64 kf)] 2)) W' → St W' ∧ N W' := by
  have hlt := h.lt
  obtain ⟨q, T0, h1, h2, rfl⟩ := h
  refine ⟨_, _, from_gives W W.heap.size (W.heap.size + 1) p q T0 kf h2 hs, fun W' hb => ?_⟩
  have h3 : Below W.heap.size W W' := (bel_alloc2 W _ _).trans (hb.mono (by omega))
  exact ⟨⟨(((Blk.new W [.pointer (some ⟨p, 0, none⟩)] 24).alloc _).below hb (by omega)).cell (i := 0) rfl, (h1.belowS h3).cell (i := 0) rfl⟩, KT.below h3, ((Blk.new2 W _ [(.int .i64 kf)] 2).below hb (by omega)).cell (i := 0) rfl⟩
set_option maxRecDepth 100000 in
set_option maxHeartbeats 4000000 in
theorem least_any (W : World) (p : Nat) (xs : List Pr) (h : TMx W p xs) : Calls Try.prog 21 #[.pointer (some ⟨p, 0, none⟩)] W fun e w' => e = .returned (.tuple #[ek (xs.getD 0 d0).1, .bool (!xs.isEmpty)]) ∧ Below W.heap.size W w' := by
  obtain ⟨St, N, hG, hSN⟩ := tm_all W p xs h
  have J := only_any (W.alloc (.cells #[.pointer (some ⟨p, 0, none⟩)] 24)) _ _ St N xs hG (fun W' hb => (hSN W' (by simpa using hb)).1) (fun W' hb => (hSN W' (by simpa using hb)).2)
  have HJ := Lib.hid J
  clear J hG hSN h
  unfold ek at HJ ⊢
  go_enter Try.func21, Try.ntmps21
  go_wp2_with fail
  refine (all_any W _).mono ?_; rintro e w1 ⟨rfl, rfl⟩
  go_wp2_with fail
  refine HJ.out.mono ?_; rintro e w2 ⟨rfl, hb⟩
  have HB := Lib.hid hb
  clear hb
  go_wp2_with fail
  go_ret2
  exact ⟨rfl, ((Below.refl _ W).alloc (Nat.le_refl _) _).trans (HB.out.mono (by simp))⟩
set_option maxRecDepth 100000 in
set_option maxHeartbeats 4000000 in
theorem most_any (W : World) (p : Nat) (xs : List Pr) (h : TMx W p xs) : Calls Try.prog 22 #[.pointer (some ⟨p, 0, none⟩)] W fun e w' => e = .returned (.tuple #[ek (xs.reverse.getD 0 d0).1, .bool (!xs.reverse.isEmpty)]) ∧ Below W.heap.size W w' := by
  obtain ⟨St, N, hG, hSN⟩ := tm_back W p xs h
  have J := only_any (W.alloc (.cells #[.pointer (some ⟨p, 0, none⟩)] 24)) _ _ St N xs.reverse hG (fun W' hb => (hSN W' (by simpa using hb)).1) (fun W' hb => (hSN W' (by simpa using hb)).2)
  obtain ⟨ys, hys⟩ : ∃ ys, xs.reverse = ys := ⟨_, rfl⟩
  rw [hys] at J ⊢
  have HJ := Lib.hid J
  clear J hG hSN h hys
  unfold ek at HJ ⊢
  go_enter Try.func22, Try.ntmps22
  go_wp2_with fail
  refine (back_any W _).mono ?_; rintro e w1 ⟨rfl, rfl⟩
  go_wp2_with fail
  refine HJ.out.mono ?_; rintro e w2 ⟨rfl, hb⟩
  have HB := Lib.hid hb
  clear hb
  go_wp2_with fail
  go_ret2
  exact ⟨rfl, ((Below.refl _ W).alloc (Nat.le_refl _) _).trans (HB.out.mono (by simp))⟩

/-- the greatest key below k -/
def belowL (xs : List Pr) (k : Int) : Option Int := ((xs.filter (fun p => ltI p.1 k)).getLast?).map (·.1)
theorem belowL_lt {L R : List Pr} {p : Pr} {k : Int} (hk : ltI p.1 k = true) : belowL (L ++ p :: R) k = (belowL R k).or (some p.1) := by
  unfold belowL
  rw [List.filter_append, List.filter_cons, if_pos (by simpa using hk), List.getLast?_append, List.getLast?_cons]
  cases (R.filter (fun p => ltI p.1 k)).getLast? <;> simp
theorem belowL_ge {L R : List Pr} {p : Pr} {k : Int} (hR : ∀ q ∈ R, ltI p.1 q.1 = true) (hk : ltI p.1 k = false) : belowL (L ++ p :: R) k = belowL L k := by
  unfold belowL
  rw [List.filter_append]
  have : (p :: R).filter (fun p => ltI p.1 k) = [] := List.filter_eq_nil_iff.2 (fun q hq => by
    rcases List.mem_cons.1 hq with rfl | hq
    · simp [hk]
    · intro h
      have := lin.tr (hR q hq) h
      rw [hk] at this
      cases this)
  rw [this, List.append_nil]
set_option maxRecDepth 100000 in
set_option maxHeartbeats 4000000 in
theorem below_any (W : World) (p : Nat) (xs : List Pr) (k : Int) (h : TMx W p xs) (hS : Sd ltI xs) :
    Calls Try.prog 19 #[.pointer (some ⟨p, 0, none⟩), (.int .i64 k)] W fun e w' => e = .returned (.tuple #[ek ((belowL xs k).getD 0), .bool (belowL xs k).isSome]) ∧ W = w' := by
  obtain ⟨p0, t0, h1, hT, rfl⟩ := h
  have c0 := h1.cell (i := 0) rfl
  clear h1
  go_enter Try.func19, Try.ntmps19
  go_wp2_with fail
  go_loopg [6, 7, 8] t0.ht (fun g o b pp wr => W = wr ∧ ∃ (t : Tr) (q : Option Addr) (cur : Option Int), o = ek (cur.getD 0) ∧ b = .bool cur.isSome ∧ pp = .pointer q ∧ T W q t ∧ Sd ltI t.toL ∧ t.ht ≤ g ∧ belowL t0.toL k = (belowL t.toL k).or cur)
  case atStart => exact ⟨rfl, t0, p0, none, rfl, rfl, rfl, hT, hS, Nat.le_refl _, by simp⟩
  case round =>
    obtain ⟨rfl, t, q, cur, rfl, rfl, rfl, ht, hs, hg, he⟩ := hrel
    have HT := Lib.hid hT; have HS := Lib.hid hS
    clear hT hS
    obtain ⟨cv, hcv⟩ : ∃ cv, cur.getD 0 = cv := ⟨_, rfl⟩
    obtain ⟨cb, hcb⟩ : ∃ cb, cur.isSome = cb := ⟨_, rfl⟩
    rw [hcv, hcb]
    unfold ek
    have HV := Lib.hid hcv; have HB := Lib.hid hcb
    clear hcv hcb
    cases t with
    | leaf =>
      obtain rfl : q = none := ht
      have HE := Lib.hid he
      clear he hs hg
      go_wp2_with fail
      go_ret2
      refine ⟨?_, rfl⟩
      rw [HE.out, show belowL BT.leaf.toL k = none from rfl, Option.none_or, HV.out, HB.out]
      rfl
    | node l k0 v0 r =>
      obtain ⟨bn, pl, pr, rfl, hn, hl, hr⟩ := ht
      have n0 := hn.cell (i := 0) rfl
      have n1 := hn.cell (i := 1) rfl
      have n2 := hn.cell (i := 2) rfl
      have n3 := hn.cell (i := 3) rfl
      unfold ek at n0
      unfold ev at n1
      clear hn
      simp only [BT.toL] at hs he
      obtain ⟨sl, sr, kl, kr⟩ := hs.parts
      cases hk : ltI k0 k
      · have hc : ∃ c : Int, (0 : Int) ≤ c ∧ Calls Try.prog 50 #[(.int .i64 k0), (.int .i64 k)] W fun e w' => e = .returned (.int .i64 c) ∧ W = w' := by
          rcases ways k0 k with h | h | h
          · rw [hk] at h; cases h
          · exact ⟨1, by omega, cmp_gt W h⟩
          · subst h; exact ⟨0, by omega, cmp_eq W k0⟩
        obtain ⟨c, hc0, hcc⟩ := hc
        have hp := belowL_ge (L := l.toL) kr hk
        have HC := Lib.hid hcc
        have A := Lib.hid (show T W pl l ∧ Sd ltI l.toL ∧ l.ht < (BT.node l k0 v0 r).ht ∧ (BT.node l k0 v0 r).ht ≤ gk ∧ belowL t0.toL k = (belowL l.toL k).or cur from ⟨hl, sl, by simp only [BT.ht]; omega, hg, by rw [he, hp]⟩)
        clear hp hk hs sl sr kl kr hl hr he hg hcc
        go_wp2_with fail
        refine HC.out.mono ?_; rintro e w1 ⟨rfl, rfl⟩
        go_wp2_with fail
        obtain ⟨a1, a2, a3, a4, a5⟩ := A.out
        go_roundg l.ht
        case measure => omega
        case rel => exact ⟨rfl, l, pl, cur, by rw [HV.out]; rfl, by rw [HB.out], rfl, a1, a2, Nat.le_refl _, a5⟩
      · have hp := belowL_lt (L := l.toL) (R := r.toL) (p := (k0, v0)) hk
        have HC := Lib.hid (cmp_lt W hk)
        have A := Lib.hid (show T W pr r ∧ Sd ltI r.toL ∧ r.ht < (BT.node l k0 v0 r).ht ∧ (BT.node l k0 v0 r).ht ≤ gk ∧ belowL t0.toL k = (belowL r.toL k).or (some k0) from ⟨hr, sr, by simp only [BT.ht]; omega, hg, by rw [he, hp]; cases belowL r.toL k <;> rfl⟩)
        clear hp hk hs sl sr kl kr hl hr he hg
        go_wp2_with fail
        refine HC.out.mono ?_; rintro e w1 ⟨rfl, rfl⟩
        go_wp2_with fail
        obtain ⟨a1, a2, a3, a4, a5⟩ := A.out
        go_roundg r.ht
        case measure => omega
        case rel => exact ⟨rfl, r, pr, some k0, rfl, rfl, rfl, a1, a2, Nat.le_refl _, a5⟩

end Go.Proofs.Ytgoomogpcfpekaa.TabN
