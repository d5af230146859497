/- table B: the order of keys; height, size, a node over two others. -/
import Derived.Test.YtmdacfgofilbdaaTabM
import Derived.Test.YtmdacfgofilbdaaRows
import Derived.Deep.RegionHeld3
import Derived.Deep.QuietTactic
import Derived.BigQuiet
import Derived.WalkSpells
import Derived.WalkLawsBesides
import Derived.Lib.Hide
set_option linter.unusedSimpArgs false
set_option linter.unusedVariables false
namespace Go.Proofs.Ytmdacfgofilbdaa.TabB
open Go.RowKit Go.Proofs.Ytmdacfgofilbdaa.TabL

def ltI (a b : Int) : Bool := decide (a < b)
theorem lin : Lin ltI where
  irr a := by simp [ltI]
  tr h1 h2 := by simp [ltI] at *; omega
  tot h1 h2 := by simp [ltI] at *; omega

def ek (x : Int) : Value := (.int .i64 x)
def ev (x : Int) : Value := (.int .i64 x)
abbrev Tr := BT Int Int
abbrev T (W : World) (p : Option Addr) (t : Tr) : Prop := IsT 145 ek ev W p t
abbrev TMx (W : World) (p : Nat) (xs : List (Int × Int)) : Prop := TM 28 145 ek ev W p xs

set_option maxRecDepth 100000 in
set_option maxHeartbeats 2000000 in
theorem nan_any (W : World) (a : Int) : Calls Try.prog 108 #[(.int .i64 a)] W fun e w' => e = .returned (.bool false) ∧ W = w' := by
  go_enter Try.func108, Try.ntmps108
  go_wp2_with fail
  go_ret
  exact ⟨rfl, rfl⟩
set_option maxRecDepth 100000 in
set_option maxHeartbeats 2000000 in
theorem cmp_any (W : World) (a b : Int) : Calls Try.prog 104 #[(.int .i64 a), (.int .i64 b)] W fun e w' => e = .returned (.int .i64 (cmpV ltI a b)) ∧ W = w' := by
  by_cases h1 : a < b
  · rw [show cmpV ltI a b = -1 from by unfold cmpV ltI; rw [if_pos (by simpa using h1)]]
    go_enter Try.func104, Try.ntmps104
    go_wp2_with fail
    refine (nan_any W a).mono ?_; rintro e w' ⟨rfl, rfl⟩
    go_wp2_with fail
    refine (nan_any W b).mono ?_; rintro e w' ⟨rfl, rfl⟩
    go_wp2_with fail
    go_ret
    exact ⟨rfl, rfl⟩
  · by_cases h2 : b < a
    · rw [show cmpV ltI a b = 1 from by unfold cmpV ltI; rw [if_neg (by simpa using h1), if_pos (by simpa using h2)]]
      go_enter Try.func104, Try.ntmps104
      go_wp2_with fail
      refine (nan_any W a).mono ?_; rintro e w' ⟨rfl, rfl⟩
      go_wp2_with fail
      refine (nan_any W b).mono ?_; rintro e w' ⟨rfl, rfl⟩
      go_wp2_with fail
      go_ret
      exact ⟨rfl, rfl⟩
    · rw [show cmpV ltI a b = 0 from by unfold cmpV ltI; rw [if_neg (by simpa using h1), if_neg (by simpa using h2)]]
      go_enter Try.func104, Try.ntmps104
      go_wp2_with fail
      refine (nan_any W a).mono ?_; rintro e w' ⟨rfl, rfl⟩
      go_wp2_with fail
      refine (nan_any W b).mono ?_; rintro e w' ⟨rfl, rfl⟩
      go_wp2_with fail
      go_ret
      exact ⟨rfl, rfl⟩

set_option maxRecDepth 100000 in
set_option maxHeartbeats 2000000 in
theorem height_any (W : World) (p : Option Addr) (t : Tr) (h : T W p t) : Calls Try.prog 115 #[.pointer p] W fun e w' => e = .returned (.int .i64 (t.ht : Int)) ∧ W = w' := by
  cases t with
  | leaf =>
    obtain rfl : p = none := h
    go_enter Try.func115, Try.ntmps115
    go_wp2_with fail
    go_ret
    exact ⟨rfl, rfl⟩
  | node l k v r =>
    obtain ⟨b, pl, pr, rfl, hb, _, _⟩ := h
    have c4 := hb.cell (i := 4) rfl
    clear hb
    go_enter Try.func115, Try.ntmps115
    go_wp2_with fail
    go_ret
    exact ⟨rfl, rfl⟩
set_option maxRecDepth 100000 in
set_option maxHeartbeats 2000000 in
theorem size_any (W : World) (p : Option Addr) (t : Tr) (h : T W p t) : Calls Try.prog 116 #[.pointer p] W fun e w' => e = .returned (.int .i64 (t.toL.length : Int)) ∧ W = w' := by
  cases t with
  | leaf =>
    obtain rfl : p = none := h
    go_enter Try.func116, Try.ntmps116
    go_wp2_with fail
    go_ret
    exact ⟨rfl, rfl⟩
  | node l k v r =>
    obtain ⟨b, pl, pr, rfl, hb, _, _⟩ := h
    have c5 := hb.cell (i := 5) rfl
    clear hb
    go_enter Try.func116, Try.ntmps116
    go_wp2_with fail
    go_ret
    exact ⟨rfl, rfl⟩
set_option maxRecDepth 100000 in
set_option maxHeartbeats 2000000 in
/-- by how much the left side is the higher one -/
theorem lean_any (W : World) (p : Option Addr) (l : Tr) (k : Int) (v : Int) (r : Tr) (h : T W p (.node l k v r)) (hs : l.ht ≤ 1099511627776 ∧ r.ht ≤ 1099511627776) : Calls Try.prog 112 #[.pointer p] W fun e w' => e = .returned (.int .i64 ((l.ht : Int) - (r.ht : Int))) ∧ ∃ m, w' = W.drewN m := by
  obtain ⟨b, pl, pr, rfl, hb, hl, hr⟩ := h
  have c2 := hb.cell (i := 2) rfl
  have c3 := hb.cell (i := 3) rfl
  clear hb
  obtain ⟨a, ha⟩ : ∃ a, l.ht = a := ⟨_, rfl⟩
  obtain ⟨c, hc⟩ : ∃ c, r.ht = c := ⟨_, rfl⟩
  have h1 : ∀ n, Calls Try.prog 115 #[.pointer pl] (W.drewN n) fun e w' => e = .returned (.int .i64 (l.ht : Int)) ∧ w' = W.drewN n := fun n => (height_any _ pl l (hl.drewN n)).mono fun _ _ ⟨x, y⟩ => ⟨x, y.symm⟩
  have h2 : ∀ n, Calls Try.prog 115 #[.pointer pr] (W.drewN n) fun e w' => e = .returned (.int .i64 (r.ht : Int)) ∧ w' = W.drewN n := fun n => (height_any _ pr r (hr.drewN n)).mono fun _ _ ⟨x, y⟩ => ⟨x, y.symm⟩
  rw [ha] at h1 hs ⊢
  rw [hc] at h2 hs ⊢
  have H1 := Lib.hid h1; have H2 := Lib.hid h2
  clear h1 h2 hl hr ha hc
  have a0 : (0 : Int) ≤ (a : Int) := by omega
  have a1 : (a : Int) ≤ 1099511627776 := by omega
  have b0 : (0 : Int) ≤ (c : Int) := by omega
  have b1 : (c : Int) ≤ 1099511627776 := by omega
  go_enter Try.func112, Try.ntmps112
  go_wp2_with fail
  go_quiet (first | (go_at_call 115; (with_reducible exact Calls.quiet_of_same (H1.out _))) | (go_at_call 115; exact Calls.quiet_of_same (H2.out _)))
  go_wp2_with fail
  go_ret
  exact ⟨rfl, _, rfl⟩

/-- a tree no greater than fits -/
def Fit (t : Tr) : Prop := t.toL.length ≤ 1099511627776
theorem Fit.ht {t : Tr} (h : Fit t) : t.ht ≤ 1099511627776 := Nat.le_trans t.ht_le h

set_option maxRecDepth 100000 in
set_option maxHeartbeats 2000000 in
/-- a node over two others -/
theorem join_any (W : World) (k : Int) (v : Int) (pl pr : Option Addr) (l r : Tr) (hl : T W pl l) (hr : T W pr r) (fl : Fit l) (fr : Fit r) :
    Calls Try.prog 111 #[(.int .i64 k), (.int .i64 v), .pointer pl, .pointer pr] W fun e w' => ∃ q, e = .returned (.pointer q) ∧ T w' q (.node l k v r) ∧ Below W.heap.size W w' := by
  have h1 := Lib.hid (height_any W pl l hl)
  have h2 := Lib.hid (height_any W pr r hr)
  have h3 := Lib.hid (size_any W pl l hl)
  have h4 := Lib.hid (size_any W pr r hr)
  have f1 := fl.ht
  have f2 := fr.ht
  unfold Fit at fl fr
  have a0 : (0 : Int) ≤ (l.ht : Int) := by omega
  have a1 : (l.ht : Int) ≤ 1099511627776 := by omega
  have b0 : (0 : Int) ≤ (r.ht : Int) := by omega
  have b1 : (r.ht : Int) ≤ 1099511627776 := by omega
  have c0 : (0 : Int) ≤ (l.toL.length : Int) := by omega
  have c1 : (l.toL.length : Int) ≤ 1099511627776 := by omega
  have d0 : (0 : Int) ≤ (r.toL.length : Int) := by omega
  have d1 : (r.toL.length : Int) ≤ 1099511627776 := by omega
  have HL := Lib.hid hl; have HR := Lib.hid hr
  clear hl hr fl fr f1 f2
  go_enter Try.func111, Try.ntmps111
  go_wp2_with fail
  refine h1.out.mono ?_; rintro e w' ⟨rfl, rfl⟩
  go_wp2_with fail
  refine h2.out.mono ?_; rintro e w' ⟨rfl, rfl⟩
  have hfin : ∀ m : Int, m = ((max l.ht r.ht : Nat) : Int) → ∃ q, Ending.returned (.pointer (some ⟨W.heap.size, 0, none⟩)) = Ending.returned (.pointer q) ∧ T (W.alloc (.cells #[(.int .i64 k), (.int .i64 v), .pointer pl, .pointer pr, .int .i64 (m + 1), .int .i64 ((l.toL.length : Int) + (r.toL.length : Int) + 1)] 145)) q (.node l k v r) ∧ Below W.heap.size W (W.alloc (.cells #[(.int .i64 k), (.int .i64 v), .pointer pl, .pointer pr, .int .i64 (m + 1), .int .i64 ((l.toL.length : Int) + (r.toL.length : Int) + 1)] 145)) := fun m hm => by
    have hb : Below W.heap.size W (W.alloc (.cells #[(.int .i64 k), (.int .i64 v), .pointer pl, .pointer pr, .int .i64 (m + 1), .int .i64 ((l.toL.length : Int) + (r.toL.length : Int) + 1)] 145)) := (Below.refl _ W).alloc (Nat.le_refl _) _
    refine ⟨_, rfl, ⟨_, pl, pr, rfl, ?_, HL.out.below hb, HR.out.below hb⟩, hb⟩
    have hn := Blk.new W [(.int .i64 k), (.int .i64 v), .pointer pl, .pointer pr, .int .i64 (m + 1), .int .i64 ((l.toL.length : Int) + (r.toL.length : Int) + 1)] 145
    have e1 : m + 1 = ((BT.node l k v r).ht : Int) := by rw [hm]; simp only [BT.ht]; omega
    have e2 : (l.toL.length : Int) + (r.toL.length : Int) + 1 = ((BT.node l k v r).toL.length : Int) := by simp only [BT.toL, List.length_append, List.length_cons]; omega
    rw [e1, e2] at hn
    rw [e1, e2]
    exact hn
  have HFIN := Lib.hid hfin; clear hfin
  by_cases hm : (l.ht : Int) ≤ (r.ht : Int)
  · have hq : (r.ht : Int) = ((max l.ht r.ht : Nat) : Int) := by omega
    have HQ := Lib.hid hq; clear hq
    go_wp2_with fail
    all_goals
      refine h3.out.mono ?_; rintro e w' ⟨rfl, rfl⟩
      go_wp2_with fail
      refine h4.out.mono ?_; rintro e w' ⟨rfl, rfl⟩
      go_wp2_with fail
      go_ret
      first | exact HFIN.out _ HQ.out | exact HFIN.out _ (by omega)
  · have hm2 : (r.ht : Int) < (l.ht : Int) := by omega
    have hq : (l.ht : Int) = ((max l.ht r.ht : Nat) : Int) := by omega
    have HQ := Lib.hid hq; clear hq
    go_wp2_with fail
    all_goals
      refine h3.out.mono ?_; rintro e w' ⟨rfl, rfl⟩
      go_wp2_with fail
      refine h4.out.mono ?_; rintro e w' ⟨rfl, rfl⟩
      go_wp2_with fail
      go_ret
      first | exact HFIN.out _ HQ.out | exact HFIN.out _ (by omega)

end Go.Proofs.Ytmdacfgofilbdaa.TabB

/- table B: nodes are turned; a node whose sides are even. -/
set_option linter.unusedSimpArgs false
set_option linter.unusedVariables false
namespace Go.Proofs.Ytmdacfgofilbdaa.TabB
open Go.RowKit Go.Proofs.Ytmdacfgofilbdaa.TabL

theorem bcell {W w1 : World} (hb : Below W.heap.size W w1) : (∀ b o, b < W.heap.size → w1.cell? ⟨b, o, none⟩ = W.cell? ⟨b, o, none⟩) ∧ (∀ b o, b < W.heap.size → w1.frozen? ⟨b, o, none⟩ = W.frozen? ⟨b, o, none⟩) :=
  ⟨fun b o h => hb.cell (p := ⟨b, o, none⟩) h, fun b o h => hb.frozen (p := ⟨b, o, none⟩) h⟩

set_option maxRecDepth 100000 in
set_option maxHeartbeats 4000000 in
theorem turnRight_any (W : World) (p : Option Addr) (a : Tr) (lk : Int) (lv : Int) (b : Tr) (k : Int) (v : Int) (c : Tr) (h : T W p (.node (.node a lk lv b) k v c)) (hf : Fit (.node (.node a lk lv b) k v c)) :
    Calls Try.prog 113 #[.pointer p] W fun e w' => ∃ q, e = .returned (.pointer q) ∧ T w' q (.node a lk lv (.node b k v c)) ∧ Below W.heap.size W w' := by
  obtain ⟨bn, pl, pr, rfl, hn, ⟨bl, pa, pb, rfl, hl, ha, hb⟩, hc⟩ := h
  have n0 := hn.cell (i := 0) rfl
  have n1 := hn.cell (i := 1) rfl
  have n2 := hn.cell (i := 2) rfl
  have n3 := hn.cell (i := 3) rfl
  have l0 := hl.cell (i := 0) rfl
  have l1 := hl.cell (i := 1) rfl
  have l2 := hl.cell (i := 2) rfl
  have l3 := hl.cell (i := 3) rfl
  have nlt := hn.lt
  have llt := hl.lt
  have fb : Fit b ∧ Fit c ∧ Fit a ∧ Fit (.node b k v c) := by unfold Fit at *; simp only [BT.toL, List.length_append, List.length_cons] at hf ⊢; omega
  unfold ek at n0 l0
  unfold ev at n1 l1
  clear hn hl
  have J1 := fun w (hw : Below W.heap.size W w) => join_any w k v pb pr b c (hb.below hw) (hc.below hw) fb.1 fb.2.1
  have J2 := fun w (hw : Below W.heap.size W w) q (hq : T w q (.node b k v c)) => join_any w lk lv pa q a (.node b k v c) (ha.below hw) hq fb.2.2.1 fb.2.2.2
  have H1 := Lib.hid J1; have H2 := Lib.hid J2
  clear J1 J2 ha hb hc hf fb
  go_enter Try.func113, Try.ntmps113
  go_wp2_with fail
  go_region_held3 (fun w' => w'.cell? ⟨bl, 0, none⟩ = some (.int .i64 lk) ∧ w'.cell? ⟨bl, 1, none⟩ = some (.int .i64 lv) ∧ w'.cell? ⟨bl, 2, none⟩ = some (.pointer pa) ∧ w'.cell? ⟨bl, 3, none⟩ = some (.pointer pb) ∧ w'.cell? ⟨bn, 0, none⟩ = some (.int .i64 k) ∧ w'.cell? ⟨bn, 1, none⟩ = some (.int .i64 v) ∧ w'.cell? ⟨bn, 3, none⟩ = some (.pointer pr)) (go_keep) ((first
    | (go_at_call 111; (with_reducible refine (H1.out _ ((Below.refl _ _).drew)).mono ?_); rintro e w3 ⟨q3, rfl, hT3, hb3'⟩; have hb3 := Below.trans (Below.drew (Below.refl W.heap.size W)) hb3'; clear hb3'; obtain ⟨hc3, hf3⟩ := bcell hb3; have hz3 := Nat.lt_of_lt_of_le llt hb3.size; have hz3' := Nat.lt_of_lt_of_le nlt hb3.size)
    | (go_at_call 111; (with_reducible refine (H2.out _ hb3 _ hT3).mono ?_); rintro e w4 ⟨q4, rfl, hT4, hb4⟩; obtain ⟨hc4, hf4⟩ := bcell hb4)))
  go_wp2_with fail
  go_ret
  exact ⟨_, rfl, hT4, hb3.trans (hb4.mono hb3.size)⟩

set_option maxRecDepth 100000 in
set_option maxHeartbeats 4000000 in
theorem turnLeft_any (W : World) (p : Option Addr) (a : Tr) (k : Int) (v : Int) (b : Tr) (rk : Int) (rv : Int) (c : Tr) (h : T W p (.node a k v (.node b rk rv c))) (hf : Fit (.node a k v (.node b rk rv c))) :
    Calls Try.prog 114 #[.pointer p] W fun e w' => ∃ q, e = .returned (.pointer q) ∧ T w' q (.node (.node a k v b) rk rv c) ∧ Below W.heap.size W w' := by
  obtain ⟨bn, pa, pr, rfl, hn, ha, ⟨br, pb, pc, rfl, hr, hb, hc⟩⟩ := h
  have n0 := hn.cell (i := 0) rfl
  have n1 := hn.cell (i := 1) rfl
  have n2 := hn.cell (i := 2) rfl
  have n3 := hn.cell (i := 3) rfl
  have r0 := hr.cell (i := 0) rfl
  have r1 := hr.cell (i := 1) rfl
  have r2 := hr.cell (i := 2) rfl
  have r3 := hr.cell (i := 3) rfl
  have nlt := hn.lt
  have rlt := hr.lt
  have fb : Fit a ∧ Fit b ∧ Fit c ∧ Fit (.node a k v b) := by unfold Fit at *; simp only [BT.toL, List.length_append, List.length_cons] at hf ⊢; omega
  unfold ek at n0 r0
  unfold ev at n1 r1
  clear hn hr
  have J1 := fun w (hw : Below W.heap.size W w) => join_any w k v pa pb a b (ha.below hw) (hb.below hw) fb.1 fb.2.1
  have J2 := fun w (hw : Below W.heap.size W w) q (hq : T w q (.node a k v b)) => join_any w rk rv q pc (.node a k v b) c hq (hc.below hw) fb.2.2.2 fb.2.2.1
  have H1 := Lib.hid J1; have H2 := Lib.hid J2
  clear J1 J2 ha hb hc hf fb
  go_enter Try.func114, Try.ntmps114
  go_wp2_with fail
  go_region_held3 (fun w' => w'.cell? ⟨br, 0, none⟩ = some (.int .i64 rk) ∧ w'.cell? ⟨br, 1, none⟩ = some (.int .i64 rv) ∧ w'.cell? ⟨br, 2, none⟩ = some (.pointer pb) ∧ w'.cell? ⟨br, 3, none⟩ = some (.pointer pc) ∧ w'.cell? ⟨bn, 0, none⟩ = some (.int .i64 k) ∧ w'.cell? ⟨bn, 1, none⟩ = some (.int .i64 v) ∧ w'.cell? ⟨bn, 2, none⟩ = some (.pointer pa)) (go_keep) ((first
    | (go_at_call 111; (with_reducible refine (H1.out _ ((Below.refl _ _).drew)).mono ?_); rintro e w3 ⟨q3, rfl, hT3, hb3'⟩; have hb3 := Below.trans (Below.drew (Below.refl W.heap.size W)) hb3'; clear hb3'; obtain ⟨hc3, hf3⟩ := bcell hb3; have hz3 := Nat.lt_of_lt_of_le rlt hb3.size; have hz3' := Nat.lt_of_lt_of_le nlt hb3.size)
    | (go_at_call 111; (with_reducible refine (H2.out _ hb3 _ hT3).mono ?_); rintro e w4 ⟨q4, rfl, hT4, hb4⟩; obtain ⟨hc4, hf4⟩ := bcell hb4)))
  go_wp2_with fail
  go_ret
  exact ⟨_, rfl, hT4, hb3.trans (hb4.mono hb3.size)⟩

theorem lean_b (W : World) (p : Option Addr) (l : Tr) (k : Int) (v : Int) (r : Tr) (h : T W p (.node l k v r)) (hf : Fit (.node l k v r)) : Calls Try.prog 112 #[.pointer p] W fun e w' => e = .returned (.int .i64 ((l.ht : Int) - (r.ht : Int))) ∧ Below W.heap.size W w' := by
  have hfl : Fit l ∧ Fit r := by unfold Fit at *; simp only [BT.toL, List.length_append, List.length_cons] at hf; omega
  exact (lean_any W p l k v r h ⟨hfl.1.ht, hfl.2.ht⟩).mono fun _ _ ⟨h1, m, h2⟩ => ⟨h1, by rw [h2]; exact ⟨rfl, rfl, rfl, Nat.le_refl _, fun _ _ => rfl⟩⟩

/-- what even answers -/
def Ev (W : World) (xs : List (Int × Int)) (e : Ending) (w' : World) : Prop := ∃ q t, e = .returned (.pointer q) ∧ T w' q t ∧ t.toL = xs ∧ Below W.heap.size W w'

set_option maxRecDepth 100000 in
set_option maxHeartbeats 4000000 in
theorem even_any (W : World) (k : Int) (v : Int) (pl pr : Option Addr) (l r : Tr) (hl : T W pl l) (hr : T W pr r) (hf : Fit (.node l k v r)) :
    Calls Try.prog 109 #[(.int .i64 k), (.int .i64 v), .pointer pl, .pointer pr] W fun e w' => Ev W (l.toL ++ (k, v) :: r.toL) e w' := by
  have hfl : Fit l ∧ Fit r := by unfold Fit at *; simp only [BT.toL, List.length_append, List.length_cons] at hf; omega
  have f1 := hfl.1.ht
  have f2 := hfl.2.ht
  have HL := Lib.hid hl; have HR := Lib.hid hr
  have H0 := Lib.hid (join_any W k v pl pr l r hl hr hfl.1 hfl.2)
  clear hl hr
  obtain ⟨x, hx⟩ : ∃ x : Int, (l.ht : Int) - (r.ht : Int) = x := ⟨_, rfl⟩
  by_cases h1 : 1 < x
  · obtain ⟨a, lk, lv, b, rfl⟩ := BT.ht_pos (t := l) (by omega)
    obtain ⟨y, hy⟩ : ∃ y : Int, (a.ht : Int) - (b.ht : Int) = y := ⟨_, rfl⟩
    have hLL := fun w (hw : Below W.heap.size W w) => lean_b w pl a lk lv b (HL.out.below hw) hfl.1
    have hNN := fun w q (hq : T w q (.node (.node a lk lv b) k v r)) => lean_b w q _ k v r hq hf
    simp only [hx] at hNN
    simp only [hy] at hLL
    have HLL := Lib.hid hLL; have HNN := Lib.hid hNN
    clear hLL hNN
    by_cases h2 : y < 0
    · obtain ⟨c, bk, bv, d, rfl⟩ := BT.ht_pos (t := b) (by omega)
      have g1 : Fit (.node (.node a lk lv c) bk bv d) := by unfold Fit at *; simp only [BT.toL, List.length_append, List.length_cons] at hf ⊢; omega
      have g2 : Fit (.node (.node (.node a lk lv c) bk bv d) k v r) := by unfold Fit at *; simp only [BT.toL, List.length_append, List.length_cons] at hf ⊢; omega
      clear hx hy f1 f2
      go_enter Try.func109, Try.ntmps109
      go_wp2_with fail
      refine H0.out.mono ?_; rintro e w1 ⟨q1, rfl, hT1, hb1⟩
      go_wp2_with fail
      refine (HNN.out w1 q1 hT1).mono ?_; rintro e w2 ⟨rfl, hb2'⟩
      have hb2 := hb1.trans (hb2'.mono hb1.size)
      have hT2 := hT1.below hb2'
      clear hb2'
      go_wp2_with fail
      refine (HLL.out w2 hb2).mono ?_; rintro e w3 ⟨rfl, hb3'⟩
      have hb3 := hb2.trans (hb3'.mono hb2.size)
      have hT3 := hT2.below hb3'
      clear hb3'
      go_wp2_with fail
      refine (turnLeft_any w3 pl a lk lv c bk bv d (HL.out.below hb3) hfl.1).mono ?_; rintro e w4 ⟨q4, rfl, hT4, hb4'⟩
      have hb4 := hb3.trans (hb4'.mono hb3.size)
      go_wp2_with fail
      refine (join_any w4 k v q4 pr _ r hT4 (HR.out.below hb4) g1 hfl.2).mono ?_; rintro e w5 ⟨q5, rfl, hT5, hb5'⟩
      have hb5 := hb4.trans (hb5'.mono hb4.size)
      go_wp2_with fail
      refine (turnRight_any w5 q5 _ bk bv d k v r hT5 g2).mono ?_; rintro e w6 ⟨q6, rfl, hT6, hb6'⟩
      go_wp2_with fail
      go_ret
      exact ⟨_, _, rfl, hT6, by simp [BT.toL], hb5.trans (hb6'.mono hb5.size)⟩
    · have h2' : 0 ≤ y := by omega
      clear hx hy f1 f2
      go_enter Try.func109, Try.ntmps109
      go_wp2_with fail
      refine H0.out.mono ?_; rintro e w1 ⟨q1, rfl, hT1, hb1⟩
      go_wp2_with fail
      refine (HNN.out w1 q1 hT1).mono ?_; rintro e w2 ⟨rfl, hb2'⟩
      have hb2 := hb1.trans (hb2'.mono hb1.size)
      have hT2 := hT1.below hb2'
      clear hb2'
      go_wp2_with fail
      refine (HLL.out w2 hb2).mono ?_; rintro e w3 ⟨rfl, hb3'⟩
      have hb3 := hb2.trans (hb3'.mono hb2.size)
      have hT3 := hT2.below hb3'
      clear hb3'
      go_wp2_with fail
      refine (HNN.out w3 q1 hT3).mono ?_; rintro e w4 ⟨rfl, hb4'⟩
      have hb4 := hb3.trans (hb4'.mono hb3.size)
      have hT4 := hT3.below hb4'
      clear hb4'
      go_wp2_with fail
      refine (turnRight_any w4 q1 a lk lv b k v r hT4 hf).mono ?_; rintro e w6 ⟨q6, rfl, hT6, hb6'⟩
      go_wp2_with fail
      go_ret
      exact ⟨_, _, rfl, hT6, by simp [BT.toL], hb4.trans (hb6'.mono hb4.size)⟩
  · have h1' : x ≤ 1 := by omega
    by_cases h3 : x < -1
    · obtain ⟨a, rk, rv, b, rfl⟩ := BT.ht_pos (t := r) (by omega)
      obtain ⟨y, hy⟩ : ∃ y : Int, (a.ht : Int) - (b.ht : Int) = y := ⟨_, rfl⟩
      have hLL := fun w (hw : Below W.heap.size W w) => lean_b w pr a rk rv b (HR.out.below hw) hfl.2
      have hNN := fun w q (hq : T w q (.node l k v (.node a rk rv b))) => lean_b w q _ k v _ hq hf
      simp only [hx] at hNN
      simp only [hy] at hLL
      have HLL := Lib.hid hLL; have HNN := Lib.hid hNN
      clear hLL hNN
      by_cases h2 : 0 < y
      · obtain ⟨c, bk, bv, d, rfl⟩ := BT.ht_pos (t := a) (by omega)
        have g1 : Fit (.node c bk bv (.node d rk rv b)) := by unfold Fit at *; simp only [BT.toL, List.length_append, List.length_cons] at hf ⊢; omega
        have g2 : Fit (.node l k v (.node c bk bv (.node d rk rv b))) := by unfold Fit at *; simp only [BT.toL, List.length_append, List.length_cons] at hf ⊢; omega
        clear hx hy f1 f2
        go_enter Try.func109, Try.ntmps109
        go_wp2_with fail
        refine H0.out.mono ?_; rintro e w1 ⟨q1, rfl, hT1, hb1⟩
        go_wp2_with fail
        refine (HNN.out w1 q1 hT1).mono ?_; rintro e w2 ⟨rfl, hb2'⟩
        have hb2 := hb1.trans (hb2'.mono hb1.size)
        have hT2 := hT1.below hb2'
        clear hb2'
        go_wp2_with fail
        refine (HNN.out w2 q1 hT2).mono ?_; rintro e w3 ⟨rfl, hb3'⟩
        have hb3 := hb2.trans (hb3'.mono hb2.size)
        have hT3 := hT2.below hb3'
        clear hb3'
        go_wp2_with fail
        refine (HNN.out w3 q1 hT3).mono ?_; rintro e w4 ⟨rfl, hb4'⟩
        have hb4 := hb3.trans (hb4'.mono hb3.size)
        have hT4 := hT3.below hb4'
        clear hb4'
        go_wp2_with fail
        refine (HLL.out w4 hb4).mono ?_; rintro e w5 ⟨rfl, hb5'⟩
        have hb5 := hb4.trans (hb5'.mono hb4.size)
        have hT5 := hT4.below hb5'
        clear hb5'
        go_wp2_with fail
        refine (turnRight_any w5 pr c bk bv d rk rv b (HR.out.below hb5) hfl.2).mono ?_; rintro e w6 ⟨q6, rfl, hT6, hb6'⟩
        have hb6 := hb5.trans (hb6'.mono hb5.size)
        go_wp2_with fail
        refine (join_any w6 k v pl q6 l _ (HL.out.below hb6) hT6 hfl.1 g1).mono ?_; rintro e w7 ⟨q7, rfl, hT7, hb7'⟩
        have hb7 := hb6.trans (hb7'.mono hb6.size)
        go_wp2_with fail
        refine (turnLeft_any w7 q7 l k v c bk bv _ hT7 g2).mono ?_; rintro e w8 ⟨q8, rfl, hT8, hb8'⟩
        go_wp2_with fail
        go_ret
        exact ⟨_, _, rfl, hT8, by simp [BT.toL], hb7.trans (hb8'.mono hb7.size)⟩
      · have h2' : y ≤ 0 := by omega
        clear hx hy f1 f2
        go_enter Try.func109, Try.ntmps109
        go_wp2_with fail
        refine H0.out.mono ?_; rintro e w1 ⟨q1, rfl, hT1, hb1⟩
        go_wp2_with fail
        refine (HNN.out w1 q1 hT1).mono ?_; rintro e w2 ⟨rfl, hb2'⟩
        have hb2 := hb1.trans (hb2'.mono hb1.size)
        have hT2 := hT1.below hb2'
        clear hb2'
        go_wp2_with fail
        refine (HNN.out w2 q1 hT2).mono ?_; rintro e w3 ⟨rfl, hb3'⟩
        have hb3 := hb2.trans (hb3'.mono hb2.size)
        have hT3 := hT2.below hb3'
        clear hb3'
        go_wp2_with fail
        refine (HNN.out w3 q1 hT3).mono ?_; rintro e w4 ⟨rfl, hb4'⟩
        have hb4 := hb3.trans (hb4'.mono hb3.size)
        have hT4 := hT3.below hb4'
        clear hb4'
        go_wp2_with fail
        refine (HLL.out w4 hb4).mono ?_; rintro e w5 ⟨rfl, hb5'⟩
        have hb5 := hb4.trans (hb5'.mono hb4.size)
        have hT5 := hT4.below hb5'
        clear hb5'
        go_wp2_with fail
        refine (HNN.out w5 q1 hT5).mono ?_; rintro e w6 ⟨rfl, hb6'⟩
        have hb6 := hb5.trans (hb6'.mono hb5.size)
        have hT6 := hT5.below hb6'
        clear hb6'
        go_wp2_with fail
        refine (turnLeft_any w6 q1 l k v a rk rv b hT6 hf).mono ?_; rintro e w8 ⟨q8, rfl, hT8, hb8'⟩
        go_wp2_with fail
        go_ret
        exact ⟨_, _, rfl, hT8, by simp [BT.toL], hb6.trans (hb8'.mono hb6.size)⟩
    · have h3' : -1 ≤ x := by omega
      have hNN := fun w q (hq : T w q (.node l k v r)) => lean_b w q _ k v _ hq hf
      simp only [hx] at hNN
      have HNN := Lib.hid hNN
      clear hNN hx f1 f2
      go_enter Try.func109, Try.ntmps109
      go_wp2_with fail
      refine H0.out.mono ?_; rintro e w1 ⟨q1, rfl, hT1, hb1⟩
      go_wp2_with fail
      refine (HNN.out w1 q1 hT1).mono ?_; rintro e w2 ⟨rfl, hb2'⟩
      have hb2 := hb1.trans (hb2'.mono hb1.size)
      have hT2 := hT1.below hb2'
      clear hb2'
      go_wp2_with fail
      refine (HNN.out w2 q1 hT2).mono ?_; rintro e w3 ⟨rfl, hb3'⟩
      have hb3 := hb2.trans (hb3'.mono hb2.size)
      have hT3 := hT2.below hb3'
      clear hb3'
      go_wp2_with fail
      refine (HNN.out w3 q1 hT3).mono ?_; rintro e w4 ⟨rfl, hb4'⟩
      have hb4 := hb3.trans (hb4'.mono hb3.size)
      have hT4 := hT3.below hb4'
      clear hb4'
      go_wp2_with fail
      refine (HNN.out w4 q1 hT4).mono ?_; rintro e w5 ⟨rfl, hb5'⟩
      have hb5 := hb4.trans (hb5'.mono hb4.size)
      have hT5 := hT4.below hb5'
      clear hb5'
      go_wp2_with fail
      go_ret
      exact ⟨_, _, rfl, hT5, rfl, hb5⟩

end Go.Proofs.Ytmdacfgofilbdaa.TabB
