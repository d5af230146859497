/- table B: the order of keys; height, size, a node over two others. -/
import Derived.Test.YtmdacfgofilbdaaTabM
import Derived.Test.YtmdacfgofilbdaaRows
import Derived.Deep.RegionHeld3
import Derived.Deep.QuietTactic
import Derived.BigQuiet
import Derived.WalkSpells
import Derived.WalkLawsBesides
import Derived.Lib.Hide
set_option linter.unusedSimpArgs false
set_option linter.unusedVariables false
namespace Go.Proofs.Ytmdacfgofilbdaa.TabB
open Go.RowKit Go.Proofs.Ytmdacfgofilbdaa.TabL

def ltI (a b : Int) : Bool := decide (a < b)
theorem lin : Lin ltI where
  irr a := by simp [ltI]
  tr h1 h2 := by simp [ltI] at *; omega
  tot h1 h2 := by simp [ltI] at *; omega

def ek (x : Int) : Value := (.int .i64 x)
def ev (x : Int) : Value := (.int .i64 x)
abbrev Tr := BT Int Int
abbrev T (W : World) (p : Option Addr) (t : Tr) : Prop := IsT 145 ek ev W p t
abbrev TMx (W : World) (p : Nat) (xs : List (Int × Int)) : Prop := TM 28 145 ek ev W p xs

set_option maxRecDepth 100000 in
set_option maxHeartbeats 2000000 in
theorem nan_any (W : World) (a : Int) : Calls Try.prog 108 #[(.int .i64 a)] W fun e w' => e = .returned (.bool false) ∧ W = w' := by
  go_enter Try.func108, Try.ntmps108
  go_wp2_with fail
  go_ret
  exact ⟨rfl, rfl⟩
set_option maxRecDepth 100000 in
set_option maxHeartbeats 2000000 in
theorem cmp_any (W : World) (a b : Int) : Calls Try.prog 104 #[(.int .i64 a), (.int .i64 b)] W fun e w' => e = .returned (.int .i64 (cmpV ltI a b)) ∧ W = w' := by
  by_cases h1 : a < b
  · rw [show cmpV ltI a b = -1 from by unfold cmpV ltI; rw [if_pos (by simpa using h1)]]
    go_enter Try.func104, Try.ntmps104
    go_wp2_with fail
    refine (nan_any W a).mono ?_; rintro e w' ⟨rfl, rfl⟩
    go_wp2_with fail
    refine (nan_any W b).mono ?_; rintro e w' ⟨rfl, rfl⟩
    go_wp2_with fail
    go_ret
    exact ⟨rfl, rfl⟩
  · by_cases h2 : b < a
    · rw [show cmpV ltI a b = 1 from by unfold cmpV ltI; rw [if_neg (by simpa using h1), if_pos (by simpa using h2)]]
      go_enter Try.func104, Try.ntmps104
      go_wp2_with fail
      refine (nan_any W a).mono ?_; rintro e w' ⟨rfl, rfl⟩
      go_wp2_with fail
      refine (nan_any W b).mono ?_; rintro e w' ⟨rfl, rfl⟩
      go_wp2_with fail
      go_ret
      exact ⟨rfl, rfl⟩
    · rw [show cmpV ltI a b = 0 from by unfold cmpV ltI; rw [if_neg (by simpa using h1), if_neg (by simpa using h2)]]
      go_enter Try.func104, Try.ntmps104
      go_wp2_with fail
      refine (nan_any W a).mono ?_; rintro e w' ⟨rfl, rfl⟩
      go_wp2_with fail
      refine (nan_any W b).mono ?_; rintro e w' ⟨rfl, rfl⟩
      go_wp2_with fail
      go_ret
      exact ⟨rfl, rfl⟩

set_option maxRecDepth 100000 in
set_option maxHeartbeats 2000000 in
theorem height_any (W : World) (p : Option Addr) (t : Tr) (h : T W p t) : Calls Try.prog 115 #[.pointer p] W fun e w' => e = .returned (.int .i64 (t.ht : Int)) ∧ W = w' := by
  cases t with
  | leaf =>
    obtain rfl : p = none := h
    go_enter Try.func115, Try.ntmps115
    go_wp2_with fail
    go_ret
    exact ⟨rfl, rfl⟩
  | node l k v r =>
    obtain ⟨b, pl, pr, rfl, hb, _, _⟩ := h
    have c4 := hb.cell (i := 4) rfl
    clear hb
    go_enter Try.func115, Try.ntmps115
    go_wp2_with fail
    go_ret
    exact ⟨rfl, rfl⟩
set_option maxRecDepth 100000 in
set_option maxHeartbeats 2000000 in
theorem size_any (W : World) (p : Option Addr) (t : Tr) (h : T W p t) : Calls Try.prog 116 #[.pointer p] W fun e w' => e = .returned (.int .i64 (t.toL.length : Int)) ∧ W = w' := by
  cases t with
  | leaf =>
    obtain rfl : p = none := h
    go_enter Try.func116, Try.ntmps116
    go_wp2_with fail
    go_ret
    exact ⟨rfl, rfl⟩
  | node l k v r =>
    obtain ⟨b, pl, pr, rfl, hb, _, _⟩ := h
    have c5 := hb.cell (i := 5) rfl
    clear hb
    go_enter Try.func116, Try.ntmps116
    go_wp2_with fail
    go_ret
    exact ⟨rfl, rfl⟩
set_option maxRecDepth 100000 in
set_option maxHeartbeats 2000000 in
/-- by how much the left side is the higher one -/
theorem lean_any (W : World) (p : Option Addr) (l : Tr) (k : Int) (v : Int) (r : Tr) (h : T W p (.node l k v r)) (hs : l.ht ≤ 1099511627776 ∧ r.ht ≤ 1099511627776) : Calls Try.prog 112 #[.pointer p] W fun e w' => e = .returned (.int .i64 ((l.ht : Int) - (r.ht : Int))) ∧ ∃ m, w' = W.drewN m := by
  obtain ⟨b, pl, pr, rfl, hb, hl, hr⟩ := h
  have c2 := hb.cell (i := 2) rfl
  have c3 := hb.cell (i := 3) rfl
  clear hb
  obtain ⟨a, ha⟩ : ∃ a, l.ht = a := ⟨_, rfl⟩
  obtain ⟨c, hc⟩ : ∃ c, r.ht = c := ⟨_, rfl⟩
  have h1 : ∀ n, Calls Try.prog 115 #[.pointer pl] (W.drewN n) fun e w' => e = .returned (.int .i64 (l.ht : Int)) ∧ w' = W.drewN n := fun n => (height_any _ pl l (hl.drewN n)).mono fun _ _ ⟨x, y⟩ => ⟨x, y.symm⟩
  have h2 : ∀ n, Calls Try.prog 115 #[.pointer pr] (W.drewN n) fun e w' => e = .returned (.int .i64 (r.ht : Int)) ∧ w' = W.drewN n := fun n => (height_any _ pr r (hr.drewN n)).mono fun _ _ ⟨x, y⟩ => ⟨x, y.symm⟩
  rw [ha] at h1 hs ⊢
  rw [hc] at h2 hs ⊢
  have H1 := Lib.hid h1; have H2 := Lib.hid h2
  clear h1 h2 hl hr ha hc
  have a0 : (0 : Int) ≤ (a : Int) := by omega
  have a1 : (a : Int) ≤ 1099511627776 := by omega
  have b0 : (0 : Int) ≤ (c : Int) := by omega
  have b1 : (c : Int) ≤ 1099511627776 := by omega
  go_enter Try.func112, Try.ntmps112
  go_wp2_with fail
  go_quiet (first | (go_at_call 115; (with_reducible exact Calls.quiet_of_same (H1.out _))) | (go_at_call 115; exact Calls.quiet_of_same (H2.out _)))
  go_wp2_with fail
  go_ret
  exact ⟨rfl, _, rfl⟩

/-- a tree no greater than fits -/
def Fit (t : Tr) : Prop := t.toL.length ≤ 1099511627776
theorem Fit.ht {t : Tr} (h : Fit t) : t.ht ≤ 1099511627776 := Nat.le_trans t.ht_le h

set_option maxRecDepth 100000 in
set_option maxHeartbeats 2000000 in
/-- a node over two others -/
theorem join_any (W : World) (k : Int) (v : Int) (pl pr : Option Addr) (l r : Tr) (hl : T W pl l) (hr : T W pr r) (fl : Fit l) (fr : Fit r) :
    Calls Try.prog 111 #[(.int .i64 k), (.int .i64 v), .pointer pl, .pointer pr] W fun e w' => ∃ q, e = .returned (.pointer q) ∧ T w' q (.node l k v r) ∧ Below W.heap.size W w' := by
  have h1 := Lib.hid (height_any W pl l hl)
  have h2 := Lib.hid (height_any W pr r hr)
  have h3 := Lib.hid (size_any W pl l hl)
  have h4 := Lib.hid (size_any W pr r hr)
  have f1 := fl.ht
  have f2 := fr.ht
  unfold Fit at fl fr
  have a0 : (0 : Int) ≤ (l.ht : Int) := by omega
  have a1 : (l.ht : Int) ≤ 1099511627776 := by omega
  have b0 : (0 : Int) ≤ (r.ht : Int) := by omega
  have b1 : (r.ht : Int) ≤ 1099511627776 := by omega
  have c0 : (0 : Int) ≤ (l.toL.length : Int) := by omega
  have c1 : (l.toL.length : Int) ≤ 1099511627776 := by omega
  have d0 : (0 : Int) ≤ (r.toL.length : Int) := by omega
  have d1 : (r.toL.length : Int) ≤ 1099511627776 := by omega
  have HL := Lib.hid hl; have HR := Lib.hid hr
  clear hl hr fl fr f1 f2
  go_enter Try.func111, Try.ntmps111
  go_wp2_with fail
  refine h1.out.mono ?_; rintro e w' ⟨rfl, rfl⟩
  go_wp2_with fail
  refine h2.out.mono ?_; rintro e w' ⟨rfl, rfl⟩
  have hfin : ∀ m : Int, m = ((max l.ht r.ht : Nat) : Int) → ∃ q, Ending.returned (.pointer (some ⟨W.heap.size, 0, none⟩)) = Ending.returned (.pointer q) ∧ T (W.alloc (.cells #[(.int .i64 k), (.int .i64 v), .pointer pl, .pointer pr, .int .i64 (m + 1), .int .i64 ((l.toL.length : Int) + (r.toL.length : Int) + 1)] 145)) q (.node l k v r) ∧ Below W.heap.size W (W.alloc (.cells #[(.int .i64 k), (.int .i64 v), .pointer pl, .pointer pr, .int .i64 (m + 1), .int .i64 ((l.toL.length : Int) + (r.toL.length : Int) + 1)] 145)) := fun m hm => by
    have hb : Below W.heap.size W (W.alloc (.cells #[(.int .i64 k), (.int .i64 v), .pointer pl, .pointer pr, .int .i64 (m + 1), .int .i64 ((l.toL.length : Int) + (r.toL.length : Int) + 1)] 145)) := (Below.refl _ W).alloc (Nat.le_refl _) _
    refine ⟨_, rfl, ⟨_, pl, pr, rfl, ?_, HL.out.below hb, HR.out.below hb⟩, hb⟩
    have hn := Blk.new W [(.int .i64 k), (.int .i64 v), .pointer pl, .pointer pr, .int .i64 (m + 1), .int .i64 ((l.toL.length : Int) + (r.toL.length : Int) + 1)] 145
    have e1 : m + 1 = ((BT.node l k v r).ht : Int) := by rw [hm]; simp only [BT.ht]; omega
    have e2 : (l.toL.length : Int) + (r.toL.length : Int) + 1 = ((BT.node l k v r).toL.length : Int) := by simp only [BT.toL, List.length_append, List.length_cons]; omega
    rw [e1, e2] at hn
    rw [e1, e2]
    exact hn
  have HFIN := Lib.hid hfin; clear hfin
  by_cases hm : (l.ht : Int) ≤ (r.ht : Int)
  · have hq : (r.ht : Int) = ((max l.ht r.ht : Nat) : Int) := by omega
    have HQ := Lib.hid hq; clear hq
    go_wp2_with fail
    all_goals
      refine h3.out.mono ?_; rintro e w' ⟨rfl, rfl⟩
      go_wp2_with fail
      refine h4.out.mono ?_; rintro e w' ⟨rfl, rfl⟩
      go_wp2_with fail
      go_ret
      first | exact HFIN.out _ HQ.out | exact HFIN.out _ (by omega)
  · have hm2 : (r.ht : Int) < (l.ht : Int) := by omega
    have hq : (l.ht : Int) = ((max l.ht r.ht : Nat) : Int) := by omega
    have HQ := Lib.hid hq; clear hq
    go_wp2_with fail
    all_goals
      refine h3.out.mono ?_; rintro e w' ⟨rfl, rfl⟩
      go_wp2_with fail
      refine h4.out.mono ?_; rintro e w' ⟨rfl, rfl⟩
      go_wp2_with fail
      go_ret
      first | exact HFIN.out _ HQ.out | exact HFIN.out _ (by omega)

end Go.Proofs.Ytmdacfgofilbdaa.TabB
