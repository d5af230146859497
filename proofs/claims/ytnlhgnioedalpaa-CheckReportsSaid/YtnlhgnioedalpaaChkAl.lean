/- check: the document's example. -/
import Derived.Test.YtnlhgnioedalpaaChkR
import Derived.Test.YtnlhgnioedalpaaPriceClones
set_option linter.unusedSimpArgs false
set_option linter.unusedVariables false
namespace Go.Proofs.Ytnlhgnioedalpaa.Pri
open Go.RowKit Go.Proofs.YtnlhgnioedalpaaW.PrintWords Go.Proofs.Ytnlhgnioedalpaa.PPricePlays Go.Maps
attribute [local go_sem] Oper.semAt_some

/-- a row written out that reads as pairs -/
theorem pe_blk {W : World} {b c : Nat} {t : TypeId} {l : List En} (hb : Blk W b t (cellsOf cE l)) (hc : l.length ≤ c) (hl : l.length ≤ 1099511627776) : PE W (.slice (some ⟨b, 0, none⟩) l.length c) l := by
  refine ⟨some ⟨b, 0, none⟩, c, rfl, hc, (fun e => by cases e), by simp, by omega, fun hpos => ⟨_, rfl, fun j x hx => ⟨[.int .u64 x.f0, .int .i64 x.f1], rfl, k41_mk W x, fun i u hu => ?_⟩⟩⟩
  rw [List.getElem?_map] at hx
  cases hq : l[j]? with
  | none => rw [hq] at hx; simp at hx
  | some q =>
    rw [hq] at hx
    have hj : j < l.length := (List.getElem?_eq_some_iff.1 hq).1
    have hi : i < 2 := by have := (List.getElem?_eq_some_iff.1 hu).1; simpa using this
    rw [show j * k41.sz + i = j * 2 + i from rfl, addr_add, Nat.zero_add]
    refine hb.cell ?_
    rw [cellsOf_at cE_length l dE hj hi, List.getD_eq_getElem?_getD, hq]
    obtain rfl : toE q = x := by simpa using hx
    exact hu
theorem one_c (W : World) (p : Nat) (es : List En) (x y items r : Int) (h : SR W p es) (hx : U x) (hi : U items) (hr : oneN (x, y) es items = r) :
    Calls Try.prog 32 #[.agg #[.int .u64 x, .int .i64 y], .pointer (some ⟨p, 0, none⟩), .int .u64 items] W fun e w' => e = .returned (.int .i64 r) ∧ Below W.heap.size W w' := by
  have := one_any W p es x y items h hx hi
  rw [hr] at this
  exact this
theorem last_c (W : World) (p : Nat) (es : List En) (x y : Int) (r : Bool) (h : SR W p es) (hx : U x) (hr : decide (y < askL es x) = r) :
    Calls Try.prog 34 #[.agg #[.int .u64 x, .int .i64 y], .pointer (some ⟨p, 0, none⟩)] W fun e w' => e = .returned (.bool r) ∧ Below W.heap.size W w' := by
  have := last_any W p es x y h hx
  rw [hr] at this
  exact this
theorem all_c (W : World) (v : Value) (bs : List En) (hv : PE W v bs) (hU : UE bs) (p : Nat) (es : List En) (h : SR W p es) (items r : Int) (hi : U items) (hr : allN bs es items = r) :
    Calls Try.prog 35 #[v, .pointer (some ⟨p, 0, none⟩), .int .u64 items] W fun e w' => e = .returned (.int .i64 r) ∧ Below W.heap.size W w' := by
  have := all_any W v bs hv hU p es h items hi
  rw [hr] at this
  exact this
theorem kept_c (W : World) (v u : Value) (old now : List En) (hv : PE W v old) (hU : UE old) (hlo : old.length ≤ 1099511627776) (hu : PE W u now) (hl : now.length ≤ 1099511627776) (p : Nat) (es : List En) (h : SR W p es) (r : Bool) (hr : keptB old now es = r) :
    Calls Try.prog 37 #[v, u, .pointer (some ⟨p, 0, none⟩)] W fun e w' => e = .returned (.bool r) ∧ Below W.heap.size W w' := by
  have := kept_any W v u old now hv hU hlo hu hl p es h
  rw [hr] at this
  exact this
def q5 : List En := [(1, 5)]
def q4 : List En := [(1, 4)]
def qL : List (List En) := [q5, q4]
/-- the sum behind k -/
def cN : Nat → Int
  | 0 => 0
  | 1 => 0
  | _ => 60
/-- the sum's cell; all else as it was -/
def AN (w : World) (b : Nat) (z : Int) (W' : World) : Prop := Blk W' b 3 [.int .i64 z] ∧ w.grownBy W' (some b)
theorem AN.ownF (w : World) (b : Nat) (z : Int) {B : Nat} (hb : w.heap.size ≤ B) : OwnFrom B (fun (_ : Unit) W' => AN w b z W') := fun s A C row hs hg hr => by
  have k : RowOk A row := fun r e => (hr r e).2
  refine ⟨blk_row1 hs.1 hg k, ⟨hg.os.trans hs.2.os, hg.tape.trans hs.2.tape, hg.output.trans hs.2.output, Nat.le_trans hs.2.size hg.size, fun i hi hne => ?_⟩⟩
  rw [hg.block i (Nat.lt_of_lt_of_le hi hs.2.size) (fun e => by have := (hr i e.symm).1; omega), hs.2.block i hi hne]
theorem AN.below {w : World} {b : Nat} {z : Int} {A C : World} (h : AN w b z A) (hb : Below A.heap.size A C) : AN w b z C := ⟨h.1.belowS hb, gb_trans h.2 (below_gb hb)⟩
/-- what is there while the example goes on -/
structure AL (W : World) (p b2 b3 b4 : Nat) (W' : World) : Prop where
  s : SR W' p q5
  f : Blk W' b2 tB [.int .u64 1, .int .i64 5]
  g : Blk W' b3 tB [.int .u64 1, .int .i64 4]
  h : Blk W' b4 tB [.int .u64 1, .int .i64 6]
  bel : Below W.heap.size W W'
theorem AL.below {W : World} {p b2 b3 b4 : Nat} {A B : World} (h : AL W p b2 b3 b4 A) (hb : Below A.heap.size A B) : AL W p b2 b3 b4 B := ⟨h.s.below hb, h.f.belowS hb, h.g.belowS hb, h.h.belowS hb, h.bel.trans (hb.mono h.bel.size)⟩
theorem AL.alloc {W : World} {p b2 b3 b4 : Nat} {A : World} (h : AL W p b2 b3 b4 A) (o : Obj) : AL W p b2 b3 b4 (A.alloc o) := h.below ((Below.refl _ A).alloc (Nat.le_refl _) o)
/-- what the example makes -/
structure R9 (p z : Nat) (W' : World) : Prop where
  s : SR W' p q5
  f : Blk W' (z) tB [.int .u64 1, .int .i64 5]
  g : Blk W' (z + 1) tB [.int .u64 1, .int .i64 4]
  h : Blk W' (z + 1 + 1) tB [.int .u64 1, .int .i64 6]
  ra : Blk W' (z + 1 + 1 + 1 + 1) tB [.int .u64 1, .int .i64 5]
  rb : Blk W' (z + 1 + 1 + 1 + 1 + 1) tB [.int .u64 1, .int .i64 4]
  rL : Blk W' (z + 1 + 1 + 1 + 1 + 1 + 1) 55 [.slice (some ⟨z + 1 + 1 + 1 + 1, 0, none⟩) 1 1, .slice (some ⟨z + 1 + 1 + 1 + 1 + 1, 0, none⟩) 1 1]
  rS : Blk W' (z + 1 + 1 + 1 + 1 + 1 + 1 + 1) 25 [.pointer (some ⟨p, 0, none⟩)]
theorem R9.kept {p z : Nat} {A B : World} {x : Value} (h : R9 p z A) (hb : Blk A (z + 1 + 1 + 1) 3 [x]) (hx : ∀ y, x ≠ .int .u64 y) (hg : A.grownBy B (some (z + 1 + 1 + 1))) : R9 p z B :=
  ⟨h.s.one hb (by decide) hx hg, h.f.kept hg (by simp <;> omega), h.g.kept hg (by simp <;> omega), h.h.kept hg (by simp <;> omega), h.ra.kept hg (by simp <;> omega), h.rb.kept hg (by simp <;> omega), h.rL.kept hg (by simp <;> omega), h.rS.kept hg (by simp <;> omega)⟩
theorem R9.below {p z : Nat} {A B : World} (h : R9 p z A) (hb : Below A.heap.size A B) : R9 p z B := ⟨h.s.below hb, h.f.belowS hb, h.g.belowS hb, h.h.belowS hb, h.ra.belowS hb, h.rb.belowS hb, h.rL.belowS hb, h.rS.belowS hb⟩
theorem r9_made {w1 : World} {p z : Nat} (hz : w1.heap.size = z) (hs : SR w1 p q5) : R9 p z ((((((((w1.alloc (.cells #[.int .u64 1, .int .i64 5] tB)).alloc (.cells #[.int .u64 1, .int .i64 4] tB)).alloc (.cells #[.int .u64 1, .int .i64 6] tB)).alloc (.cells #[.int .i64 0] 3)).alloc (.cells #[.int .u64 1, .int .i64 5] tB)).alloc (.cells #[.int .u64 1, .int .i64 4] tB)).alloc (.cells #[.slice (some ⟨z + 1 + 1 + 1 + 1, 0, none⟩) 1 1, .slice (some ⟨z + 1 + 1 + 1 + 1 + 1, 0, none⟩) 1 1] 55)).alloc (.cells #[.pointer (some ⟨p, 0, none⟩)] 25)) ∧ Blk ((((((((w1.alloc (.cells #[.int .u64 1, .int .i64 5] tB)).alloc (.cells #[.int .u64 1, .int .i64 4] tB)).alloc (.cells #[.int .u64 1, .int .i64 6] tB)).alloc (.cells #[.int .i64 0] 3)).alloc (.cells #[.int .u64 1, .int .i64 5] tB)).alloc (.cells #[.int .u64 1, .int .i64 4] tB)).alloc (.cells #[.slice (some ⟨z + 1 + 1 + 1 + 1, 0, none⟩) 1 1, .slice (some ⟨z + 1 + 1 + 1 + 1 + 1, 0, none⟩) 1 1] 55)).alloc (.cells #[.pointer (some ⟨p, 0, none⟩)] 25)) (z + 1 + 1 + 1) 3 [.int .i64 0] ∧ Below w1.heap.size w1 ((((((((w1.alloc (.cells #[.int .u64 1, .int .i64 5] tB)).alloc (.cells #[.int .u64 1, .int .i64 4] tB)).alloc (.cells #[.int .u64 1, .int .i64 6] tB)).alloc (.cells #[.int .i64 0] 3)).alloc (.cells #[.int .u64 1, .int .i64 5] tB)).alloc (.cells #[.int .u64 1, .int .i64 4] tB)).alloc (.cells #[.slice (some ⟨z + 1 + 1 + 1 + 1, 0, none⟩) 1 1, .slice (some ⟨z + 1 + 1 + 1 + 1 + 1, 0, none⟩) 1 1] 55)).alloc (.cells #[.pointer (some ⟨p, 0, none⟩)] 25)) ∧ ((((((((w1.alloc (.cells #[.int .u64 1, .int .i64 5] tB)).alloc (.cells #[.int .u64 1, .int .i64 4] tB)).alloc (.cells #[.int .u64 1, .int .i64 6] tB)).alloc (.cells #[.int .i64 0] 3)).alloc (.cells #[.int .u64 1, .int .i64 5] tB)).alloc (.cells #[.int .u64 1, .int .i64 4] tB)).alloc (.cells #[.slice (some ⟨z + 1 + 1 + 1 + 1, 0, none⟩) 1 1, .slice (some ⟨z + 1 + 1 + 1 + 1 + 1, 0, none⟩) 1 1] 55)).alloc (.cells #[.pointer (some ⟨p, 0, none⟩)] 25)).heap.size = z + 1 + 1 + 1 + 1 + 1 + 1 + 1 + 1 := by
  obtain ⟨w2, e0⟩ : ∃ w2, w1.alloc (.cells #[.int .u64 1, .int .i64 5] tB) = w2 := ⟨_, rfl⟩
  have z1 : w2.heap.size = z + 1 := by rw [← e0]; simp [hz]
  have b0 : Blk w2 (z) tB [.int .u64 1, .int .i64 5] := by rw [← e0, ← hz]; exact Blk.new w1 _ _
  have l0 : Below w1.heap.size w1 w2 := by rw [← e0]; exact (Below.refl _ _).alloc (Nat.le_refl _) _
  obtain ⟨w3, e1⟩ : ∃ w3, w2.alloc (.cells #[.int .u64 1, .int .i64 4] tB) = w3 := ⟨_, rfl⟩
  have z2 : w3.heap.size = z + 1 + 1 := by rw [← e1]; simp [z1]
  have b1 : Blk w3 (z + 1) tB [.int .u64 1, .int .i64 4] := by rw [← e1, ← z1]; exact Blk.new w2 _ _
  have l1 : Below w2.heap.size w2 w3 := by rw [← e1]; exact (Below.refl _ _).alloc (Nat.le_refl _) _
  obtain ⟨w4, e2⟩ : ∃ w4, w3.alloc (.cells #[.int .u64 1, .int .i64 6] tB) = w4 := ⟨_, rfl⟩
  have z3 : w4.heap.size = z + 1 + 1 + 1 := by rw [← e2]; simp [z2]
  have b2 : Blk w4 (z + 1 + 1) tB [.int .u64 1, .int .i64 6] := by rw [← e2, ← z2]; exact Blk.new w3 _ _
  have l2 : Below w3.heap.size w3 w4 := by rw [← e2]; exact (Below.refl _ _).alloc (Nat.le_refl _) _
  obtain ⟨w5, e3⟩ : ∃ w5, w4.alloc (.cells #[.int .i64 0] 3) = w5 := ⟨_, rfl⟩
  have z4 : w5.heap.size = z + 1 + 1 + 1 + 1 := by rw [← e3]; simp [z3]
  have b3 : Blk w5 (z + 1 + 1 + 1) 3 [.int .i64 0] := by rw [← e3, ← z3]; exact Blk.new w4 _ _
  have l3 : Below w4.heap.size w4 w5 := by rw [← e3]; exact (Below.refl _ _).alloc (Nat.le_refl _) _
  obtain ⟨w6, e4⟩ : ∃ w6, w5.alloc (.cells #[.int .u64 1, .int .i64 5] tB) = w6 := ⟨_, rfl⟩
  have z5 : w6.heap.size = z + 1 + 1 + 1 + 1 + 1 := by rw [← e4]; simp [z4]
  have b4 : Blk w6 (z + 1 + 1 + 1 + 1) tB [.int .u64 1, .int .i64 5] := by rw [← e4, ← z4]; exact Blk.new w5 _ _
  have l4 : Below w5.heap.size w5 w6 := by rw [← e4]; exact (Below.refl _ _).alloc (Nat.le_refl _) _
  obtain ⟨w7, e5⟩ : ∃ w7, w6.alloc (.cells #[.int .u64 1, .int .i64 4] tB) = w7 := ⟨_, rfl⟩
  have z6 : w7.heap.size = z + 1 + 1 + 1 + 1 + 1 + 1 := by rw [← e5]; simp [z5]
  have b5 : Blk w7 (z + 1 + 1 + 1 + 1 + 1) tB [.int .u64 1, .int .i64 4] := by rw [← e5, ← z5]; exact Blk.new w6 _ _
  have l5 : Below w6.heap.size w6 w7 := by rw [← e5]; exact (Below.refl _ _).alloc (Nat.le_refl _) _
  obtain ⟨w8, e6⟩ : ∃ w8, w7.alloc (.cells #[.slice (some ⟨z + 1 + 1 + 1 + 1, 0, none⟩) 1 1, .slice (some ⟨z + 1 + 1 + 1 + 1 + 1, 0, none⟩) 1 1] 55) = w8 := ⟨_, rfl⟩
  have z7 : w8.heap.size = z + 1 + 1 + 1 + 1 + 1 + 1 + 1 := by rw [← e6]; simp [z6]
  have b6 : Blk w8 (z + 1 + 1 + 1 + 1 + 1 + 1) 55 [.slice (some ⟨z + 1 + 1 + 1 + 1, 0, none⟩) 1 1, .slice (some ⟨z + 1 + 1 + 1 + 1 + 1, 0, none⟩) 1 1] := by rw [← e6, ← z6]; exact Blk.new w7 _ _
  have l6 : Below w7.heap.size w7 w8 := by rw [← e6]; exact (Below.refl _ _).alloc (Nat.le_refl _) _
  obtain ⟨w9, e7⟩ : ∃ w9, w8.alloc (.cells #[.pointer (some ⟨p, 0, none⟩)] 25) = w9 := ⟨_, rfl⟩
  have z8 : w9.heap.size = z + 1 + 1 + 1 + 1 + 1 + 1 + 1 + 1 := by rw [← e7]; simp [z7]
  have b7 : Blk w9 (z + 1 + 1 + 1 + 1 + 1 + 1 + 1) 25 [.pointer (some ⟨p, 0, none⟩)] := by rw [← e7, ← z7]; exact Blk.new w8 _ _
  have l7 : Below w8.heap.size w8 w9 := by rw [← e7]; exact (Below.refl _ _).alloc (Nat.le_refl _) _
  rw [e0, e1, e2, e3, e4, e5, e6, e7]
  have c0 := (((((((b0.belowS l1).belowS l2).belowS l3).belowS l4).belowS l5).belowS l6).belowS l7)
  have c1 := ((((((b1.belowS l2).belowS l3).belowS l4).belowS l5).belowS l6).belowS l7)
  have c2 := (((((b2.belowS l3).belowS l4).belowS l5).belowS l6).belowS l7)
  have c3 := ((((b3.belowS l4).belowS l5).belowS l6).belowS l7)
  have c4 := (((b4.belowS l5).belowS l6).belowS l7)
  have c5 := ((b5.belowS l6).belowS l7)
  have c6 := (b6.belowS l7)
  have c7 := b7
  have k1 : Below w1.heap.size w1 w3 := l0.trans (l1.mono l0.size)
  have k2 : Below w1.heap.size w1 w4 := k1.trans (l2.mono k1.size)
  have k3 : Below w1.heap.size w1 w5 := k2.trans (l3.mono k2.size)
  have k4 : Below w1.heap.size w1 w6 := k3.trans (l4.mono k3.size)
  have k5 : Below w1.heap.size w1 w7 := k4.trans (l5.mono k4.size)
  have k6 : Below w1.heap.size w1 w8 := k5.trans (l6.mono k5.size)
  have k7 : Below w1.heap.size w1 w9 := k6.trans (l7.mono k6.size)
  exact ⟨⟨hs.below k7, c0, c1, c2, c4, c5, c6, c7⟩, c3, k7, z8⟩
set_option maxHeartbeats 8000000 in
set_option maxRecDepth 100000 in
theorem aliveC_any (W : World) : Calls Try.prog 31 #[] W fun e w' => e = .returned (.bool true) ∧ Below W.heap.size W w' := by
  refine (callsIn_wide (n := 4)).1 ?_
  refine callsIn_of_wp_marks Try.func31 rfl trivial ?_ rfl
  refine wpIn_wide.2 ?_
  simp only [Try.ntmps31, List.size_toArray, List.length_cons, List.length_nil, Nat.reduceAdd, Nat.reduceSub, Array.replicate_succ, Array.replicate_zero, List.push_toArray, List.append_toArray, List.nil_append, List.cons_append]
  have hal : Below W.heap.size W (W.alloc (.cells #[.int .u64 1, .int .i64 5] tE)) := (Below.refl _ W).alloc (Nat.le_refl _) _
  have hpe : PE (W.alloc (.cells #[.int .u64 1, .int .i64 5] tE)) (.slice (some ⟨W.heap.size, 0, none⟩) 1 1) q5 := pe_blk (l := q5) (Blk.new W _ _) (by decide) (by decide)
  have HP := Lib.hid hpe; have HB := Lib.hid hal
  clear hpe hal
  go_wp2_with fail
  refine (of_any _ _ q5 HP.out (by intro e he; simp [q5] at he; subst he; exact ⟨by decide, by decide⟩) (by decide)).mono ?_; rintro e w1 ⟨rfl, hS1, hl1, hb1⟩
  rw [show ofL q5 = q5 from by decide +kernel] at hS1
  obtain ⟨p, hp⟩ : ∃ p, (W.alloc (.cells #[.int .u64 1, .int .i64 5] tE)).heap.size = p := ⟨_, rfl⟩
  rw [hp] at hS1 ⊢
  have HS1 := Lib.hid hS1; have HB1 := Lib.hid (HB.out.trans (hb1.mono HB.out.size))
  have hpp : W.heap.size < p := by rw [← hp]; simp
  clear hS1 hb1 hp hl1
  obtain ⟨z, hz⟩ : ∃ z, w1.heap.size = z := ⟨_, rfl⟩
  have hzW : W.heap.size < z := by have := HS1.out.pr.lt; omega
  have H9 := Lib.hid (r9_made hz HS1.out); have HZ := Lib.hid hz
  clear hz
  go_wp2_with fail
  rw [HZ.out]
  obtain ⟨W9, hW9⟩ : ∃ W9, ((((((((w1.alloc (.cells #[.int .u64 1, .int .i64 5] tB)).alloc (.cells #[.int .u64 1, .int .i64 4] tB)).alloc (.cells #[.int .u64 1, .int .i64 6] tB)).alloc (.cells #[.int .i64 0] 3)).alloc (.cells #[.int .u64 1, .int .i64 5] tB)).alloc (.cells #[.int .u64 1, .int .i64 4] tB)).alloc (.cells #[.slice (some ⟨z + 1 + 1 + 1 + 1, 0, none⟩) 1 1, .slice (some ⟨z + 1 + 1 + 1 + 1 + 1, 0, none⟩) 1 1] 55)).alloc (.cells #[.pointer (some ⟨p, 0, none⟩)] 25)) = W9 := ⟨_, rfl⟩
  rw [hW9] at H9 ⊢
  clear hW9
  refine (report_any W9 _ _ _ _ _ _ _).mono ?_; rintro e w10 ⟨rfl, hw10⟩
  obtain ⟨B, hBz⟩ : ∃ B, W9.heap.size = B := ⟨_, rfl⟩
  have hB8 : B = z + 1 + 1 + 1 + 1 + 1 + 1 + 1 + 1 := hBz ▸ H9.out.2.2.2
  have f10 : R9 p z w10 ∧ Blk w10 (z + 1 + 1 + 1) 3 [.int .i64 0] ∧ Below W9.heap.size W9 w10 ∧ Blk w10 B 67 [.slice (some ⟨z + 1 + 1 + 1 + 1 + 1 + 1, 0, none⟩) 2 2] ∧ Blk w10 (B + 1) 70 [.slice (some ⟨z + 1 + 1 + 1 + 1 + 1 + 1 + 1, 0, none⟩) 1 1] ∧ Blk w10 (B + 2) 32 [.int .u64 1] ∧ w10.heap.size = B + 3 := by
    rw [hw10]
    obtain ⟨h1, h2, h3, h4⟩ := H9.out
    have hb : Below W9.heap.size W9 (((W9.alloc (.cells #[.slice (some ⟨z + 1 + 1 + 1 + 1 + 1 + 1, 0, none⟩) 2 2] 67)).alloc (.cells #[.slice (some ⟨z + 1 + 1 + 1 + 1 + 1 + 1 + 1, 0, none⟩) 1 1] 70)).alloc (.cells #[.int .u64 1] 32)) := (((Below.refl _ W9).alloc (Nat.le_refl _) _).alloc (by simp) _).alloc (by simp; omega) _
    refine ⟨h1.below hb, h2.belowS hb, hb, ?_, ?_, ?_, by simp; omega⟩
    · rw [← hBz]; exact ((Blk.new W9 _ _).alloc _).alloc _
    · rw [← hBz]; exact (Blk.new2 W9 _ _ _).alloc _
    · have := Blk.new2 (W9.alloc (.cells #[.slice (some ⟨z + 1 + 1 + 1 + 1 + 1 + 1, 0, none⟩) 2 2] 67)) (.cells #[.slice (some ⟨z + 1 + 1 + 1 + 1 + 1 + 1 + 1, 0, none⟩) 1 1] 70) [.int .u64 1] 32
      rw [World.size_alloc, hBz] at this
      exact this
  rw [hBz]
  have HF := Lib.hid f10; have HB8 := Lib.hid hB8
  have HB10 := Lib.hid (show Below W.heap.size W w10 from HB1.out.trans ((H9.out.2.2.1.trans (f10.2.2.1.mono H9.out.2.2.1.size)).mono HB1.out.size))
  clear hw10 f10 hBz hB8 H9
  have hAN : ∀ x W', AN w10 (z + 1 + 1 + 1) x W' → R9 p z W' ∧ W'.cell? ⟨B, 0, none⟩ = some (.slice (some ⟨z + 1 + 1 + 1 + 1 + 1 + 1, 0, none⟩) 2 2) ∧ W'.cell? ⟨B + 1, 0, none⟩ = some (.slice (some ⟨z + 1 + 1 + 1 + 1 + 1 + 1 + 1, 0, none⟩) 1 1) ∧ W'.cell? ⟨B + 2, 0, none⟩ = some (.int .u64 1) := fun x W' h => by
    obtain ⟨h1, h2, h3, h4, h5, h6, h7⟩ := HF.out
    have hB8 := HB8.out
    exact ⟨h1.kept h2 (by simp) h.2, (h4.kept h.2 (by simp; omega)).cell rfl, (h5.kept h.2 (by simp; omega)).cell rfl, (h6.kept h.2 (by simp; omega)).cell rfl⟩
  have hPEE : ∀ W', R9 p z W' → PEE W' (.slice (some ⟨z + 1 + 1 + 1 + 1 + 1 + 1, 0, none⟩) 2 2) qL := fun W' h => by
    refine ⟨_, _, rfl, fun i l hl => ?_⟩
    rcases (show i = 0 ∨ i = 1 by have := (List.getElem?_eq_some_iff.1 hl).1; simp [qL] at this; omega) with rfl | rfl
    · obtain rfl : q5 = l := by simpa [qL] using hl
      exact ⟨_, _, _, 1, rfl, h.rL.lt, h.rL.cell (i := 0) rfl, pe_blk (l := q5) h.ra (by decide) (by decide)⟩
    · obtain rfl : q4 = l := by simpa [qL] using hl
      exact ⟨_, _, _, 1, rfl, h.rL.lt, h.rL.cell (i := 1) rfl, pe_blk (l := q4) h.rb (by decide) (by decide)⟩
  have hPS : ∀ W', R9 p z W' → PS W' (.slice (some ⟨z + 1 + 1 + 1 + 1 + 1 + 1 + 1, 0, none⟩) 1 1) [some (p, q5)] := fun W' h => by
    refine ⟨_, _, rfl, fun i o ho => ?_⟩
    obtain rfl : i = 0 := by have := (List.getElem?_eq_some_iff.1 ho).1; simp at this; omega
    obtain rfl : some (p, q5) = o := by simpa using ho
    exact ⟨_, _, rfl, h.rS.lt, h.rS.cell (i := 0) rfl, fun q hq => by cases hq; exact h.s⟩
  have he0 : errAt qL [some (p, q5)] 1 0 = 0 := by
    show allN q5 q5 1 = 0
    decide +kernel
  have he1 : errAt qL [some (p, q5)] 1 1 = 50 := by
    show allN q4 [] 1 = 50
    decide +kernel
  have IT := report_iter 3 B (B + 1) (B + 2) (.slice (some ⟨z + 1 + 1 + 1 + 1 + 1 + 1, 0, none⟩) 2 2) (.slice (some ⟨z + 1 + 1 + 1 + 1 + 1 + 1 + 1, 0, none⟩) 1 1) qL [some (p, q5)] 1 ⟨by decide, by decide⟩
    (fun l hl e he => by simp [qL] at hl; rcases hl with rfl | rfl <;> (simp [q5, q4] at he; subst he; exact ⟨by decide, by decide⟩)) (by decide) (by simp) (fun k W' => AN w10 (z + 1 + 1 + 1) (cN k) W')
    (fun k W' h => ⟨(hAN _ _ h).2.1, (hAN _ _ h).2.2.1, (hAN _ _ h).2.2.2, hPEE _ (hAN _ _ h).1, hPS _ (hAN _ _ h).1⟩) (fun k A C h hb => h.below hb)
    (fun k W' hk h0 h => by
      rcases (show k = 0 ∨ k = 1 by simp [qL] at hk; omega) with rfl | rfl
      · exact h
      · rw [he1] at h0; cases h0)
  have HAN := Lib.hid hAN; have HE0 := Lib.hid he0; have HE1 := Lib.hid he1
  have hs10 : AN w10 (z + 1 + 1 + 1) 0 w10 := ⟨HF.out.2.1, ⟨rfl, rfl, rfl, Nat.le_refl _, fun _ _ _ => rfl⟩⟩
  have HS10 := Lib.hid hs10
  have HZ10 := Lib.hid HF.out.2.2.2.2.2.2
  clear hAN hPEE hPS he0 he1 hs10
  go_wp2_with fail
  have hsO : ∀ x, OwnFrom w10.heap.size (fun (_ : Unit) W' => AN w10 (z + 1 + 1 + 1) x W') := fun x => AN.ownF w10 _ x (Nat.le_refl _)
  refine wpIn_wide.1 (range_gen (F := Fence.wide) (n := 4) rfl (by omega) (gf := 76) (lb := #[.pointer (some ⟨B, 0, none⟩), .pointer (some ⟨B + 1, 0, none⟩), .pointer (some ⟨B + 2, 0, none⟩)]) rfl trivial (enters_of Try.func76 (by kernel_rfl) rfl) (encs := fun k : Nat => #[.int .i64 (k : Int), .int .i64 (errAt qL [some (p, q5)] 1 k)]) (fun _ => rfl)
    (fun W' => AN w10 (z + 1 + 1 + 1) (cN 0) W')
    (fun k W' => k < qL.length ∧ errAt qL [some (p, q5)] 1 k ≠ 0 ∧ AN w10 (z + 1 + 1 + 1) (cN k) W')
    (fun k W' => AN w10 (z + 1 + 1 + 1) (cN (k + 1)) W')
    (fun c W' => False)
    (fun W' => AN w10 (z + 1 + 1 + 1) (cN qL.length) W')
    (fun k a' W' => a' = { tmps := #[.bool false, .pointer (some ⟨p, 0, none⟩), .pointer (some ⟨z, 0, none⟩), .pointer (some ⟨z + 1, 0, none⟩), .pointer (some ⟨z + 1 + 1, 0, none⟩), .pointer (some ⟨z + 1 + 1 + 1, 0, none⟩), .int .i64 (k : Int), .int .i64 (errAt qL [some (p, q5)] 1 k), .agg #[.int .u64 1, .int .i64 5], .slice (some ⟨W.heap.size, 0, none⟩) 1 1, .pointer (some ⟨p, 0, none⟩), .pointer (some ⟨p, 0, none⟩), .bool false, .agg #[.int .u64 1, .int .i64 5], .agg #[.int .u64 1, .int .i64 4], .agg #[.int .u64 1, .int .i64 6], .agg #[.int .u64 1, .int .i64 5], .slice (some ⟨z + 1 + 1 + 1 + 1, 0, none⟩) 1 1, .agg #[.int .u64 1, .int .i64 4], .slice (some ⟨z + 1 + 1 + 1 + 1 + 1, 0, none⟩) 1 1, .slice (some ⟨z + 1 + 1 + 1 + 1 + 1 + 1, 0, none⟩) 2 2, .pointer (some ⟨p, 0, none⟩), .slice (some ⟨z + 1 + 1 + 1 + 1 + 1 + 1 + 1, 0, none⟩) 1 1, .func (.func 76) #[] #[.pointer (some ⟨B, 0, none⟩), .pointer (some ⟨B + 1, 0, none⟩), .pointer (some ⟨B + 2, 0, none⟩)], .int .i64 (k : Int), .int .i64 (errAt qL [some (p, q5)] 1 k), undef, undef, undef, undef, undef, undef, undef, undef, undef, undef, undef, undef, undef, undef, undef, undef, undef, undef, undef, undef, undef, undef, undef, undef, undef, undef, undef, undef, undef, undef, undef, undef, undef, undef, undef, undef, undef, undef, undef, undef, undef, undef, undef, undef, undef, undef, undef, undef, undef, undef, undef, undef, undef, undef, undef, undef, undef, undef, undef, undef, undef, undef, undef, undef, undef, undef], defers := [] } ∧ k < qL.length ∧ errAt qL [some (p, q5)] 1 k ≠ 0 ∧ AN w10 (z + 1 + 1 + 1) (cN k) W')
    (hsO _)
    (fun k => hsO _)
    (fun c _ _ _ _ hs _ _ => hs)
    (hsO _)
    (fun k a' => OwnFrom.and (fun _ _ _ _ hs _ _ => hs) (OwnFrom.and (fun _ _ _ _ hs _ _ => hs) (OwnFrom.and (fun _ _ _ _ hs _ _ => hs) (hsO _))))
    HS10.out IT ?assign ?body ?done ?stop)
  case assign =>
    clear IT hsO
    rintro l2 k W' K ⟨hk, hne, hP⟩ hK
    obtain ⟨e, he⟩ : ∃ e, errAt qL [some (p, q5)] 1 k = e := ⟨_, rfl⟩
    have HPR := Lib.hid hP
    have HK := Lib.hid (fun a' h => hK a' W' (KeepsFrom.refl _ _) ⟨h, hk, hne, HPR.out⟩)
    rw [he] at HK ⊢
    clear hP hK hne he
    gi_wp2
    exact HK.out _ rfl
  case body =>
    clear IT hsO
    rintro l2 k a' W' hl' hr ⟨rfl, hk, hne, hP⟩
    obtain rfl : k = 1 := by
      rcases (show k = 0 ∨ k = 1 by simp [qL] at hk; omega) with rfl | rfl
      · exact absurd HE0.out hne
      · rfl
    rw [HE1.out]
    have ci := hP.1.cell (i := 0) rfl
    have fi := hP.1.frozen 0
    have HPS := Lib.hid (show AN w10 (z + 1 + 1 + 1) 60 (W'.setCell ⟨z + 1 + 1 + 1, 0, none⟩ (.int .i64 60)) from ⟨hP.1.set 0 _, gb_trans hP.2 (grownBy_setAt W' _ 0 _)⟩)
    have HKS := Lib.hid (show KeepsFrom w10.heap.size W' (W'.setCell ⟨z + 1 + 1 + 1, 0, none⟩ (.int .i64 60)) from KeepsFrom.of_grownBy (grownBy_setAt W' _ 0 _) (fun j e => by have := HF.out.2.1.lt; cases e; omega))
    clear hP hne
    gi_wp2_with fail
    rw [show wrap64 (cN 1 + 60) = 60 from by decide +kernel]
    exact ⟨HKS.out, HPS.out⟩
  case done =>
    clear IT hsO
    rintro D W' hD hP hK
    obtain ⟨hr, -, -, -⟩ := HAN.out _ _ hP
    have hbb : Below W.heap.size W W' := HB10.out.grown hP.2 HB10.out.size (fun r e => by cases e; omega)
    have HL := Lib.hid (show AL W p z (z + 1) (z + 1 + 1) W' from ⟨hr.s, hr.f, hr.g, hr.h, hbb⟩)
    have HN := Lib.hid (show Blk W' (z + 1 + 1 + 1) 3 [.int .i64 60] from hP.1)
    have hDl : D < W'.heap.size := (Array.getElem?_eq_some_iff.1 hK).1
    have HKD := Lib.hid hK
    have hWD : W.heap.size ≤ D := by have := HB10.out.size; omega
    clear hr hbb hP hK
    have a0 := HL.out.f.cell (i := 0) rfl
    have a1 := HL.out.f.cell (i := 1) rfl
    have d0 := HL.out.g.cell (i := 0) rfl
    have d1 := HL.out.g.cell (i := 1) rfl
    have g0 := HL.out.h.cell (i := 0) rfl
    have g1 := HL.out.h.cell (i := 1) rfl
    go_wp2_with fail
    refine (one_c _ p q5 1 5 1 0 HL.out.s ⟨by decide, by decide⟩ ⟨by decide, by decide⟩ (by decide +kernel)).mono ?_; rintro e x1 ⟨rfl, hb1⟩
    have HL := Lib.hid (HL.out.below hb1); have HN := Lib.hid (HN.out.belowS hb1); have HKD := Lib.hid ((hb1.block D (by have := (Array.getElem?_eq_some_iff.1 HKD.out).1; omega)).trans HKD.out)
    clear hb1 a0 a1 d0 d1 g0 g1
    have a0 := HL.out.f.cell (i := 0) rfl
    have a1 := HL.out.f.cell (i := 1) rfl
    have d0 := HL.out.g.cell (i := 0) rfl
    have d1 := HL.out.g.cell (i := 1) rfl
    have g0 := HL.out.h.cell (i := 0) rfl
    have g1 := HL.out.h.cell (i := 1) rfl
    go_wp2_with fail
    refine (one_c _ p q5 1 4 1 0 HL.out.s ⟨by decide, by decide⟩ ⟨by decide, by decide⟩ (by decide +kernel)).mono ?_; rintro e x2 ⟨rfl, hb2⟩
    have HL := Lib.hid (HL.out.below hb2); have HN := Lib.hid (HN.out.belowS hb2); have HKD := Lib.hid ((hb2.block D (by have := (Array.getElem?_eq_some_iff.1 HKD.out).1; omega)).trans HKD.out)
    clear hb2 a0 a1 d0 d1 g0 g1
    have a0 := HL.out.f.cell (i := 0) rfl
    have a1 := HL.out.f.cell (i := 1) rfl
    have d0 := HL.out.g.cell (i := 0) rfl
    have d1 := HL.out.g.cell (i := 1) rfl
    have g0 := HL.out.h.cell (i := 0) rfl
    have g1 := HL.out.h.cell (i := 1) rfl
    go_wp2_with fail
    refine (one_c _ p q5 1 6 1 50 HL.out.s ⟨by decide, by decide⟩ ⟨by decide, by decide⟩ (by decide +kernel)).mono ?_; rintro e x3 ⟨rfl, hb3⟩
    have HL := Lib.hid (HL.out.below hb3); have HN := Lib.hid (HN.out.belowS hb3); have HKD := Lib.hid ((hb3.block D (by have := (Array.getElem?_eq_some_iff.1 HKD.out).1; omega)).trans HKD.out)
    clear hb3 a0 a1 d0 d1 g0 g1
    have a0 := HL.out.f.cell (i := 0) rfl
    have a1 := HL.out.f.cell (i := 1) rfl
    have d0 := HL.out.g.cell (i := 0) rfl
    have d1 := HL.out.g.cell (i := 1) rfl
    have g0 := HL.out.h.cell (i := 0) rfl
    have g1 := HL.out.h.cell (i := 1) rfl
    go_wp2_with fail
    refine (one_c _ p q5 1 5 2 1 HL.out.s ⟨by decide, by decide⟩ ⟨by decide, by decide⟩ (by decide +kernel)).mono ?_; rintro e x4 ⟨rfl, hb4⟩
    have HL := Lib.hid (HL.out.below hb4); have HN := Lib.hid (HN.out.belowS hb4); have HKD := Lib.hid ((hb4.block D (by have := (Array.getElem?_eq_some_iff.1 HKD.out).1; omega)).trans HKD.out)
    clear hb4 a0 a1 d0 d1 g0 g1
    have a0 := HL.out.f.cell (i := 0) rfl
    have a1 := HL.out.f.cell (i := 1) rfl
    have d0 := HL.out.g.cell (i := 0) rfl
    have d1 := HL.out.g.cell (i := 1) rfl
    have g0 := HL.out.h.cell (i := 0) rfl
    have g1 := HL.out.h.cell (i := 1) rfl
    go_wp2_with fail
    refine (last_c _ p q5 1 4 true HL.out.s ⟨by decide, by decide⟩ (by decide +kernel)).mono ?_; rintro e x5 ⟨rfl, hb5⟩
    have HL := Lib.hid (HL.out.below hb5); have HN := Lib.hid (HN.out.belowS hb5); have HKD := Lib.hid ((hb5.block D (by have := (Array.getElem?_eq_some_iff.1 HKD.out).1; omega)).trans HKD.out)
    clear hb5 a0 a1 d0 d1 g0 g1
    have a0 := HL.out.f.cell (i := 0) rfl
    have a1 := HL.out.f.cell (i := 1) rfl
    have d0 := HL.out.g.cell (i := 0) rfl
    have d1 := HL.out.g.cell (i := 1) rfl
    have g0 := HL.out.h.cell (i := 0) rfl
    have g1 := HL.out.h.cell (i := 1) rfl
    go_wp2_with fail
    refine (last_c _ p q5 1 5 false HL.out.s ⟨by decide, by decide⟩ (by decide +kernel)).mono ?_; rintro e x6 ⟨rfl, hb6⟩
    have HL := Lib.hid (HL.out.below hb6); have HN := Lib.hid (HN.out.belowS hb6); have HKD := Lib.hid ((hb6.block D (by have := (Array.getElem?_eq_some_iff.1 HKD.out).1; omega)).trans HKD.out)
    clear hb6 a0 a1 d0 d1 g0 g1
    have a0 := HL.out.f.cell (i := 0) rfl
    have a1 := HL.out.f.cell (i := 1) rfl
    have d0 := HL.out.g.cell (i := 0) rfl
    have d1 := HL.out.g.cell (i := 1) rfl
    have g0 := HL.out.h.cell (i := 0) rfl
    have g1 := HL.out.h.cell (i := 1) rfl
    go_wp2_with fail
    have hal6 : ∀ o, Below x6.heap.size x6 (x6.alloc o) := fun o => (Below.refl _ x6).alloc (Nat.le_refl _) o
    refine (all_c _ _ [(1, 5), (1, 4)] (pe_blk (l := [(1, 5), (1, 4)]) (Blk.new x6 _ _) (by decide) (by decide)) (by intro e he; simp at he; rcases he with rfl | rfl <;> exact ⟨by decide, by decide⟩) p q5 (HL.out.alloc _).s 1 5 ⟨by decide, by decide⟩ (by decide +kernel)).mono ?_; rintro e x7 ⟨rfl, hb7⟩
    have hb7 : Below x6.heap.size x6 x7 := (hal6 (.cells #[.int .u64 1, .int .i64 5, .int .u64 1, .int .i64 4] tB)).trans (hb7.mono (hal6 _).size)
    have HL := Lib.hid (HL.out.below hb7); have HN := Lib.hid (HN.out.belowS hb7); have HKD := Lib.hid ((hb7.block D (by have := (Array.getElem?_eq_some_iff.1 HKD.out).1; omega)).trans HKD.out)
    clear hb7 a0 a1 d0 d1 g0 g1
    have a0 := HL.out.f.cell (i := 0) rfl
    have a1 := HL.out.f.cell (i := 1) rfl
    have d0 := HL.out.g.cell (i := 0) rfl
    have d1 := HL.out.g.cell (i := 1) rfl
    have g0 := HL.out.h.cell (i := 0) rfl
    have g1 := HL.out.h.cell (i := 1) rfl
    have k0 := (HL.out.g.alloc (.cells #[.int .u64 1, .int .i64 4] tB)).cell (i := 0) rfl
    have k1 := (HL.out.g.alloc (.cells #[.int .u64 1, .int .i64 4] tB)).cell (i := 1) rfl
    go_wp2_with fail
    have hal7 : Below x7.heap.size x7 ((x7.alloc (.cells #[.int .u64 1, .int .i64 4] tB)).alloc (.cells #[.int .u64 1, .int .i64 4] tB)) := ((Below.refl _ x7).alloc (Nat.le_refl _) _).alloc (by simp) _
    refine (kept_c _ _ _ q4 q4 (pe_blk (l := q4) ((Blk.new x7 [.int .u64 1, .int .i64 4] tB).alloc _) (by decide) (by decide)) (by intro e he; simp [q4] at he; subst he; exact ⟨by decide, by decide⟩) (by decide) (pe_blk (l := q4) (Blk.new2 x7 _ [.int .u64 1, .int .i64 4] tB) (by decide) (by decide)) (by decide) p q5 (HL.out.below hal7).s true (by decide +kernel)).mono ?_; rintro e x8 ⟨rfl, hb8⟩
    have hb8 : Below x7.heap.size x7 x8 := hal7.trans (hb8.mono hal7.size)
    clear k0 k1
    have HL := Lib.hid (HL.out.below hb8); have HN := Lib.hid (HN.out.belowS hb8); have HKD := Lib.hid ((hb8.block D (by have := (Array.getElem?_eq_some_iff.1 HKD.out).1; omega)).trans HKD.out)
    clear hb8 a0 a1 d0 d1 g0 g1
    have a0 := HL.out.f.cell (i := 0) rfl
    have a1 := HL.out.f.cell (i := 1) rfl
    have d0 := HL.out.g.cell (i := 0) rfl
    have d1 := HL.out.g.cell (i := 1) rfl
    have g0 := HL.out.h.cell (i := 0) rfl
    have g1 := HL.out.h.cell (i := 1) rfl
    go_wp2_with fail
    have hal8 : Below x8.heap.size x8 (x8.alloc (.cells #[.int .u64 1, .int .i64 4] tB)) := (Below.refl _ x8).alloc (Nat.le_refl _) _
    refine (kept_c _ _ _ q4 [] (pe_blk (l := q4) (Blk.new x8 [.int .u64 1, .int .i64 4] tB) (by decide) (by decide)) (by intro e he; simp [q4] at he; subst he; exact ⟨by decide, by decide⟩) (by decide) (pe_nil _) (by decide) p q5 (HL.out.below hal8).s false (by decide +kernel)).mono ?_; rintro e x9 ⟨rfl, hb9⟩
    have hb9 : Below x8.heap.size x8 x9 := hal8.trans (hb9.mono hal8.size)
    have HL := Lib.hid (HL.out.below hb9); have HN := Lib.hid (HN.out.belowS hb9); have HKD := Lib.hid ((hb9.block D (by have := (Array.getElem?_eq_some_iff.1 HKD.out).1; omega)).trans HKD.out)
    clear hb9 a0 a1 d0 d1 g0 g1
    have n0 := HN.out.cell (i := 0) rfl
    go_wp2_with fail
    refine ⟨by simp, .inl ⟨_, _, rfl, run_takeDeferred HKD.out, ?_⟩⟩
    exact ⟨_, results_tmp rfl _ _ _, rfl, HL.out.bel.grown (grownBy_putObj' x9 D (.deferred none)) HL.out.bel.size (fun r e => by cases e; exact hWD)⟩
  case stop =>
    rintro D c W' hD hF hK
    exact hF.elim
end Go.Proofs.Ytnlhgnioedalpaa.Pri
