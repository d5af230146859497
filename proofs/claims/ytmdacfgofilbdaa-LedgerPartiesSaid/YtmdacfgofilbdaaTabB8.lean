/- table B: the methods of a table. -/
import Derived.Test.YtmdacfgofilbdaaTabB4
set_option linter.unusedSimpArgs false
set_option linter.unusedVariables false
namespace Go.Proofs.Ytmdacfgofilbdaa.TabB
open Go.RowKit Go.Proofs.Ytmdacfgofilbdaa.TabL

theorem gb_below {W w1 w2 : World} {p : Nat} (hb : Below W.heap.size W w1) (h : w1.grownBy w2 (some p)) : W.grownBy w2 (some p) :=
  ⟨h.os.trans hb.os, h.tape.trans hb.tape, h.output.trans hb.output, Nat.le_trans hb.size h.size, fun k hk hne => (h.block k (Nat.lt_of_lt_of_le hk hb.size) hne).trans (hb.block k hk)⟩
theorem gb_trans {W w1 w2 : World} {r : Option Nat} (hb : W.grownBy w1 r) (h : w1.grownBy w2 r) : W.grownBy w2 r :=
  ⟨h.os.trans hb.os, h.tape.trans hb.tape, h.output.trans hb.output, Nat.le_trans hb.size h.size, fun k hk hne => (h.block k (Nat.lt_of_lt_of_le hk hb.size) hne).trans (hb.block k hk hne)⟩
theorem gb_refl (W : World) (r : Option Nat) : W.grownBy W r := ⟨rfl, rfl, rfl, Nat.le_refl _, fun _ _ _ => rfl⟩

/-- a table that lies in a block of whatever type -/
abbrev TMg (tt : TypeId) (W : World) (p : Nat) (xs : List (Int × Int)) : Prop := TM tt 145 ek ev W p xs
/-- what a table answers to a key -/
def getV (xs : List (Int × Int)) (k : Int) : Int := match getL ltI xs k with | none => 0 | some v => v
set_option maxRecDepth 100000 in
set_option maxHeartbeats 4000000 in
theorem get_any (W : World) (p : Nat) (xs : List (Int × Int)) (k : Int) {tt : TypeId} (htt : tt ≠ 145) (h : TMg tt W p xs) (hs : Sd ltI xs) :
    Calls Try.prog 69 #[.pointer (some ⟨p, 0, none⟩), (.int .i64 k)] W fun e w' => e = .returned (.tuple #[(.int .i64 (getV xs k)), .bool (getL ltI xs k).isSome]) ∧ W = w' := by
  obtain ⟨q, T, h1, h2, rfl⟩ := h
  have c0 := h1.cell (i := 0) rfl
  have F := Lib.hid (find_any k T W q h2 hs)
  clear h1 h2 hs
  go_enter Try.func69, Try.ntmps69
  go_wp2_with fail
  refine F.out.mono ?_; rintro e w1 ⟨rfl, q1, rfl, (⟨hg, rfl⟩ | ⟨v, b, hg, rfl, c1⟩)⟩
  · have HG := Lib.hid hg
    clear hg
    go_wp2_with fail
    go_ret2
    refine ⟨?_, rfl⟩
    unfold getV
    rw [HG.out]
    rfl
  · have HG := Lib.hid hg
    clear hg
    go_wp2_with fail
    go_ret2
    refine ⟨?_, rfl⟩
    unfold getV
    rw [HG.out]
    rfl
set_option maxRecDepth 100000 in
set_option maxHeartbeats 4000000 in
theorem putM_any (W : World) (p : Nat) (xs : List (Int × Int)) (k : Int) (v : Int) {tt : TypeId} (htt : tt ≠ 145) (h : TMg tt W p xs) (hs : Sd ltI xs) (hl : xs.length < 1099511627776) :
    Calls Try.prog 93 #[.pointer (some ⟨p, 0, none⟩), (.int .i64 k), (.int .i64 v)] W fun e w' => e = .returned (.bool (getL ltI xs k).isNone) ∧ TMg tt w' p (putL ltI xs k v) ∧ W.grownBy w' (some p) := by
  obtain ⟨q, T, h1, h2, rfl⟩ := h
  have c0 := h1.cell (i := 0) rfl
  have f0 := h1.frozen 0
  have plt := h1.lt
  have F := Lib.hid (find_any k T W q h2 hs)
  have PU := Lib.hid (put_any k v T W q h2 hs hl)
  have H1 := Lib.hid h1
  clear h1 h2 hs hl
  go_enter Try.func93, Try.ntmps93
  go_wp2_with fail
  refine F.out.mono ?_; rintro e w1 ⟨rfl, q1, rfl, (⟨hg, rfl⟩ | ⟨v1, b, hg, rfl, c1⟩)⟩
  all_goals
    have HG := Lib.hid hg
    clear hg
    go_wp2_with fail
    refine PU.out.mono ?_; rintro e w2 ⟨q2, t2, rfl, hT2, ht2, hb2⟩
    obtain ⟨hc2, hf2⟩ := bcell hb2
    have c0' := (hc2 p 0 plt).trans c0
    have f0' := (hf2 p 0 plt).trans f0
    have plt2 := Nat.lt_of_lt_of_le plt hb2.size
    have HB2 := Lib.hid hb2; have HT2 := Lib.hid hT2; have HE2 := Lib.hid ht2
    clear hc2 hf2 hb2 hT2 ht2
    go_wp2_with fail
    go_ret
    have hP2 : Blk w2 p tt [.pointer q] := H1.out.belowS HB2.out
    refine ⟨by rw [HG.out]; rfl, ⟨q2, t2, hP2.set 0 (.pointer q2), HT2.out.kept (KT.setOther hP2 htt), HE2.out⟩, gb_below HB2.out (grownBy_setAt w2 p 0 _)⟩
set_option maxRecDepth 100000 in
set_option maxHeartbeats 4000000 in
theorem dropM_any (W : World) (p : Nat) (xs : List (Int × Int)) (k : Int) {tt : TypeId} (htt : tt ≠ 145) (h : TMg tt W p xs) (hs : Sd ltI xs) (hl : xs.length ≤ 1099511627776) :
    Calls Try.prog 92 #[.pointer (some ⟨p, 0, none⟩), (.int .i64 k)] W fun e w' => e = .returned (.bool (getL ltI xs k).isSome) ∧ TMg tt w' p (dropL ltI xs k) ∧ W.grownBy w' (some p) := by
  obtain ⟨q, T, h1, h2, rfl⟩ := h
  have c0 := h1.cell (i := 0) rfl
  have f0 := h1.frozen 0
  have plt := h1.lt
  have F := Lib.hid (find_any k T W q h2 hs)
  have PU := Lib.hid (drop_any k T W q h2 hs hl)
  have H1 := Lib.hid h1; have H2 := Lib.hid h2
  clear h1 h2 hs hl
  go_enter Try.func92, Try.ntmps92
  go_wp2_with fail
  refine F.out.mono ?_; rintro e w1 ⟨rfl, q1, rfl, (⟨hg, rfl⟩ | ⟨v1, b, hg, rfl, c1⟩)⟩
  · have HG := Lib.hid hg
    clear hg
    go_wp2_with fail
    go_ret
    refine ⟨by rw [HG.out]; rfl, ⟨q, T, H1.out, H2.out, (getL_none.1 HG.out).symm⟩, gb_refl _ _⟩
  · have HG := Lib.hid hg
    clear hg
    go_wp2_with fail
    refine PU.out.mono ?_; rintro e w2 ⟨q2, t2, rfl, hT2, ht2, hb2⟩
    obtain ⟨hc2, hf2⟩ := bcell hb2
    have c0' := (hc2 p 0 plt).trans c0
    have f0' := (hf2 p 0 plt).trans f0
    have plt2 := Nat.lt_of_lt_of_le plt hb2.size
    have HB2 := Lib.hid hb2; have HT2 := Lib.hid hT2; have HE2 := Lib.hid ht2
    clear hc2 hf2 hb2 hT2 ht2
    go_wp2_with fail
    go_ret
    have hP2 : Blk w2 p tt [.pointer q] := H1.out.belowS HB2.out
    refine ⟨by rw [HG.out]; rfl, ⟨q2, t2, hP2.set 0 (.pointer q2), HT2.out.kept (KT.setOther hP2 htt), HE2.out⟩, gb_below HB2.out (grownBy_setAt w2 p 0 _)⟩



set_option maxRecDepth 100000 in
set_option maxHeartbeats 4000000 in
theorem clone_any (W : World) (p : Nat) (xs : List (Int × Int)) {tt : TypeId} (h : TMg tt W p xs) : Calls Try.prog 76 #[.pointer (some ⟨p, 0, none⟩)] W fun e w' => e = .returned (.pointer (some ⟨W.heap.size, 0, none⟩)) ∧ TMx w' W.heap.size xs ∧ Below W.heap.size W w' := by
  obtain ⟨q, T, h1, h2, rfl⟩ := h
  have c0 := h1.cell (i := 0) rfl
  have H2 := Lib.hid h2
  clear h1 h2
  go_enter Try.func76, Try.ntmps76
  go_wp2_with fail
  go_ret
  have hb : Below W.heap.size W (W.alloc (.cells #[.pointer q] 28)) := (Below.refl _ W).alloc (Nat.le_refl _) _
  exact ⟨rfl, ⟨q, T, Blk.new W [.pointer q] 28, H2.out.below hb, rfl⟩, hb⟩

set_option maxHeartbeats 400000 in
theorem all_any (W : World) (q : Option Addr) :
    Calls Try.prog 87 #[.pointer q] W fun e w' => e = .returned (.func (.func 102) #[] #[.pointer (some ⟨W.heap.size, 0, none⟩)]) ∧ w' = W.alloc (.cells #[.pointer q] 129) := by
  go_enter Try.func87, Try.ntmps87
  go_wp2_with fail
  go_ret
  exact ⟨rfl, rfl⟩


end Go.Proofs.Ytmdacfgofilbdaa.TabB
