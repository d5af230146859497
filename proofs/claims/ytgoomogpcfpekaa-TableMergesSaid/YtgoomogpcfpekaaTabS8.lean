/- table S: the methods of a table. -/
import Derived.Test.YtgoomogpcfpekaaTabS4
set_option linter.unusedSimpArgs false
set_option linter.unusedVariables false
namespace Go.Proofs.Ytgoomogpcfpekaa.TabS
open Go.RowKit Go.Proofs.Ytgoomogpcfpekaa.TabL

theorem gb_below {W w1 w2 : World} {p : Nat} (hb : Below W.heap.size W w1) (h : w1.grownBy w2 (some p)) : W.grownBy w2 (some p) :=
  ⟨h.os.trans hb.os, h.tape.trans hb.tape, h.output.trans hb.output, Nat.le_trans hb.size h.size, fun k hk hne => (h.block k (Nat.lt_of_lt_of_le hk hb.size) hne).trans (hb.block k hk)⟩
theorem gb_trans {W w1 w2 : World} {r : Option Nat} (hb : W.grownBy w1 r) (h : w1.grownBy w2 r) : W.grownBy w2 r :=
  ⟨h.os.trans hb.os, h.tape.trans hb.tape, h.output.trans hb.output, Nat.le_trans hb.size h.size, fun k hk hne => (h.block k (Nat.lt_of_lt_of_le hk hb.size) hne).trans (hb.block k hk hne)⟩
theorem gb_refl (W : World) (r : Option Nat) : W.grownBy W r := ⟨rfl, rfl, rfl, Nat.le_refl _, fun _ _ _ => rfl⟩

/-- what a table answers to a key -/
def getV (xs : List (Int × ByteArray)) (k : Int) : ByteArray := match getL ltI xs k with | none => ByteArray.empty | some v => v
set_option maxRecDepth 100000 in
set_option maxHeartbeats 4000000 in
theorem get_any (W : World) (p : Nat) (xs : List (Int × ByteArray)) (k : Int) (h : TMx W p xs) (hs : Sd ltI xs) :
    Calls Try.prog 42 #[.pointer (some ⟨p, 0, none⟩), (.int .i64 k)] W fun e w' => e = .returned (.tuple #[(.string (getV xs k)), .bool (getL ltI xs k).isSome]) ∧ W = w' := by
  obtain ⟨q, T, h1, h2, rfl⟩ := h
  have c0 := h1.cell (i := 0) rfl
  have F := Lib.hid (find_any k T W q h2 hs)
  clear h1 h2 hs
  go_enter Try.func42, Try.ntmps42
  go_wp2_with fail
  refine F.out.mono ?_; rintro e w1 ⟨rfl, q1, rfl, (⟨hg, rfl⟩ | ⟨v, b, hg, rfl, c1⟩)⟩
  · have HG := Lib.hid hg
    clear hg
    go_wp2_with fail
    go_ret2
    refine ⟨?_, rfl⟩
    unfold getV
    rw [HG.out]
    rfl
  · have HG := Lib.hid hg
    clear hg
    go_wp2_with fail
    go_ret2
    refine ⟨?_, rfl⟩
    unfold getV
    rw [HG.out]
    rfl
set_option maxRecDepth 100000 in
set_option maxHeartbeats 4000000 in
theorem putM_any (W : World) (p : Nat) (xs : List (Int × ByteArray)) (k : Int) (v : ByteArray) (h : TMx W p xs) (hs : Sd ltI xs) (hl : xs.length < 1099511627776) :
    Calls Try.prog 62 #[.pointer (some ⟨p, 0, none⟩), (.int .i64 k), (.string v)] W fun e w' => e = .returned (.bool (getL ltI xs k).isNone) ∧ TMx w' p (putL ltI xs k v) ∧ W.grownBy w' (some p) := by
  obtain ⟨q, T, h1, h2, rfl⟩ := h
  have c0 := h1.cell (i := 0) rfl
  have f0 := h1.frozen 0
  have plt := h1.lt
  have F := Lib.hid (find_any k T W q h2 hs)
  have PU := Lib.hid (put_any k v T W q h2 hs hl)
  have H1 := Lib.hid h1
  clear h1 h2 hs hl
  go_enter Try.func62, Try.ntmps62
  go_wp2_with fail
  refine F.out.mono ?_; rintro e w1 ⟨rfl, q1, rfl, (⟨hg, rfl⟩ | ⟨v1, b, hg, rfl, c1⟩)⟩
  all_goals
    have HG := Lib.hid hg
    clear hg
    go_wp2_with fail
    refine PU.out.mono ?_; rintro e w2 ⟨q2, t2, rfl, hT2, ht2, hb2⟩
    obtain ⟨hc2, hf2⟩ := bcell hb2
    have c0' := (hc2 p 0 plt).trans c0
    have f0' := (hf2 p 0 plt).trans f0
    have plt2 := Nat.lt_of_lt_of_le plt hb2.size
    have HB2 := Lib.hid hb2; have HT2 := Lib.hid hT2; have HE2 := Lib.hid ht2
    clear hc2 hf2 hb2 hT2 ht2
    go_wp2_with fail
    go_ret
    have hP2 : Blk w2 p 98 [.pointer q] := H1.out.belowS HB2.out
    refine ⟨by rw [HG.out]; rfl, ⟨q2, t2, hP2.set 0 (.pointer q2), HT2.out.kept (KT.setOther hP2 (by decide)), HE2.out⟩, gb_below HB2.out (grownBy_setAt w2 p 0 _)⟩





end Go.Proofs.Ytgoomogpcfpekaa.TabS
