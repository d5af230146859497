/- layer 5: what is read: the memory; how long a whole number is. -/
import Derived.Test.YtbhpokcnkdgcmaaCod1
import Derived.Test.YtbhpokcnkdgcmaaPCodecWritesx1
set_option linter.unusedSimpArgs false
set_option linter.unusedVariables false
namespace Go.Proofs.Ytbhpokcnkdgcmaa.Cod
open Go.RowKit Go.Shelf Go.Proofs.YtbhpokcnkdgcmaaW.PrintWords Go.Proofs.Ytbhpokcnkdgcmaa.CodL Go.Proofs.Ytbhpokcnkdgcmaa.PCodecWrites
attribute [local go_sem] Oper.semAt_some

theorem len_go (bs : List Int) (hl : bs.length ≤ 1099511627776) : ∀ (d i : Nat), i + d = bs.length → codec_length.l0 (2 * d + 2) bs (bs.length : Int) (i : Int) = some (((lenAux i (bs.drop i)).1 : Int), (lenAux i (bs.drop i)).2) := by
  intro d
  induction d with
  | zero =>
    intro i hi
    have e : bs.drop i = [] := List.drop_eq_nil_of_le (by omega)
    rw [e]
    simp only [Nat.mul_zero, Nat.zero_add, codec_length.l0]
    rw [if_neg (by omega)]
    rfl
  | succ d ih =>
    intro i hi
    have hlt : i < bs.length := by omega
    have e : bs.drop i = bs[i] :: bs.drop (i + 1) := (List.getElem_cons_drop ..).symm
    have hrd : rd bs (i : Int) = bs[i] := by simp [rd, hlt]
    rw [e, show 2 * (d + 1) + 2 = (2 * d + 2 + 1) + 1 from by omega]
    simp only [codec_length.l0]
    rw [if_pos (by omega), if_pos (by omega), if_pos (by omega), hrd]
    have hw : wrap64 ((i : Int) + 1) = ((i + 1 : Nat) : Int) := by unfold wrap64; omega
    generalize bs[i] = c
    have tail : ¬ (i = 10 ∨ (i = 9 ∧ 1 < c)) → codec_length.j1 (2 * d + 2 + 1) (i : Int) c bs (bs.length : Int) (i : Int) false = some (((lenAux i (c :: bs.drop (i + 1))).1 : Int), (lenAux i (c :: bs.drop (i + 1))).2) := fun hn => by
      simp only [codec_length.j1, lenAux]
      rw [if_neg hn, if_neg (by simp)]
      by_cases h1 : 128 ≤ c
      · rw [if_pos h1, if_pos h1, hw, ih (i + 1) (by omega)]
      · rw [if_neg h1, if_neg h1]
        by_cases h2 : c = 0
        · by_cases h3 : 0 < i
          · rw [if_pos h2, if_pos (by omega), if_pos ⟨h2, h3⟩]; rfl
          · rw [if_pos h2, if_neg (by omega), if_neg (by omega), hw]
        · rw [if_neg h2, if_neg (by omega), hw]
    by_cases h10 : i = 10
    · rw [if_pos (by omega)]
      simp only [codec_length.j1, lenAux]
      rw [if_pos trivial, if_pos (Or.inl h10 : i = 10 ∨ (i = 9 ∧ 1 < c))]
      rfl
    · rw [if_neg (by omega)]
      by_cases h9 : i = 9
      · rw [if_pos (by omega)]
        by_cases h1 : 1 < c
        · simp only [codec_length.j1, lenAux]
          rw [if_pos (show decide (c > 1) = true by simpa using h1), if_pos (Or.inr ⟨h9, h1⟩ : i = 10 ∨ (i = 9 ∧ 1 < c))]
          rfl
        · rw [show decide (c > 1) = false from by simpa using h1]
          exact tail (by omega)
      · rw [if_neg (by omega)]
        exact tail (by omega)
theorem length_any (W : World) (A : Option Addr) (c : Nat) (bs : List Int) (hl : bs.length ≤ 1099511627776) (hC : (Kd.int .u8).C W A bs.length bs) (hc : bs.length ≤ c) :
    Calls Try.prog 106 #[.slice A bs.length c] W fun e w' => e = .returned (.tuple #[.int .i64 ((lenAux 0 bs).1 : Int), .int .i64 (lenAux 0 bs).2]) ∧ ∃ m, w' = W.drewN m :=
  (codec_length.calls (2 * bs.length + 2) A c bs _ _ W hC hc (len_go bs hl bs.length 0 (by omega))).mono fun _ _ ⟨h1, h2⟩ => ⟨h1, h2.out⟩

/-- what is read: the object at p, its bytes; both lie below n₀ -/
def IM (W : World) (n₀ p : Nat) (s : St) : Prop := p < n₀ ∧ n₀ ≤ W.heap.size ∧ ∃ A c, Blk W p 136 [.slice A s.1.length c, .int .i64 s.2] ∧ s.1.length ≤ c ∧ (A = none → c = 0) ∧ (Kd.int .u8).C W A s.1.length s.1 ∧ (∀ ad, A = some ad → ad.block < n₀ ∧ ad.block ≠ p)
theorem IM.grown {W W' : World} {n₀ p : Nat} {s : St} {row : Option Nat} (h : IM W n₀ p s) (hg : W.grownBy W' row) (hr : ∀ r, row = some r → n₀ ≤ r) : IM W' n₀ p s := by
  obtain ⟨h1, h2, A, c, h3, h4, h5, h6, h7⟩ := h
  have hlt : ∀ b, b < n₀ → W'.heap[b]? = W.heap[b]? := fun b hb => hg.block b (by omega) (fun e => by have := hr b e.symm; omega)
  refine ⟨h1, Nat.le_trans h2 hg.size, A, c, (hlt p h1).trans h3, h4, h5, ⟨rfl, h6.2.1, fun hn => ?_⟩, h7⟩
  obtain ⟨ad, e, hc⟩ := h6.2.2 hn
  refine ⟨ad, e, fun j x hx => ?_⟩
  obtain ⟨cs, k1, k2, k3⟩ := hc j x hx
  refine ⟨cs, k1, k2, fun i u hu => ?_⟩
  have hb := (h7 ad e).1
  have hb' : (ad.add (j * (Kd.int .u8).sz + i)).block < n₀ := by unfold Addr.add; split <;> exact hb
  have := k3 i u hu
  unfold World.cell? at this ⊢
  rw [hlt _ hb']
  exact this
theorem IM.below {W W' : World} {n₀ p : Nat} {s : St} (h : IM W n₀ p s) (hb : Below n₀ W W') : IM W' n₀ p s := by
  obtain ⟨h1, h2, A, c, h3, h4, h5, h6, h7⟩ := h
  refine ⟨h1, Nat.le_trans h2 hb.size, A, c, (hb.block p h1).trans h3, h4, h5, ⟨rfl, h6.2.1, fun hn => ?_⟩, h7⟩
  obtain ⟨ad, e, hc⟩ := h6.2.2 hn
  refine ⟨ad, e, fun j x hx => ?_⟩
  obtain ⟨cs, k1, k2, k3⟩ := hc j x hx
  refine ⟨cs, k1, k2, fun i u hu => ?_⟩
  have hb1 := (h7 ad e).1
  have hb' : (ad.add (j * (Kd.int .u8).sz + i)).block < n₀ := by unfold Addr.add; split <;> exact hb1
  rw [hb.cell hb']
  exact k3 i u hu
theorem grown_trans {A B C : World} {r : Option Nat} (h : A.grownBy B r) (k : B.grownBy C r) : A.grownBy C r :=
  ⟨k.os.trans h.os, k.tape.trans h.tape, k.output.trans h.output, Nat.le_trans h.size k.size, fun b hb hne => (k.block b (Nat.lt_of_lt_of_le hb h.size) hne).trans (h.block b hb hne)⟩
theorem grown_drewN (W : World) (m : Nat) (r : Option Nat) : W.grownBy (W.drewN m) r := ⟨rfl, rfl, rfl, Nat.le_refl _, fun _ _ _ => rfl⟩

set_option maxRecDepth 100000 in
set_option maxHeartbeats 4000000 in
theorem in_err (W : World) (n₀ p : Nat) (s : St) (hM : IM W n₀ p s) : Calls Try.prog 69 #[.pointer (some ⟨p, 0, none⟩)] W fun e w' => e = .returned (.int .i64 s.2) ∧ W = w' := by
  obtain ⟨h1, h2, A, c, hP, _⟩ := hM
  have k1 := hP.cell (i := 1) rfl
  clear hP
  go_enter Try.func69, Try.ntmps69
  go_wp2_with fail
  go_ret
  exact ⟨rfl, rfl⟩
set_option maxRecDepth 100000 in
set_option maxHeartbeats 4000000 in
theorem in_left (W : World) (n₀ p : Nat) (s : St) (hM : IM W n₀ p s) : Calls Try.prog 70 #[.pointer (some ⟨p, 0, none⟩)] W fun e w' => e = .returned (.int .i64 (s.1.length : Int)) ∧ W = w' := by
  obtain ⟨h1, h2, A, c, hP, _⟩ := hM
  have k0 := hP.cell (i := 0) rfl
  clear hP
  go_enter Try.func70, Try.ntmps70
  go_wp2_with fail
  go_ret
  exact ⟨rfl, rfl⟩

/-- the object is written: the row of its bytes is another one, or none -/
theorem IM.set {W : World} {n₀ p : Nat} {s : St} {A : Option Addr} {c : Nat} {t : St} (h1 : p < n₀) (h2 : n₀ ≤ W.heap.size) (hP : Blk W p 136 [.slice A t.1.length c, .int .i64 t.2]) (h4 : t.1.length ≤ c) (h5 : A = none → c = 0) (h6 : (Kd.int .u8).C W A t.1.length t.1) (h7 : ∀ ad, A = some ad → ad.block < n₀ ∧ ad.block ≠ p) : IM W n₀ p t :=
  ⟨h1, h2, A, c, hP, h4, h5, h6, h7⟩
theorem C_setOther {W : World} {p i : Nat} {v : Value} {A : Option Addr} {xs : List Int} (h : (Kd.int .u8).C W A xs.length xs) (hA : ∀ ad, A = some ad → ad.block ≠ p) : (Kd.int .u8).C (W.setCell ⟨p, i, none⟩ v) A xs.length xs := by
  refine ⟨rfl, h.2.1, fun hn => ?_⟩
  obtain ⟨ad, e, hc⟩ := h.2.2 hn
  refine ⟨ad, e, fun j x hx => ?_⟩
  obtain ⟨cs, k1, k2, k3⟩ := hc j x hx
  refine ⟨cs, k1, k2, fun i' u hu => ?_⟩
  have hb' : (ad.add (j * (Kd.int .u8).sz + i')).block ≠ p := by unfold Addr.add; split <;> exact hA ad e
  have := k3 i' u hu
  unfold World.cell? at this ⊢
  rw [Below.heap_setCell W ⟨p, i, none⟩ v _ hb']
  exact this

set_option maxRecDepth 100000 in
set_option maxHeartbeats 4000000 in
theorem in_fail (W : World) (n₀ p : Nat) (s : St) (x : Int) (hM : IM W n₀ p s) : Calls Try.prog 105 #[.pointer (some ⟨p, 0, none⟩), .int .i64 x] W fun e w' => e = .returned (.tuple #[]) ∧ IM w' n₀ p (failS s x) ∧ W.grownBy w' (some p) := by
  obtain ⟨h1, h2, A, c, hP, h4, h5, h6, h7⟩ := hM
  have k0 := hP.cell (i := 0) rfl
  have k1 := hP.cell (i := 1) rfl
  have f0 := hP.frozen 0
  have f1 := hP.frozen 1
  by_cases he : s.2 = 0
  · have g1 := hP.set 1 (.int .i64 x)
    have d0 := g1.cell (i := 0) rfl
    have e0 := g1.frozen 0
    have hF : failS s x = ([], x) := by simp [failS, he]
    have HF := Lib.hid hF; clear hF
    have hb : (s.2 == 0) = true := by simp [he]
    go_enter Try.func105, Try.ntmps105
    go_wp2_with fail
    go_end0
    rw [HF.out]
    exact ⟨rfl, ⟨h1, by simpa using h2, none, 0, g1.set 0 _, Nat.le_refl _, fun _ => rfl, Kd.C_nil _ _, fun _ h => by cases h⟩, grown_trans (grownBy_setAt W p 1 _) (grownBy_setAt _ p 0 _)⟩
  · have hF : failS s x = ([], s.2) := by simp [failS, he]
    have HF := Lib.hid hF; clear hF
    have hb : (s.2 == 0) = false := by simp [he]
    go_enter Try.func105, Try.ntmps105
    go_wp2_with fail
    go_end0
    rw [HF.out]
    exact ⟨rfl, ⟨h1, by simpa using h2, none, 0, hP.set 0 _, Nat.le_refl _, fun _ => rfl, Kd.C_nil _ _, fun _ h => by cases h⟩, grownBy_setAt W p 0 _⟩

end Go.Proofs.Ytbhpokcnkdgcmaa.Cod
