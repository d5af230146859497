/- ledger: Clone, Moves. -/
import Derived.Test.YtmdacfgofilbdaaLed1
import Derived.Test.YtmdacfgofilbdaaSeq
set_option linter.unusedSimpArgs false
set_option linter.unusedVariables false
namespace Go.Proofs.Ytmdacfgofilbdaa.Led
open Go.RowKit Go.Proofs.Ytmdacfgofilbdaa.TabL Go.Proofs.YtmdacfgofilbdaaW.PrintWords Go.Proofs.Ytmdacfgofilbdaa.PHoldPlays
open Go.Proofs.Ytmdacfgofilbdaa.TabB (ltI lin getV TMg)

theorem Bnd.move {xs : Bs} (h : Bnd xs) (m : Mv) : Bnd (moveL xs m) := by
  unfold moveL
  split
  · rename_i h0
    obtain ⟨_, _, hne, hr, h1, h2, h3⟩ := moveE_zero h0
    unfold rightM at hr
    simp only [Bool.and_eq_true, decide_eq_true_eq] at hr
    intro a
    have ha := h a
    have hf := h m.1
    have ht := h m.2.1
    rw [getV_setL, getV_setL]
    by_cases e1 : a = m.2.1
    · rw [if_pos e1]; omega
    · rw [if_neg e1]
      by_cases e2 : a = m.1
      · rw [if_pos e2]; omega
      · rw [if_neg e2]; exact ha
  · exact h
/-- moves one after the other, up to the first that is refused -/
def movesL : Bs → List Mv → Int × Bs
  | xs, [] => (0, xs)
  | xs, m :: r => if moveE (getV xs) m = 0 then movesL (moveL xs m) r else (moveE (getV xs) m, xs)
/-- all of them or none -/
def allL (xs : Bs) (ms : List Mv) : Bs := if (movesL xs ms).1 = 0 then (movesL xs ms).2 else xs
def stepN (xs : Bs) (ms : List Mv) (k : Nat) : Bs := (ms.take k).foldl moveL xs
theorem stepN_succ (xs : Bs) (ms : List Mv) {k : Nat} {m : Mv} (h : ms[k]? = some m) : stepN xs ms (k + 1) = moveL (stepN xs ms k) m := by
  have hk := (List.getElem?_eq_some_iff.1 h).1
  unfold stepN
  rw [List.take_succ_eq_append_getElem hk, List.foldl_append, (List.getElem?_eq_some_iff.1 h).2]
  rfl
theorem movesL_at : ∀ (ms : List Mv) (xs : Bs) (k : Nat), (∀ j m, j < k → ms[j]? = some m → moveE (getV (stepN xs ms j)) m = 0) → k ≤ ms.length → movesL xs ms = movesL (stepN xs ms k) (ms.drop k)
  | _, _, 0, _, _ => rfl
  | [], _, k + 1, _, h => by simp at h
  | m :: r, xs, k + 1, h, hk => by
    have h0 := h 0 m (by omega) rfl
    have e : moveE (getV xs) m = 0 := h0
    rw [movesL, if_pos e]
    have := movesL_at r (moveL xs m) k (fun j m' hj hm => by have := h (j + 1) m' (by omega) (by simpa using hm); exact this) (by simpa using hk)
    rw [this]
    rfl
theorem stepN_sd {xs : Bs} (h : Sd ltI xs) (ms : List Mv) : ∀ k, Sd ltI (stepN xs ms k) := fun k => by
  unfold stepN
  have : ∀ (l : List Mv) (xs : Bs), Sd ltI xs → Sd ltI (l.foldl moveL xs) := fun l => by
    induction l with
    | nil => intro xs h; exact h
    | cons m l ih => intro xs h; exact ih _ (moveL_sd h m)
  exact this _ _ h
theorem stepN_bnd {xs : Bs} (h : Bnd xs) (ms : List Mv) : ∀ k, Bnd (stepN xs ms k) := fun k => by
  unfold stepN
  have : ∀ (l : List Mv) (xs : Bs), Bnd xs → Bnd (l.foldl moveL xs) := fun l => by
    induction l with
    | nil => intro xs h; exact h
    | cons m l ih => intro xs h; exact ih _ (h.move m)
  exact this _ _ h
theorem stepN_len (xs : Bs) (ms : List Mv) : ∀ k, (stepN xs ms k).length ≤ xs.length + 2 * k := fun k => by
  unfold stepN
  have : ∀ (l : List Mv) (xs : Bs), (l.foldl moveL xs).length ≤ xs.length + 2 * l.length := fun l => by
    induction l with
    | nil => intro xs; exact Nat.le_refl _
    | cons m l ih =>
      intro xs
      have h1 := ih (moveL xs m)
      have h2 := moveL_len xs m
      simp only [List.foldl_cons, List.length_cons]
      omega
  have h1 := this (ms.take k) xs
  rw [List.length_take] at h1
  omega

abbrev tL : TypeId := 30
abbrev tT : TypeId := 28
set_option maxRecDepth 100000 in
set_option maxHeartbeats 4000000 in
theorem clone_any (W : World) (p : Nat) (xs : Bs) {tt : TypeId} (h : TMg tt W p xs) :
    Calls Try.prog 42 #[.pointer (some ⟨p, 0, none⟩)] W fun e w' => ∃ c : Nat, e = .returned (.pointer (some ⟨c, 0, none⟩)) ∧ W.heap.size ≤ c ∧ TMg tL w' c xs ∧ Below W.heap.size W w' := by
  have HC := Lib.hid (TabB.clone_any W p xs h)
  clear h
  go_enter Try.func42, Try.ntmps42
  go_wp2_with fail
  refine HC.out.mono ?_; rintro e w1 ⟨rfl, ⟨q, T, hb, hT, hx⟩, hB⟩
  have c0 := hb.cell (i := 0) rfl
  have hz := hB.size
  have hal : Below w1.heap.size w1 (w1.alloc (.cells #[.pointer q] 30)) := (Below.refl _ w1).alloc (Nat.le_refl _) _
  have hT2 := hT.kept (KT.below hal)
  have hB2 := hB.trans (hal.mono hB.size)
  have HT := Lib.hid hT2; have HB := Lib.hid hB2; have HX := Lib.hid hx
  clear hT hT2 hB hB2 hal hx hb
  go_wp2_with fail
  go_ret
  exact ⟨w1.heap.size, rfl, hz, ⟨q, T, Blk.new w1 [.pointer q] _, HT.out, HX.out⟩, HB.out⟩

def cM (m : Mv) : List Value := [.int .i64 m.1, .int .i64 m.2.1, .int .i64 m.2.2]
theorem rd_at {W : World} {n₀ : Nat} {sv : Value} {ops : List Mv} {j : Nat} {o : Mv} (hR : Rd cM 3 n₀ W sv ops) (hj : ops[j]? = some o) : ∃ b off c, sv = .slice (some ⟨b, off, none⟩) ops.length c ∧ b < n₀ ∧ W.cell? ⟨b, off + j * 3, none⟩ = some (.int .i64 o.1) ∧ W.cell? ⟨b, off + j * 3 + 1, none⟩ = some (.int .i64 o.2.1) ∧ W.cell? ⟨b, off + j * 3 + 2, none⟩ = some (.int .i64 o.2.2) := by
  rcases hR with ⟨a, cap, rfl, rfl⟩ | ⟨b, off, cap, rfl, hlt, hc⟩
  · simp at hj
  · exact ⟨b, off, cap, rfl, hlt, hc j _ hj 0 _ rfl, hc j _ hj 1 _ rfl, hc j _ hj 2 _ rfl⟩
theorem tm_other {W W' : World} {p q : Nat} {xs ys : Bs} {tt ts : TypeId} (hts : ts ≠ tN) (h : TMg tt W p xs) (hq : TMg ts W q ys) (hg : W.grownBy W' (some q)) (hne : p ≠ q) : TMg tt W' p xs := by
  obtain ⟨r, T, hb, _, _⟩ := hq
  exact h.other hg hb hne hts
set_option maxRecDepth 100000 in
set_option maxHeartbeats 8000000 in
theorem moves_any (W : World) (p : Nat) (xs : Bs) (A : Option Addr) (c : Nat) (ms : List Mv) {tt : TypeId} (htt : tt ≠ tN) (h : TMg tt W p xs) (hs : Sd ltI xs) (hl : xs.length < 100000000) (hn : ms.length ≤ 100000) (hb : Bnd xs) (hR : Rd cM 3 W.heap.size W (.slice A ms.length c) ms) (hw : ∀ m ∈ ms, w64 m.1 ∧ w64 m.2.1) :
    Calls Try.prog 43 #[.pointer (some ⟨p, 0, none⟩), .slice A ms.length c] W fun e w' => e = .returned (.int .i64 (movesL xs ms).1) ∧ TMg tt w' p (allL xs ms) ∧ W.grownBy w' (some p) := by
  have HR := Lib.hid hR
  clear hR
  have hplt := h.lt
  go_enter Try.func43, Try.ntmps43
  go_wp2_with fail
  refine (clone_any W p xs h).mono ?_; rintro e w1 ⟨cc, rfl, hcc, hC1, hb1⟩
  have hT1 := h.below hb1
  clear h
  go_wp2_with fail
  go_loopw [13] (fun i wr => ∃ k : Nat, i = .int .i64 (k : Int) ∧ k ≤ ms.length ∧ (∀ j m, j < k → ms[j]? = some m → moveE (getV (stepN xs ms j)) m = 0) ∧ TMg tL wr cc (stepN xs ms k) ∧ TMg tt wr p xs ∧ Below W.heap.size W wr)
    (fun i _ => ms.length - (match i with | .int _ n => n.toNat | _ => 0))
  case atStart => exact ⟨0, rfl, Nat.zero_le _, fun j m hj => by omega, hC1, hT1, hb1⟩
  case round =>
    clear hC1 hT1 hb1
    obtain ⟨k, rfl, hk, hz, hC, hT, hB⟩ := hrel
    by_cases hlt : k < ms.length
    · obtain ⟨⟨f, t, n⟩, hget⟩ : ∃ o, ms[k]? = some o := ⟨_, List.getElem?_eq_getElem hlt⟩
      obtain ⟨b, off, c1, e1, hlb, q0, q1, q2⟩ := rd_at (HR.out.below hB) hget
      obtain ⟨rfl, rfl⟩ : A = some ⟨b, off, none⟩ ∧ c = c1 := by injection e1 with e1 e2 e3; exact ⟨e1, e3⟩
      have hwm := hw _ (List.mem_of_getElem? hget)
      have hal : Below wr.heap.size wr (wr.alloc (.cells #[.int .i64 f, .int .i64 t, .int .i64 n] 78)) := (Below.refl _ wr).alloc (Nat.le_refl _) _
      have hCa := hC.below hal
      have hTa := hT.below hal
      have hBa := hB.trans (hal.mono hB.size)
      have MV := move_any _ cc _ f t n (by decide) hCa (stepN_sd hs ms k) (by have := stepN_len xs ms k; omega) (stepN_bnd hb ms k) hwm.1 hwm.2
      rw [← stepN_succ xs ms hget] at MV
      have hcl := hC.lt
      simp only at q0 q1 q2
      have HMV := Lib.hid MV; have HCA := Lib.hid hCa; have HTA := Lib.hid hTa; have HBA := Lib.hid hBa; have HZ := Lib.hid hz; have HG := Lib.hid hget
      clear MV hCa hTa hBa hC hT hB hal e1 hget hz
      obtain ⟨ev, hev⟩ : ∃ ev, moveE (getV (stepN xs ms k)) (f, t, n) = ev := ⟨_, rfl⟩
      have HEV := Lib.hid hev
      rw [hev] at HMV
      clear hev
      go_wp2_with fail
      refine HMV.out.mono ?_; rintro e w3 ⟨rfl, hC3, hg3⟩
      have hT3 := tm_other (by decide) HTA.out HCA.out hg3 (by omega)
      have hB3 := HBA.out.grown hg3 (HBA.out.size) (fun r e => by cases e; omega)
      clear HMV hg3
      by_cases he : ev = 0
      · subst he
        have HS := Lib.hid (show TMg tL w3 cc (stepN xs ms (k + 1)) ∧ TMg tt w3 p xs ∧ Below W.heap.size W w3 from ⟨hC3, hT3, hB3⟩)
        clear hC3 hT3 hB3
        go_wp2_with fail
        go_roundw
        case rel => exact ⟨k + 1, by congr 1, by omega, fun j m hj hm => by
          by_cases hjk : j = k
          · subst hjk; rw [HG.out] at hm; cases hm; exact HEV.out
          · exact HZ.out j m (by omega) hm, HS.out⟩
        case measure => simp; omega
      · have hml : (movesL xs ms).1 = ev := by
          rw [movesL_at ms xs k HZ.out (by omega), List.drop_eq_getElem_cons hlt]
          rw [show ms[k]'hlt = (f, t, n) from by have := HG.out; rw [List.getElem?_eq_getElem hlt] at this; exact Option.some.inj this]
          rw [movesL, if_neg (by rw [HEV.out]; exact he)]
          exact HEV.out
        have HS := Lib.hid (show TMg tt w3 p xs ∧ Below W.heap.size W w3 from ⟨hT3, hB3⟩)
        clear hC3 hT3 hB3
        go_wp2_with fail
        go_ret
        exact ⟨by rw [hml]; rfl, by unfold allL; rw [hml, if_neg he]; exact HS.out.1, below_gb HS.out.2⟩
    · obtain rfl : k = ms.length := by omega
      have hml : movesL xs ms = (0, stepN xs ms ms.length) := by rw [movesL_at ms xs _ hz (Nat.le_refl _), List.drop_length]; rfl
      obtain ⟨q, T, hbC, hTC, hxC⟩ := hC
      have c0 := hbC.cell (i := 0) rfl
      obtain ⟨q', T', hbP, hTP, hxP⟩ := hT
      have c1 := hbP.cell (i := 0) rfl
      have f1 := hbP.frozen 0
      have HML := Lib.hid hml; have HB := Lib.hid hB; have HTC := Lib.hid hTC; have HXC := Lib.hid hxC; have HBP := Lib.hid hbP
      clear hml hB hTC hxC hbC hbP hTP hxP hz
      go_wp2_with fail
      go_ret
      refine ⟨by rw [HML.out]; rfl, by unfold allL; rw [HML.out, if_pos rfl]; exact ⟨q, T, HBP.out.set 0 (.pointer q), HTC.out.kept (KT.setOther HBP.out htt), HXC.out⟩, gb_below HB.out (grownBy_setAt wr p 0 _)⟩

end Go.Proofs.Ytmdacfgofilbdaa.Led
