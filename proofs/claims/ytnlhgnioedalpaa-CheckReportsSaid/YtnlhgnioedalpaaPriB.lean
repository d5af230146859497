/- price: where a set stands (slices.BinarySearchFunc). -/
import Derived.Test.YtnlhgnioedalpaaPriD
set_option linter.unusedSimpArgs false
set_option linter.unusedVariables false
namespace Go.Proofs.Ytnlhgnioedalpaa.Pri
open Go.RowKit Go.Proofs.YtnlhgnioedalpaaW.PrintWords Go.Proofs.Ytnlhgnioedalpaa.PPricePlays
attribute [local go_sem] Oper.semAt_some

theorem put2_any (W : World) (s x y : Int) (hs : U s) (hx : U x) :
    Calls Try.prog 67 #[.agg #[.int .u64 x, .int .i64 y], .int .u64 s] W fun e w' => e = .returned (.int .i64 (cmpS x s)) ∧ Below W.heap.size W w' := by
  have hal : Below W.heap.size W (W.alloc (.cells #[.int .u64 x, .int .i64 y] tE)) := (Below.refl _ W).alloc (Nat.le_refl _) _
  have C := Lib.hid (cmp_any (W.alloc (.cells #[.int .u64 x, .int .i64 y] tE)) x s hx hs)
  have HAL := Lib.hid hal
  clear hal
  obtain ⟨r, hr⟩ : ∃ r, cmpS x s = r := ⟨_, rfl⟩
  rw [hr] at C ⊢
  clear hr
  go_enter Try.func67, Try.ntmps67
  go_wp2_with fail
  refine C.out.mono ?_; rintro e w1 ⟨rfl, hb⟩
  go_wp2_with fail
  go_ret
  exact ⟨rfl, HAL.out.trans (hb.mono HAL.out.size)⟩
theorem cmpS_lt {a b : Int} : cmpS a b < 0 ↔ ltS a b = true := by
  unfold cmpS
  by_cases h : ltS a b = true
  · rw [if_pos h]; simp [h]
  · rw [if_neg h]
    split <;> simp [h]
/-- where s stands among sorted entries -/
structure Pos (es : List En) (s : Int) (k : Nat) : Prop where
  le : k ≤ es.length
  lo : ∀ m, m < k → ltS (es.getD m dE).1 s = true
  hi : ∀ m, k ≤ m → m < es.length → ltS (es.getD m dE).1 s = false
theorem sd_at {es : List En} (h : es.Pairwise (fun a b => ltS a.1 b.1 = true)) {i j : Nat} (hij : i < j) (hj : j < es.length) : ltS (es.getD i dE).1 (es.getD j dE).1 = true := by
  have := List.pairwise_iff_getElem.1 h i j (by omega) hj hij
  rw [show es.getD i dE = es[i]'(by omega) from by simp [List.getD, (show i < es.length by omega)], show es.getD j dE = es[j] from by simp [List.getD, hj]]
  exact this
set_option maxRecDepth 100000 in
set_option maxHeartbeats 8000000 in
theorem pos_any (W : World) (v : Value) (es : List En) (h : PE W v es) (hU : UE es) (hl : es.length ≤ 1099511627776) (hsd : es.Pairwise (fun a b => ltS a.1 b.1 = true)) (s : Int) (hs : U s) :
    Calls Try.prog 66 #[v, .int .u64 s, .func (.func 67) #[] #[]] W fun e w' => ∃ (k : Nat) (b : Bool), e = .returned (.tuple #[.int .i64 (k : Int), .bool b]) ∧ Pos es s k ∧ Below W.heap.size W w' := by
  have H := Lib.hid h
  obtain ⟨A, c, rfl, -⟩ := h
  go_enter Try.func66, Try.ntmps66
  go_wp2_with fail
  go_loopw [9, 10] (fun x y wr => ∃ i j : Nat, x = .int .i64 (i : Int) ∧ y = .int .i64 (j : Int) ∧ i ≤ j ∧ j ≤ es.length ∧ (∀ m, m < i → ltS (es.getD m dE).1 s = true) ∧ (∀ m, j ≤ m → m < es.length → ltS (es.getD m dE).1 s = false) ∧ Below W.heap.size W wr) (fun x y _ => (intOf y - intOf x).toNat)
  case atStart => exact ⟨0, es.length, rfl, rfl, Nat.zero_le _, Nat.le_refl _, fun m hm => by omega, fun m h1 h2 => by omega, Below.refl _ W⟩
  case round =>
    obtain ⟨i, j, rfl, rfl, hij, hj, hlo, hhi, hB⟩ := hrel
    by_cases hlt : i < j
    · obtain ⟨k, hk⟩ : ∃ k : Nat, (i + j) / 2 = k := ⟨_, rfl⟩
      have hki : i ≤ k := by omega
      have hkj : k < j := by omega
      have hkl : k < es.length := by omega
      obtain ⟨⟨x, y⟩, hx⟩ : ∃ x, es[k] = x := ⟨_, rfl⟩
      have hx2 : es[k]? = some (x, y) := by rw [List.getElem?_eq_getElem hkl, hx]
      have hgd : es.getD k dE = (x, y) := by rw [List.getD_eq_getElem?_getD, hx2]; rfl
      have hux : U x := hU _ (List.mem_of_getElem? hx2)
      obtain ⟨b3, off3, c4, e1, hlb, r0, r1⟩ := (H.out.below hB).at hx2
      obtain ⟨rfl, rfl⟩ : A = some ⟨b3, off3, none⟩ ∧ c = c4 := by injection e1 with e1 e2 e3; exact ⟨e1, e3⟩
      simp only at r0 r1
      have P2 := Lib.hid (put2_any wr s x y hs hux)
      have li : (i : Int) < (j : Int) := by omega
      have HB := Lib.hid hB
      have HLO := Lib.hid hlo; have HHI := Lib.hid hhi; have HGD := Lib.hid hgd
      clear hx hx2 hgd e1 hB hlo hhi
      subst hk
      go_wp2_with fail
      refine P2.out.mono ?_; rintro e w1 ⟨rfl, hb1⟩
      have HB1 := Lib.hid (HB.out.trans (hb1.mono HB.out.size))
      obtain ⟨r, hr⟩ : ∃ r, cmpS x s = r := ⟨_, rfl⟩
      have hiff : r < 0 ↔ ltS x s = true := by rw [← hr]; exact cmpS_lt
      rw [hr]
      clear hb1 P2 hr
      by_cases hc : ltS x s = true
      · have hr0 : r < 0 := hiff.2 hc
        have HC := Lib.hid hc
        have g1 : ((i : Int) + (j : Int)) / 2 + 1 ≤ 9223372036854775807 := by omega
        have g2 : -9223372036854775808 ≤ ((i : Int) + (j : Int)) / 2 + 1 := by omega
        clear hiff hc
        go_wp2_with fail
        go_roundw
        case rel => exact ⟨(i + j) / 2 + 1, j, by congr 1, rfl, by omega, hj, fun m hm => by
          rcases Nat.lt_succ_iff_lt_or_eq.1 hm with h | h
          · have h1 := sd_at hsd h hkl
            rw [HGD.out] at h1
            exact ltS_trans h1 HC.out
          · rw [h, HGD.out]; exact HC.out, HHI.out, HB1.out⟩
        case measure => simp [intOf]; omega
      · have hr0 : ¬ r < 0 := fun h => hc (hiff.1 h)
        have HC := Lib.hid (show ltS x s = false by simpa using hc)
        clear hiff hc
        go_wp2_with fail
        go_roundw
        case rel => exact ⟨i, (i + j) / 2, rfl, by congr 1, by omega, by omega, HLO.out, fun m h1 h2 => by
          rcases Nat.lt_or_eq_of_le h1 with h | h
          · cases hq : ltS (es.getD m dE).1 s with
            | false => rfl
            | true =>
              have h3 := sd_at hsd h h2
              rw [HGD.out] at h3
              have h4 := ltS_trans h3 hq
              rw [HC.out] at h4
              cases h4
          · rw [← h, HGD.out]; exact HC.out, HB1.out⟩
        case measure => simp [intOf]; omega
    · obtain rfl : i = j := by omega
      have HP := Lib.hid (show Pos es s i from ⟨hj, hlo, hhi⟩)
      have HB := Lib.hid hB
      clear hlo hhi hB
      by_cases hin : i < es.length
      · obtain ⟨⟨x, y⟩, hx⟩ : ∃ x, es[i] = x := ⟨_, rfl⟩
        have hx2 : es[i]? = some (x, y) := by rw [List.getElem?_eq_getElem hin, hx]
        have hux : U x := hU _ (List.mem_of_getElem? hx2)
        obtain ⟨b3, off3, c4, e1, hlb, r0, r1⟩ := (H.out.below HB.out).at hx2
        obtain ⟨rfl, rfl⟩ : A = some ⟨b3, off3, none⟩ ∧ c = c4 := by injection e1 with e1 e2 e3; exact ⟨e1, e3⟩
        simp only at r0 r1
        have P2 := Lib.hid (put2_any wr s x y hs hux)
        have kl : (i : Int) < (es.length : Int) := by omega
        have k0 : (0 : Int) ≤ (i : Int) := Int.natCast_nonneg _
        clear hx hx2 e1
        go_wp2_with fail
        refine P2.out.mono ?_; rintro e w1 ⟨rfl, hb1⟩
        have HB1 := Lib.hid (HB.out.trans (hb1.mono HB.out.size))
        obtain ⟨r, hr⟩ : ∃ r, cmpS x s = r := ⟨_, rfl⟩
        rw [hr]
        clear hb1 P2 hr
        go_wp2_with fail
        go_ret2
        exact ⟨i, _, rfl, HP.out, HB1.out⟩
      · have kl : ¬ (i : Int) < (es.length : Int) := by omega
        go_wp2_with fail
        go_ret2
        first | exact ⟨i, _, rfl, HP.out, HB.out⟩ | exact ⟨i, rfl, HP.out, HB.out⟩ | exact ⟨i, by simp, HP.out, HB.out⟩

end Go.Proofs.Ytnlhgnioedalpaa.Pri
