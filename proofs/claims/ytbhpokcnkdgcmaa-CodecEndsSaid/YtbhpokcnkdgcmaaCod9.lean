/- layer 5: the document's answer, as the print tells it, in plain words. -/
import Derived.Test.YtbhpokcnkdgcmaaCodL
import Derived.Test.YtbhpokcnkdgcmaaPCodecWritesx2
set_option linter.unusedSimpArgs false
set_option linter.unusedVariables false
namespace Go.Proofs.Ytbhpokcnkdgcmaa.Cod
open Go.RowKit Go.Proofs.YtbhpokcnkdgcmaaW.PrintWords Go.Proofs.Ytbhpokcnkdgcmaa.CodL Go.Proofs.Ytbhpokcnkdgcmaa.PCodecWrites

theorem wrap_succ {i : Nat} (h : i < 9223372036854775807) : wrap64 ((i : Int) + 1) = ((i + 1 : Nat) : Int) := by unfold wrap64; omega
theorem join_l1 (parts : List (List Int)) (i : Nat) (hi : i < parts.length) (hp : parts.length ≤ 1099511627776) (x : List Int) (hx : parts[i] = x) (hxl : x.length ≤ 1099511627776) (rest : List Int)
    (h0 : ∀ out : List Int, out.length + rest.length ≤ 1099511627776 → Ev (fun k => saleroomref01_Join.l0 k parts out ((i + 1 : Nat) : Int)) (out ++ rest)) :
    ∀ e j (out : List Int), j + e = x.length → out.length + e + rest.length ≤ 1099511627776 → Ev (fun k => saleroomref01_Join.l1 k parts out (i : Int) (j : Int)) (out ++ x.drop j ++ rest) := by
  have hrd : rd_L1 parts (i : Int) = x := by simp [rd_L1, hi, hx]
  intro e
  induction e with
  | zero =>
    intro j out hj hl
    have e1 : x.drop j = [] := List.drop_eq_nil_of_le (by omega)
    rw [e1, List.append_nil]
    refine Ev.step (f := fun k => saleroomref01_Join.l0 k parts out ((i + 1 : Nat) : Int)) (fun k => ?_) (h0 out (by omega))
    simp only [saleroomref01_Join.l1]
    rw [if_pos (by omega), if_pos (by omega), hrd, if_neg (by omega), wrap_succ (by omega)]
  | succ e ih =>
    intro j out hj hl
    have hjl : j < x.length := by omega
    have e1 : x.drop j = x[j] :: x.drop (j + 1) := (List.getElem_cons_drop ..).symm
    have e2 : out ++ x.drop j ++ rest = out ++ [x[j]] ++ x.drop (j + 1) ++ rest := by rw [e1]; simp
    rw [e2]
    refine Ev.step (f := fun k => saleroomref01_Join.l1 k parts (out ++ [x[j]]) (i : Int) ((j + 1 : Nat) : Int)) (fun k => ?_) (ih (j + 1) (out ++ [x[j]]) (by omega) (by simp; omega))
    simp only [saleroomref01_Join.l1]
    rw [if_pos (by omega), if_pos (by omega), hrd, if_pos (by omega), if_pos (by omega), if_pos (by omega), wrap_succ (by omega)]
    have : rd x (j : Int) = x[j] := by simp [rd, hjl]
    rw [this]
theorem join_l0 (parts : List (List Int)) (hp : parts.length ≤ 1099511627776) : ∀ d i (out : List Int), i + d = parts.length → out.length + (parts.drop i).flatten.length ≤ 1099511627776 → Ev (fun k => saleroomref01_Join.l0 k parts out (i : Int)) (out ++ (parts.drop i).flatten) := by
  intro d
  induction d with
  | zero =>
    intro i out hi hl
    have e1 : parts.drop i = [] := List.drop_eq_nil_of_le (by omega)
    rw [e1, List.flatten_nil, List.append_nil]
    refine Ev.step (f := fun _ => some out) (fun k => ?_) (Ev.now _)
    simp only [saleroomref01_Join.l0]
    rw [if_neg (by omega)]
  | succ d ih =>
    intro i out hi hl
    have hil : i < parts.length := by omega
    have e1 : parts.drop i = parts[i] :: parts.drop (i + 1) := (List.getElem_cons_drop ..).symm
    rw [e1, List.flatten_cons, List.length_append] at hl
    rw [e1, List.flatten_cons, ← List.append_assoc]
    refine Ev.step (f := fun k => saleroomref01_Join.l1 k parts out (i : Int) 0) (fun k => ?_) ?_
    · simp only [saleroomref01_Join.l0]
      rw [if_pos (by omega)]
    · have := join_l1 parts i hil hp parts[i] rfl (by omega) ((parts.drop (i + 1)).flatten) (fun out' hl' => ih (i + 1) out' (by omega) hl') parts[i].length 0 out (by omega) (by omega)
      simpa using this
theorem join_ev (parts : List (List Int)) (hp : parts.length ≤ 1099511627776) (hl : parts.flatten.length ≤ 1099511627776) : Ev (fun k => saleroomref01_Join.f k parts) parts.flatten := by
  have := join_l0 parts hp parts.length 0 [] (by omega) (by simpa using hl)
  have h2 : Ev (fun k => saleroomref01_Join.l0 k parts [] 0) parts.flatten := by simpa using this
  exact h2

theorem uint_ev (n : Nat) (hn : n < 18446744073709551616) : Ev (fun k => saleroomref05_Uint.f k (n : Int)) (uv n) := by
  induction n using Nat.strongRecOn with
  | _ n ih =>
    by_cases h : n < 128
    · rw [uv_small h]
      refine Ev.step (f := fun _ => some [(n : Int)]) (fun k => ?_) (Ev.now _)
      simp only [saleroomref05_Uint.f]
      rw [if_pos (by omega)]
      congr 2
      omega
    · have hq : IntKind.u64.wrap (Int.tdiv (n : Int) 128) = ((n / 128 : Nat) : Int) := by rw [IntKind.wrap_u64, Int.tdiv_eq_ediv_of_nonneg (by omega)]; omega
      have hr : (IntKind.u64.wrap (128 + Int.tmod (n : Int) 128)) % 256 = ((128 + n % 128 : Nat) : Int) := by rw [IntKind.wrap_u64, Int.tmod_eq_emod_of_nonneg (by omega)]; omega
      have ih2 := ih (n / 128) (by omega) (by omega)
      have hul := uv_len10 (n := n / 128) (by omega)
      have hj := join_ev [[((128 + n % 128 : Nat) : Int)], uv (n / 128)] (by simp) (by simp; omega)
      have e : [[((128 + n % 128 : Nat) : Int)], uv (n / 128)].flatten = uv n := by rw [uv_great h]; simp
      rw [e] at hj
      refine Ev.step (f := fun k => (saleroomref05_Uint.f k ((n / 128 : Nat) : Int)).bind fun t => (saleroomref01_Join.f k [[((128 + n % 128 : Nat) : Int)], t]).bind fun u => some u) (fun k => ?_) (Ev.bind ih2 (Ev.bind hj (Ev.now _)))
      simp only [saleroomref05_Uint.f]
      rw [if_neg (by omega), hq, hr]
theorem int_ev (m : Int) (hm : -9223372036854775808 ≤ m ∧ m ≤ 9223372036854775807) : Ev (fun k => saleroomref05_Int.f k m) (uv (zz m)) := by
  have hz := uint_ev (zz m) (zz_lt hm)
  unfold saleroomref05_Int.f
  by_cases h : 0 ≤ m
  · have e : IntKind.u64.wrap (IntKind.u64.wrap m * 2) = (zz m : Int) := by unfold zz; rw [IntKind.wrap_u64, IntKind.wrap_u64, if_pos h]; omega
    refine Ev.congr (fun k => ?_) (Ev.bind hz (Ev.now _))
    rw [if_pos h, e]
  · have e : IntKind.u64.wrap (IntKind.u64.wrap (IntKind.u64.wrap (wrap64 (-(wrap64 (m + 1)))) * 2) + 1) = (zz m : Int) := by
      unfold zz wrap64
      rw [IntKind.wrap_u64, IntKind.wrap_u64, IntKind.wrap_u64, if_neg h]
      omega
    refine Ev.congr (fun k => ?_) (Ev.bind hz (Ev.now _))
    rw [if_neg h, e]
theorem bytes_ev (bs : List Int) (hl : bs.length ≤ 1073741824) : Ev (fun k => saleroomref05_Bytes.f k bs) (uv bs.length ++ bs) := by
  have hz := uint_ev bs.length (by omega)
  have e : IntKind.u64.wrap (bs.length : Int) = (bs.length : Int) := by rw [IntKind.wrap_u64]; omega
  have hul := uv_len10 (n := bs.length) (by omega)
  have hj := join_ev [uv bs.length, bs] (by simp) (by simp; omega)
  rw [show [uv bs.length, bs].flatten = uv bs.length ++ bs from by simp] at hj
  unfold saleroomref05_Bytes.f
  rw [e]
  exact Ev.bind hz (Ev.bind hj (Ev.now _))
theorem nums_l0 (ns : List Int) (hg : ∀ n ∈ ns, -9223372036854775808 ≤ n ∧ n ≤ 9223372036854775807) (hl : ns.length ≤ 1073741824) : ∀ d i (out : List Int), i + d = ns.length → out.length + d * 10 ≤ 274877906944 → Ev (fun k => saleroomref05_Nums.l0 k ns out (i : Int)) (out ++ (ns.drop i).flatMap fun x => uv (zz x)) := by
  intro d
  induction d with
  | zero =>
    intro i out hi _
    have e1 : ns.drop i = [] := List.drop_eq_nil_of_le (by omega)
    rw [e1, List.flatMap_nil, List.append_nil]
    refine Ev.step (f := fun _ => some out) (fun k => ?_) (Ev.now _)
    simp only [saleroomref05_Nums.l0]
    rw [if_neg (by omega)]
  | succ d ih =>
    intro i out hi hol
    have hil : i < ns.length := by omega
    have e1 : ns.drop i = ns[i] :: ns.drop (i + 1) := (List.getElem_cons_drop ..).symm
    have hgi := hg ns[i] (List.getElem_mem hil)
    have hul := uv_len10 (zz_lt hgi)
    rw [e1, List.flatMap_cons, ← List.append_assoc]
    have hrd : rd ns (i : Int) = ns[i] := by simp [rd, hil]
    generalize ns[i] = x at *
    have hj := join_ev [out, uv (zz x)] (by simp) (by simp; omega)
    rw [show [out, uv (zz x)].flatten = out ++ uv (zz x) from by simp] at hj
    refine Ev.step (f := fun k => (saleroomref05_Int.f k x).bind fun t => (saleroomref01_Join.f k [out, t]).bind fun u => saleroomref05_Nums.l0 k ns u ((i + 1 : Nat) : Int)) (fun k => ?_) (Ev.bind (int_ev x hgi) (Ev.bind hj (ih (i + 1) _ (by omega) (by simp; omega))))
    simp only [saleroomref05_Nums.l0]
    rw [if_pos (by omega), if_pos (by omega), hrd, wrap_succ (by omega)]
theorem nums_ev (ns : List Int) (hg : ∀ n ∈ ns, -9223372036854775808 ≤ n ∧ n ≤ 9223372036854775807) (hl : ns.length ≤ 1073741824) : Ev (fun k => saleroomref05_Nums.f k ns) (uv ns.length ++ ns.flatMap fun x => uv (zz x)) := by
  have hz := uint_ev ns.length (by omega)
  have e : IntKind.u64.wrap (ns.length : Int) = (ns.length : Int) := by rw [IntKind.wrap_u64]; omega
  have hul := uv_len10 (n := ns.length) (by omega)
  unfold saleroomref05_Nums.f
  rw [e]
  have := nums_l0 ns hg hl ns.length 0 (uv ns.length) (by omega) (by omega)
  exact Ev.bind hz (by simpa using this)
theorem same_l0 (xs : List Int) (hl : xs.length ≤ 1099511627776) : ∀ d i, i + d = xs.length → Ev (fun k => saleroomref01_Same.l0 k xs xs (i : Int)) true := by
  intro d
  induction d with
  | zero =>
    intro i hi
    refine Ev.step (f := fun _ => some true) (fun k => ?_) (Ev.now _)
    simp only [saleroomref01_Same.l0]
    rw [if_neg (by omega)]
  | succ d ih =>
    intro i hi
    refine Ev.step (f := fun k => saleroomref01_Same.l0 k xs xs ((i + 1 : Nat) : Int)) (fun k => ?_) (ih (i + 1) (by omega))
    simp only [saleroomref01_Same.l0]
    rw [if_pos (by omega), if_pos (by omega), if_pos (by omega), if_pos trivial, wrap_succ (by omega)]
theorem same_ev (xs : List Int) (hl : xs.length ≤ 1099511627776) : Ev (fun k => saleroomref01_Same.f k xs xs) true := by
  refine Ev.congr (fun k => ?_) (same_l0 xs hl xs.length 0 (by omega))
  simp only [saleroomref01_Same.f]
  rw [if_pos trivial]
  rfl

end Go.Proofs.Ytbhpokcnkdgcmaa.Cod
