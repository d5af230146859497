/- ledger: Total, Same. -/
import Derived.Test.YtmdacfgofilbdaaLed2
import Derived.Test.YtmdacfgofilbdaaTabB9
import Derived.Test.YtmdacfgofilbdaaRan3
import Derived.Test.YtmdacfgofilbdaaWEqStruct
import Derived.BigQuiet
set_option linter.unusedSimpArgs false
set_option linter.unusedVariables false
namespace Go.Proofs.Ytmdacfgofilbdaa.Led
open Go.RowKit Go.Proofs.Ytmdacfgofilbdaa.TabL Go.Proofs.YtmdacfgofilbdaaW.PrintWords Go.Proofs.Ytmdacfgofilbdaa.PHoldPlays
open Go.Proofs.Ytmdacfgofilbdaa.TabB (ltI lin getV TMg ek ev Gives2 all_gives)
attribute [local go_sem] Oper.semAt_some

abbrev d0 : Int × Int := (0, 0)
theorem kt_own {b : Nat} {t : TypeId} (w0 : World) : OwnFrom b (fun (_ : Unit) W => KT t w0 W) := fun s A B row h hg hr =>
  h.trans (KT.grown hg (fun r e => by
    obtain ⟨_, o, ho, hno⟩ := hr r e
    refine ⟨o, ho, fun cs fr e2 => ?_⟩
    subst e2
    simp [Obj.isCells] at hno))
theorem lall_any (W : World) (p : Nat) :
    Calls Try.prog 66 #[.pointer (some ⟨p, 0, none⟩)] W fun e w' => e = .returned (.func (.func 102) #[] #[.pointer (some ⟨W.heap.size, 0, none⟩)]) ∧ w' = W.alloc (.cells #[.pointer (some ⟨p, 0, none⟩)] 129) := by
  go_enter Try.func66, Try.ntmps66
  go_wp2_with fail
  refine (TabB.all_any W _).mono ?_; rintro e w1 ⟨rfl, hw1⟩
  have HW := Lib.hid hw1
  clear hw1
  go_wp2_with fail
  go_ret
  exact ⟨rfl, HW.out⟩
def cP2 (q : Int × Int) : List Value := [.int .i64 q.1, .int .i64 q.2]
/-- all balances added up -/
def sumL (xs : Bs) : Int := xs.foldl (fun s q => s + q.2) 0
theorem sumL_snoc (xs : Bs) (q : Int × Int) : sumL (xs ++ [q]) = sumL xs + q.2 := by unfold sumL; rw [List.foldl_append]; rfl
theorem sumL_take {xs : Bs} {k : Nat} (hk : k < xs.length) : sumL (xs.take (k + 1)) = sumL (xs.take k) + (xs.getD k d0).2 := by
  rw [List.take_succ_eq_append_getElem hk, sumL_snoc]
  simp [List.getD, hk]
def InB (xs : Bs) : Prop := ∀ q ∈ xs, -70368744177664 ≤ q.2 ∧ q.2 ≤ 70368744177664
theorem sumL_bnd {xs : Bs} (h : InB xs) : ∀ k, k ≤ xs.length → -70368744177664 * (k : Int) ≤ sumL (xs.take k) ∧ sumL (xs.take k) ≤ 70368744177664 * (k : Int) := fun k => by
  induction k with
  | zero => intro _; simp [sumL]
  | succ k ih =>
    intro hk
    have h1 := ih (by omega)
    have h2 := h _ (List.getElem_mem (l := xs) (n := k) (by omega))
    rw [sumL_take (by omega)]
    have e : xs.getD k d0 = xs[k] := by simp [List.getD, (show k < xs.length by omega)]
    rw [e]
    omega
/-- what Total holds while it goes on -/
def SI (W : World) (z : Nat) (s : Int) (W' : World) : Prop := Blk W' z 2 [.int .i64 s] ∧ Below W.heap.size W W'
theorem SI.ownF (W : World) (z : Nat) (s : Int) {b : Nat} (hb : W.heap.size ≤ b) : OwnFrom b (fun (_ : Unit) W' => SI W z s W') :=
  OwnFrom.and (Own.from (blk_own _ _ (fun _ => _)) _) (ownFrom_below (Nat.le_refl _) hb)
set_option maxRecDepth 100000 in
set_option maxHeartbeats 4000000 in
theorem total_any (W : World) (p : Nat) (xs : Bs) {tt : TypeId} (h : TMg tt W p xs) (hb : InB xs) (hl : xs.length ≤ 100000) :
    Calls Try.prog 28 #[.pointer (some ⟨p, 0, none⟩)] W fun e w' => e = .returned (.int .i64 (sumL xs)) ∧ Below W.heap.size W w' := by
  obtain ⟨q, T0, hbp, hT, hx⟩ := id h
  refine (callsIn_wide (n := 4)).1 ?_
  refine callsIn_of_wp_marks Try.func28 rfl trivial ?_ rfl
  refine wpIn_wide.2 ?_
  simp only [Try.ntmps28, List.size_toArray, List.length_cons, List.length_nil, Nat.reduceAdd, Nat.reduceSub, Array.replicate_succ, Array.replicate_zero, List.push_toArray, List.append_toArray, List.nil_append, List.cons_append]
  go_wp2_with fail
  have hal1 : Below W.heap.size W (W.alloc (.cells #[.int .i64 0] 2)) := (Below.refl _ W).alloc (Nat.le_refl _) _
  have bz := Blk.new W [.int .i64 0] 2
  obtain ⟨w1, hw1⟩ : ∃ w1, W.alloc (.cells #[.int .i64 0] 2) = w1 := ⟨_, rfl⟩
  have hz1 : w1.heap.size = W.heap.size + 1 := by rw [← hw1]; simp
  rw [hw1] at hal1 bz ⊢
  clear hw1
  refine (lall_any w1 p).mono ?_; rintro e w2 ⟨rfl, hw2⟩
  have hal2 : Below w1.heap.size w1 w2 := by rw [hw2]; exact (Below.refl _ w1).alloc (Nat.le_refl _) _
  have bB : Blk w2 w1.heap.size 129 [.pointer (some ⟨p, 0, none⟩)] := by rw [hw2]; exact Blk.new w1 _ _
  have hz2 : w2.heap.size = W.heap.size + 2 := by rw [hw2, World.size_alloc, hz1]
  have hB2 := hal1.trans (hal2.mono hal1.size)
  have bz2 := bz.belowS hal2
  have hG := all_gives W w1.heap.size p q T0 hT
  rw [hx] at hG
  have cB := bB.cell (i := 0) rfl
  have cp : w2.cell? ⟨p, 0, none⟩ = some (.pointer q) := (hbp.belowS hB2).cell (i := 0) rfl
  have HCP := Lib.hid (show ∀ w', Below W.heap.size W w' → w'.cell? ⟨p, 0, none⟩ = some (.pointer q) from fun w' hb => (hbp.belowS hb).cell (i := 0) rfl)
  obtain ⟨g, hg⟩ : ∃ g, w1.heap.size = g := ⟨_, rfl⟩
  rw [hg] at hG cB hz1 ⊢
  subst hz1
  have hS0 : SI W W.heap.size (sumL (xs.take 0)) w2 := ⟨bz2, hB2⟩
  have HBN := Lib.hid hb
  clear hw2 hal1 bz bz2 hal2 hB2 bB hg h hbp hT hx
  go_wp2_with fail
  have hsO : ∀ s, OwnFrom w2.heap.size (fun (_ : Unit) W' => SI W W.heap.size s W') := fun s => SI.ownF W _ s (by omega)
  refine wpIn_wide.1 (range_gen (F := Fence.wide) (n := 4) rfl (by omega) (gf := 102) (lb := #[.pointer (some ⟨W.heap.size + 1, 0, none⟩)]) rfl trivial hG.1 (encs := fun k : Nat => #[ek (xs.getD k d0).1, ev (xs.getD k d0).2]) (fun _ => rfl)
    (fun W' => (W'.cell? ⟨W.heap.size + 1, 0, none⟩ = some (.pointer (some ⟨p, 0, none⟩)) ∧ W'.cell? ⟨p, 0, none⟩ = some (.pointer q)) ∧ SI W W.heap.size (sumL (xs.take 0)) W')
    (fun k W' => k < xs.length ∧ SI W W.heap.size (sumL (xs.take k)) W')
    (fun k W' => SI W W.heap.size (sumL (xs.take (k + 1))) W')
    (fun c W' => False)
    (fun W' => SI W W.heap.size (sumL (xs.take xs.length)) W')
    (fun k a' W' => a' = { tmps := #[.pointer (some ⟨p, 0, none⟩), undef, .int .i64 0, .pointer (some ⟨W.heap.size, 0, none⟩), undef, ev (xs.getD k d0).2, .pointer (some ⟨p, 0, none⟩), .func (.func 102) #[] #[.pointer (some ⟨W.heap.size + 1, 0, none⟩)], ek (xs.getD k d0).1, ev (xs.getD k d0).2, undef, undef, undef, undef], defers := [] } ∧ k < xs.length ∧ SI W W.heap.size (sumL (xs.take k)) W')
    (OwnFrom.and (OwnFrom.and (cell_own _ _) (cell_own _ _)) (hsO _))
    (fun k => hsO _)
    (fun c _ _ _ _ hs _ _ => hs)
    (hsO _)
    (fun k a' => OwnFrom.and (fun _ _ _ _ hs _ _ => hs) (OwnFrom.and (fun _ _ _ _ hs _ _ => hs) (hsO _)))
    ⟨⟨cB, cp⟩, hS0⟩
    (hG.2 3 (fun k W' => SI W W.heap.size (sumL (xs.take k)) W') (fun k W' h => KT.below h.2)
      (fun k W' j h => hsO _ () W' _ none h ⟨rfl, rfl, rfl, Nat.le_refl _, fun _ _ _ => rfl⟩ (fun r e => by cases e)))
    ?assign ?body ?done ?stop)
  case assign =>
    rintro l k W' K ⟨hk, hP⟩ hK
    obtain ⟨⟨x, y⟩, hx⟩ : ∃ x, xs.getD k d0 = x := ⟨_, rfl⟩
    rw [hx] at hK ⊢
    unfold ek ev at hK ⊢
    gi_wp2
    exact hK _ _ (KeepsFrom.refl _ _) ⟨rfl, hk, hP⟩
  case body =>
    rintro l k a' W' hl' hr ⟨rfl, hk, hz, hB⟩
    have hst := sumL_take hk
    have hb1 := sumL_bnd HBN.out k (by omega)
    have hb2 := sumL_bnd HBN.out (k + 1) (by omega)
    have hbs := hB.size
    obtain ⟨⟨x, y⟩, hx⟩ : ∃ x, xs.getD k d0 = x := ⟨_, rfl⟩
    rw [hx] at hst ⊢
    obtain ⟨s, hs⟩ : ∃ s, sumL (xs.take k) = s := ⟨_, rfl⟩
    rw [hs] at hst hb1 hz
    have g1 : -9223372036854775808 ≤ s + y := by omega
    have g2 : s + y ≤ 9223372036854775807 := by omega
    have cz := hz.cell (i := 0) rfl
    have fz := hz.frozen 0
    have HP := Lib.hid (show KeepsFrom w2.heap.size W' (W'.setCell ⟨W.heap.size, 0, none⟩ (.int .i64 (s + y))) ∧ SI W W.heap.size (sumL (xs.take (k + 1))) (W'.setCell ⟨W.heap.size, 0, none⟩ (.int .i64 (s + y))) from
      ⟨KeepsFrom.of_grownBy (grownBy_setAt W' _ 0 _) (fun j e => by cases e; omega), by rw [hst]; exact hz.set 0 _, hB.setCell (p := ⟨W.heap.size, 0, none⟩) (Nat.le_refl _) _⟩)
    unfold ek ev
    clear hst hb1 hb2 hx hs hz hB hsO
    gi_wp2
    exact HP.out
  case done =>
    rintro D W' hD ⟨hz, hB⟩ hK
    have cz := hz.cell (i := 0) rfl
    rw [List.take_length] at cz
    go_wp2
    refine ⟨by simp, .inl ⟨_, _, rfl, run_takeDeferred hK, ?_⟩⟩
    exact ⟨_, results_tmp rfl _ _ _, rfl, hB.trans (belowK_b (w := w2) (by omega) W' D _ _ hD hK rfl rfl)⟩
  case stop =>
    rintro D c W' hD hF hK
    exact hF.elim

theorem rd_pair {W : World} {n₀ : Nat} {sv : Value} {ops : Bs} {j : Nat} {o : Int × Int} (hR : Rd cP2 2 n₀ W sv ops) (hj : ops[j]? = some o) : ∃ b off c, sv = .slice (some ⟨b, off, none⟩) ops.length c ∧ b < n₀ ∧ W.cell? ⟨b, off + j * 2, none⟩ = some (.int .i64 o.1) ∧ W.cell? ⟨b, off + j * 2 + 1, none⟩ = some (.int .i64 o.2) := by
  rcases hR with ⟨a, cap, rfl, rfl⟩ | ⟨b, off, cap, rfl, hlt, hc⟩
  · simp at hj
  · exact ⟨b, off, cap, rfl, hlt, hc j _ hj 0 _ rfl, hc j _ hj 1 _ rfl⟩
theorem eqBal (d : Nat) (w : World) (x0 y0 : Int) (x1 y1 : Int) : (Op.equalIn (d + 2) 105 (.agg #[.int .i64 x0, .int .i64 x1]) (.agg #[.int .i64 y0, .int .i64 y1])).run Try.prog w = .ok (x0 == y0 && (x1 == y1)) w := by
  refine eqA_of Try.underlying105 (by kernel_rfl) ?_
  refine eqf_cons (by rfl) (by go_simp; rfl) (by go_simp; rfl) (by go_simp) ?_
  exact eqf_last (by rfl) (by go_simp; rfl) (by go_simp; rfl) (by go_simp)
attribute [local go_sem high] eqBal
set_option maxRecDepth 100000 in
set_option maxHeartbeats 4000000 in
theorem equal_any (W : World) (A1 A2 : Option Addr) (c1 c2 : Nat) (xs ys : Bs) (hl : xs.length ≤ 1000000000) (h1 : Rd cP2 2 W.heap.size W (.slice A1 xs.length c1) xs) (h2 : Rd cP2 2 W.heap.size W (.slice A2 ys.length c2) ys) :
    Calls Try.prog 63 #[.slice A1 xs.length c1, .slice A2 ys.length c2] W fun e w' => e = .returned (.bool (decide (xs = ys))) ∧ Below W.heap.size W w' := by
  by_cases hlen : xs.length = ys.length
  · have H1 := Lib.hid h1; have H2 := Lib.hid h2
    rw [← hlen] at H2 ⊢
    obtain ⟨r, hr⟩ : ∃ r, decide (xs = ys) = r := ⟨_, rfl⟩
    rw [hr]
    have HR := Lib.hid hr
    clear hr
    have HL := Lib.hid hlen
    clear hlen h1 h2
    go_enter Try.func63, Try.ntmps63
    go_wp2_with fail
    go_loopw [13] (fun i wr => ∃ k : Nat, i = .int .i64 (k : Int) ∧ k ≤ xs.length ∧ (∀ j, j < k → xs[j]? = ys[j]?) ∧ Below W.heap.size W wr)
      (fun i _ => xs.length - (match i with | .int _ n => n.toNat | _ => 0))
    case atStart => exact ⟨0, rfl, Nat.zero_le _, fun j h => by omega, Below.refl _ _⟩
    case round =>
      obtain ⟨k, rfl, hk, hz, hB⟩ := hrel
      have HZ := Lib.hid hz; have HB := Lib.hid hB
      clear hz hB
      by_cases hlt : k < xs.length
      · obtain ⟨⟨x0, x1⟩, hgx⟩ : ∃ o, xs[k]? = some o := ⟨_, List.getElem?_eq_getElem hlt⟩
        obtain ⟨⟨y0, y1⟩, hgy⟩ : ∃ o, ys[k]? = some o := ⟨_, List.getElem?_eq_getElem (by rw [← HL.out]; exact hlt)⟩
        obtain ⟨b1, o1, d1, e1, hl1, p0, p1⟩ := rd_pair (H1.out.below HB.out) hgx
        obtain ⟨b2, o2, d2, e2, hl2, q0, q1⟩ := rd_pair (H2.out.below HB.out) hgy
        obtain ⟨rfl, rfl⟩ : A1 = some ⟨b1, o1, none⟩ ∧ c1 = d1 := by injection e1 with e1 e2 e3; exact ⟨e1, e3⟩
        obtain ⟨rfl, rfl⟩ : A2 = some ⟨b2, o2, none⟩ ∧ c2 = d2 := by injection e2 with e1 e2 e3; exact ⟨e1, e3⟩
        have HGX := Lib.hid hgx; have HGY := Lib.hid hgy
        clear hgx hgy e1 e2
        by_cases hE : x0 = y0 ∧ x1 = y1
        · obtain ⟨rfl, rfl⟩ := hE
          go_wp2_with fail
          go_quiet (fail)
          go_wp2_with fail
          go_roundw
          case rel => exact ⟨k + 1, by congr 1, by omega, fun j hj => by
            by_cases e : j = k
            · subst e; rw [HGX.out, HGY.out]
            · exact HZ.out j (by omega), by have h := HB.out; exact ⟨h.os, h.tape, h.output, h.size, h.block⟩⟩
          case measure => simp; omega
        · have hq : (x0 == y0 && (x1 == y1)) = false := by simpa using hE
          have hne : decide (xs = ys) = false := decide_eq_false (fun e => hE (by have h1 := HGX.out; rw [e, HGY.out] at h1; injection h1 with h1; injection h1 with a b; exact ⟨a.symm, b.symm⟩))
          obtain rfl : r = false := HR.out.symm.trans hne
          clear hne HR
          go_wp2_with fail
          go_quiet (fail)
          all_goals
            go_wp2_with fail
            go_ret
            exact ⟨rfl, by have h := HB.out; exact ⟨h.os, h.tape, h.output, h.size, h.block⟩⟩
      · obtain rfl : k = xs.length := by omega
        have he : decide (xs = ys) = true := decide_eq_true (List.ext_getElem? fun j => by
          by_cases hj : j < xs.length
          · exact HZ.out j hj
          · rw [List.getElem?_eq_none (by omega), List.getElem?_eq_none (by rw [← HL.out]; omega)])
        obtain rfl : r = true := HR.out.symm.trans he
        clear he HR
        go_wp2_with fail
        go_ret
        exact ⟨rfl, HB.out⟩
  · have hne : decide (xs = ys) = false := decide_eq_false (fun e => hlen (by rw [e]))
    have hli : ((xs.length : Int) == (ys.length : Int)) = false := by simp; omega
    have hli2 : ((xs.length : Int) != (ys.length : Int)) = true := by simp; omega
    rw [hne]
    clear hne
    go_enter Try.func63, Try.ntmps63
    go_wp2_with fail
    go_ret
    exact ⟨rfl, Below.refl _ _⟩

end Go.Proofs.Ytmdacfgofilbdaa.Led
