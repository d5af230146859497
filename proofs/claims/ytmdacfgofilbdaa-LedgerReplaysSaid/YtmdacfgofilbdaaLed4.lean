/- ledger: Total, Same. -/
import Derived.Test.YtmdacfgofilbdaaLed2
import Derived.Test.YtmdacfgofilbdaaTabB9
import Derived.Test.YtmdacfgofilbdaaWEqStruct
import Derived.BigQuiet
set_option linter.unusedSimpArgs false
set_option linter.unusedVariables false
namespace Go.Proofs.Ytmdacfgofilbdaa.Led
open Go.RowKit Go.Proofs.Ytmdacfgofilbdaa.TabL Go.Proofs.YtmdacfgofilbdaaW.PrintWords Go.Proofs.Ytmdacfgofilbdaa.PHoldPlays
open Go.Proofs.Ytmdacfgofilbdaa.TabB (ltI lin getV TMg ek ev Gives2 all_gives)
attribute [local go_sem] Oper.semAt_some

abbrev d0 : Int × Int := (0, 0)
theorem lall_any (W : World) (p : Nat) :
    Calls Try.prog 66 #[.pointer (some ⟨p, 0, none⟩)] W fun e w' => e = .returned (.func (.func 102) #[] #[.pointer (some ⟨W.heap.size, 0, none⟩)]) ∧ w' = W.alloc (.cells #[.pointer (some ⟨p, 0, none⟩)] 129) := by
  go_enter Try.func66, Try.ntmps66
  go_wp2_with fail
  refine (TabB.all_any W _).mono ?_; rintro e w1 ⟨rfl, hw1⟩
  have HW := Lib.hid hw1
  clear hw1
  go_wp2_with fail
  go_ret
  exact ⟨rfl, HW.out⟩
def cP2 (q : Int × Int) : List Value := [.int .i64 q.1, .int .i64 q.2]
/-- all balances added up -/
def sumL (xs : Bs) : Int := xs.foldl (fun s q => s + q.2) 0
theorem sumL_snoc (xs : Bs) (q : Int × Int) : sumL (xs ++ [q]) = sumL xs + q.2 := by unfold sumL; rw [List.foldl_append]; rfl
theorem sumL_take {xs : Bs} {k : Nat} (hk : k < xs.length) : sumL (xs.take (k + 1)) = sumL (xs.take k) + (xs.getD k d0).2 := by
  rw [List.take_succ_eq_append_getElem hk, sumL_snoc]
  simp [List.getD, hk]
def InB (xs : Bs) : Prop := ∀ q ∈ xs, -70368744177664 ≤ q.2 ∧ q.2 ≤ 70368744177664
theorem sumL_bnd {xs : Bs} (h : InB xs) : ∀ k, k ≤ xs.length → -70368744177664 * (k : Int) ≤ sumL (xs.take k) ∧ sumL (xs.take k) ≤ 70368744177664 * (k : Int) := fun k => by
  induction k with
  | zero => intro _; simp [sumL]
  | succ k ih =>
    intro hk
    have h1 := ih (by omega)
    have h2 := h _ (List.getElem_mem (l := xs) (n := k) (by omega))
    rw [sumL_take (by omega)]
    have e : xs.getD k d0 = xs[k] := by simp [List.getD, (show k < xs.length by omega)]
    rw [e]
    omega
/-- what Total holds while it goes on -/
def SI (W : World) (z : Nat) (s : Int) (W' : World) : Prop := Blk W' z 2 [.int .i64 s] ∧ Below W.heap.size W W'
theorem SI.ownF (W : World) (z : Nat) (s : Int) {b : Nat} (hb : W.heap.size ≤ b) : OwnFrom b (fun (_ : Unit) W' => SI W z s W') :=
  OwnFrom.and (Own.from (blk_own _ _ (fun _ => _)) _) (ownFrom_below (Nat.le_refl _) hb)
set_option maxRecDepth 100000 in
set_option maxHeartbeats 4000000 in
theorem total_any (W : World) (p : Nat) (xs : Bs) {tt : TypeId} (h : TMg tt W p xs) (hb : InB xs) (hl : xs.length ≤ 100000) :
    Calls Try.prog 28 #[.pointer (some ⟨p, 0, none⟩)] W fun e w' => e = .returned (.int .i64 (sumL xs)) ∧ Below W.heap.size W w' := by
  obtain ⟨q, T0, hbp, hT, hx⟩ := id h
  refine (callsIn_wide (n := 4)).1 ?_
  refine callsIn_of_wp_marks Try.func28 rfl trivial ?_ rfl
  refine wpIn_wide.2 ?_
  simp only [Try.ntmps28, List.size_toArray, List.length_cons, List.length_nil, Nat.reduceAdd, Nat.reduceSub, Array.replicate_succ, Array.replicate_zero, List.push_toArray, List.append_toArray, List.nil_append, List.cons_append]
  go_wp2_with fail
  have hal1 : Below W.heap.size W (W.alloc (.cells #[.int .i64 0] 2)) := (Below.refl _ W).alloc (Nat.le_refl _) _
  have bz := Blk.new W [.int .i64 0] 2
  obtain ⟨w1, hw1⟩ : ∃ w1, W.alloc (.cells #[.int .i64 0] 2) = w1 := ⟨_, rfl⟩
  have hz1 : w1.heap.size = W.heap.size + 1 := by rw [← hw1]; simp
  rw [hw1] at hal1 bz ⊢
  clear hw1
  refine (lall_any w1 p).mono ?_; rintro e w2 ⟨rfl, hw2⟩
  have hal2 : Below w1.heap.size w1 w2 := by rw [hw2]; exact (Below.refl _ w1).alloc (Nat.le_refl _) _
  have bB : Blk w2 w1.heap.size 129 [.pointer (some ⟨p, 0, none⟩)] := by rw [hw2]; exact Blk.new w1 _ _
  have hz2 : w2.heap.size = W.heap.size + 2 := by rw [hw2, World.size_alloc, hz1]
  have hB2 := hal1.trans (hal2.mono hal1.size)
  have bz2 := bz.belowS hal2
  have hG := all_gives W w1.heap.size p q T0 hT
  rw [hx] at hG
  have cB := bB.cell (i := 0) rfl
  have cp : w2.cell? ⟨p, 0, none⟩ = some (.pointer q) := (hbp.belowS hB2).cell (i := 0) rfl
  have HCP := Lib.hid (show ∀ w', Below W.heap.size W w' → w'.cell? ⟨p, 0, none⟩ = some (.pointer q) from fun w' hb => (hbp.belowS hb).cell (i := 0) rfl)
  obtain ⟨g, hg⟩ : ∃ g, w1.heap.size = g := ⟨_, rfl⟩
  rw [hg] at hG cB hz1 ⊢
  subst hz1
  have hS0 : SI W W.heap.size (sumL (xs.take 0)) w2 := ⟨bz2, hB2⟩
  have HBN := Lib.hid hb
  clear hw2 hal1 bz bz2 hal2 hB2 bB hg h hbp hT hx
  go_wp2_with fail
  have hsO : ∀ s, OwnFrom w2.heap.size (fun (_ : Unit) W' => SI W W.heap.size s W') := fun s => SI.ownF W _ s (by omega)
  refine wpIn_wide.1 (range_gen (F := Fence.wide) (n := 4) rfl (by omega) (gf := 102) (lb := #[.pointer (some ⟨W.heap.size + 1, 0, none⟩)]) rfl trivial hG.1 (encs := fun k : Nat => #[ek (xs.getD k d0).1, ev (xs.getD k d0).2]) (fun _ => rfl)
    (fun W' => (W'.cell? ⟨W.heap.size + 1, 0, none⟩ = some (.pointer (some ⟨p, 0, none⟩)) ∧ W'.cell? ⟨p, 0, none⟩ = some (.pointer q)) ∧ SI W W.heap.size (sumL (xs.take 0)) W')
    (fun k W' => k < xs.length ∧ SI W W.heap.size (sumL (xs.take k)) W')
    (fun k W' => SI W W.heap.size (sumL (xs.take (k + 1))) W')
    (fun c W' => False)
    (fun W' => SI W W.heap.size (sumL (xs.take xs.length)) W')
    (fun k a' W' => a' = { tmps := #[.pointer (some ⟨p, 0, none⟩), undef, .int .i64 0, .pointer (some ⟨W.heap.size, 0, none⟩), undef, ev (xs.getD k d0).2, .pointer (some ⟨p, 0, none⟩), .func (.func 102) #[] #[.pointer (some ⟨W.heap.size + 1, 0, none⟩)], ek (xs.getD k d0).1, ev (xs.getD k d0).2, undef, undef, undef, undef], defers := [] } ∧ k < xs.length ∧ SI W W.heap.size (sumL (xs.take k)) W')
    (OwnFrom.and (OwnFrom.and (cell_own _ _) (cell_own _ _)) (hsO _))
    (fun k => hsO _)
    (fun c _ _ _ _ hs _ _ => hs)
    (hsO _)
    (fun k a' => OwnFrom.and (fun _ _ _ _ hs _ _ => hs) (OwnFrom.and (fun _ _ _ _ hs _ _ => hs) (hsO _)))
    ⟨⟨cB, cp⟩, hS0⟩
    (hG.2 3 (fun k W' => SI W W.heap.size (sumL (xs.take k)) W') (fun k W' h => KT.below h.2)
      (fun k W' j h => hsO _ () W' _ none h ⟨rfl, rfl, rfl, Nat.le_refl _, fun _ _ _ => rfl⟩ (fun r e => by cases e)))
    ?assign ?body ?done ?stop)
  case assign =>
    rintro l k W' K ⟨hk, hP⟩ hK
    obtain ⟨⟨x, y⟩, hx⟩ : ∃ x, xs.getD k d0 = x := ⟨_, rfl⟩
    rw [hx] at hK ⊢
    unfold ek ev at hK ⊢
    gi_wp2
    exact hK _ _ (KeepsFrom.refl _ _) ⟨rfl, hk, hP⟩
  case body =>
    rintro l k a' W' hl' hr ⟨rfl, hk, hz, hB⟩
    have hst := sumL_take hk
    have hb1 := sumL_bnd HBN.out k (by omega)
    have hb2 := sumL_bnd HBN.out (k + 1) (by omega)
    have hbs := hB.size
    obtain ⟨⟨x, y⟩, hx⟩ : ∃ x, xs.getD k d0 = x := ⟨_, rfl⟩
    rw [hx] at hst ⊢
    obtain ⟨s, hs⟩ : ∃ s, sumL (xs.take k) = s := ⟨_, rfl⟩
    rw [hs] at hst hb1 hz
    have g1 : -9223372036854775808 ≤ s + y := by omega
    have g2 : s + y ≤ 9223372036854775807 := by omega
    have cz := hz.cell (i := 0) rfl
    have fz := hz.frozen 0
    have HP := Lib.hid (show KeepsFrom w2.heap.size W' (W'.setCell ⟨W.heap.size, 0, none⟩ (.int .i64 (s + y))) ∧ SI W W.heap.size (sumL (xs.take (k + 1))) (W'.setCell ⟨W.heap.size, 0, none⟩ (.int .i64 (s + y))) from
      ⟨KeepsFrom.of_grownBy (grownBy_setAt W' _ 0 _) (fun j e => by cases e; omega), by rw [hst]; exact hz.set 0 _, hB.setCell (p := ⟨W.heap.size, 0, none⟩) (Nat.le_refl _) _⟩)
    unfold ek ev
    clear hst hb1 hb2 hx hs hz hB hsO
    gi_wp2
    exact HP.out
  case done =>
    rintro D W' hD ⟨hz, hB⟩ hK
    have cz := hz.cell (i := 0) rfl
    rw [List.take_length] at cz
    go_wp2
    refine ⟨by simp, .inl ⟨_, _, rfl, run_takeDeferred hK, ?_⟩⟩
    exact ⟨_, results_tmp rfl _ _ _, rfl, hB.trans (belowK_b (w := w2) (by omega) W' D _ _ hD hK rfl rfl)⟩
  case stop =>
    rintro D c W' hD hF hK
    exact hF.elim

theorem rd_pair {W : World} {n₀ : Nat} {sv : Value} {ops : Bs} {j : Nat} {o : Int × Int} (hR : Rd cP2 2 n₀ W sv ops) (hj : ops[j]? = some o) : ∃ b off c, sv = .slice (some ⟨b, off, none⟩) ops.length c ∧ b < n₀ ∧ W.cell? ⟨b, off + j * 2, none⟩ = some (.int .i64 o.1) ∧ W.cell? ⟨b, off + j * 2 + 1, none⟩ = some (.int .i64 o.2) := by
  rcases hR with ⟨a, cap, rfl, rfl⟩ | ⟨b, off, cap, rfl, hlt, hc⟩
  · simp at hj
  · exact ⟨b, off, cap, rfl, hlt, hc j _ hj 0 _ rfl, hc j _ hj 1 _ rfl⟩
theorem eqBal (d : Nat) (w : World) (x0 y0 : Int) (x1 y1 : Int) : (Op.equalIn (d + 2) 105 (.agg #[.int .i64 x0, .int .i64 x1]) (.agg #[.int .i64 y0, .int .i64 y1])).run Try.prog w = .ok (x0 == y0 && (x1 == y1)) w := by
  refine eqA_of Try.underlying105 (by kernel_rfl) ?_
  refine eqf_cons (by rfl) (by go_simp; rfl) (by go_simp; rfl) (by go_simp) ?_
  exact eqf_last (by rfl) (by go_simp; rfl) (by go_simp; rfl) (by go_simp)
attribute [local go_sem high] eqBal
set_option maxRecDepth 100000 in
set_option maxHeartbeats 4000000 in
theorem equal_any (W : World) (A1 A2 : Option Addr) (c1 c2 : Nat) (xs ys : Bs) (hl : xs.length ≤ 1000000000) (h1 : Rd cP2 2 W.heap.size W (.slice A1 xs.length c1) xs) (h2 : Rd cP2 2 W.heap.size W (.slice A2 ys.length c2) ys) :
    Calls Try.prog 63 #[.slice A1 xs.length c1, .slice A2 ys.length c2] W fun e w' => e = .returned (.bool (decide (xs = ys))) ∧ Below W.heap.size W w' := by
  by_cases hlen : xs.length = ys.length
  · have H1 := Lib.hid h1; have H2 := Lib.hid h2
    rw [← hlen] at H2 ⊢
    obtain ⟨r, hr⟩ : ∃ r, decide (xs = ys) = r := ⟨_, rfl⟩
    rw [hr]
    have HR := Lib.hid hr
    clear hr
    have HL := Lib.hid hlen
    clear hlen h1 h2
    go_enter Try.func63, Try.ntmps63
    go_wp2_with fail
    go_loopw [13] (fun i wr => ∃ k : Nat, i = .int .i64 (k : Int) ∧ k ≤ xs.length ∧ (∀ j, j < k → xs[j]? = ys[j]?) ∧ Below W.heap.size W wr)
      (fun i _ => xs.length - (match i with | .int _ n => n.toNat | _ => 0))
    case atStart => exact ⟨0, rfl, Nat.zero_le _, fun j h => by omega, Below.refl _ _⟩
    case round =>
      obtain ⟨k, rfl, hk, hz, hB⟩ := hrel
      have HZ := Lib.hid hz; have HB := Lib.hid hB
      clear hz hB
      by_cases hlt : k < xs.length
      · obtain ⟨⟨x0, x1⟩, hgx⟩ : ∃ o, xs[k]? = some o := ⟨_, List.getElem?_eq_getElem hlt⟩
        obtain ⟨⟨y0, y1⟩, hgy⟩ : ∃ o, ys[k]? = some o := ⟨_, List.getElem?_eq_getElem (by rw [← HL.out]; exact hlt)⟩
        obtain ⟨b1, o1, d1, e1, hl1, p0, p1⟩ := rd_pair (H1.out.below HB.out) hgx
        obtain ⟨b2, o2, d2, e2, hl2, q0, q1⟩ := rd_pair (H2.out.below HB.out) hgy
        obtain ⟨rfl, rfl⟩ : A1 = some ⟨b1, o1, none⟩ ∧ c1 = d1 := by injection e1 with e1 e2 e3; exact ⟨e1, e3⟩
        obtain ⟨rfl, rfl⟩ : A2 = some ⟨b2, o2, none⟩ ∧ c2 = d2 := by injection e2 with e1 e2 e3; exact ⟨e1, e3⟩
        have HGX := Lib.hid hgx; have HGY := Lib.hid hgy
        clear hgx hgy e1 e2
        by_cases hE : x0 = y0 ∧ x1 = y1
        · obtain ⟨rfl, rfl⟩ := hE
          go_wp2_with fail
          go_quiet (fail)
          go_wp2_with fail
          go_roundw
          case rel => exact ⟨k + 1, by congr 1, by omega, fun j hj => by
            by_cases e : j = k
            · subst e; rw [HGX.out, HGY.out]
            · exact HZ.out j (by omega), by have h := HB.out; exact ⟨h.os, h.tape, h.output, h.size, h.block⟩⟩
          case measure => simp; omega
        · have hq : (x0 == y0 && (x1 == y1)) = false := by simpa using hE
          have hne : decide (xs = ys) = false := decide_eq_false (fun e => hE (by have h1 := HGX.out; rw [e, HGY.out] at h1; injection h1 with h1; injection h1 with a b; exact ⟨a.symm, b.symm⟩))
          obtain rfl : r = false := HR.out.symm.trans hne
          clear hne HR
          go_wp2_with fail
          go_quiet (fail)
          all_goals
            go_wp2_with fail
            go_ret
            exact ⟨rfl, by have h := HB.out; exact ⟨h.os, h.tape, h.output, h.size, h.block⟩⟩
      · obtain rfl : k = xs.length := by omega
        have he : decide (xs = ys) = true := decide_eq_true (List.ext_getElem? fun j => by
          by_cases hj : j < xs.length
          · exact HZ.out j hj
          · rw [List.getElem?_eq_none (by omega), List.getElem?_eq_none (by rw [← HL.out]; omega)])
        obtain rfl : r = true := HR.out.symm.trans he
        clear he HR
        go_wp2_with fail
        go_ret
        exact ⟨rfl, HB.out⟩
  · have hne : decide (xs = ys) = false := decide_eq_false (fun e => hlen (by rw [e]))
    have hli : ((xs.length : Int) == (ys.length : Int)) = false := by simp; omega
    have hli2 : ((xs.length : Int) != (ys.length : Int)) = true := by simp; omega
    rw [hne]
    clear hne
    go_enter Try.func63, Try.ntmps63
    go_wp2_with fail
    go_ret
    exact ⟨rfl, Below.refl _ _⟩

end Go.Proofs.Ytmdacfgofilbdaa.Led

/- ledger, in plain words: what a list of balances is told by; what all add up to. -/
set_option linter.unusedSimpArgs false
set_option linter.unusedVariables false
namespace Go.Proofs.Ytmdacfgofilbdaa.Led
open Go.RowKit Go.Proofs.Ytmdacfgofilbdaa.TabL
open Go.Proofs.Ytmdacfgofilbdaa.TabB (ltI lin getV)

theorem getV_cons (p : Int × Int) (r : Bs) (a : Int) : getV (p :: r) a = if a = p.1 then p.2 else getV r a := by
  unfold getV
  rw [getL]
  by_cases h : a = p.1
  · subst h; simp [ltI]
  · have : (ltI p.1 a || ltI a p.1) = true := by unfold ltI; simp; omega
    rw [if_pos this, if_neg h]
theorem getV_above {xs : Bs} {a : Int} (h : ∀ q ∈ xs, a < q.1) : getV xs a = 0 := by
  induction xs with
  | nil => rfl
  | cons p r ih =>
    rw [getV_cons, if_neg (by have := h p (List.mem_cons_self ..); omega)]
    exact ih (fun q hq => h q (List.mem_cons_of_mem _ hq))
theorem Sd.head {p : Int × Int} {r : Bs} (h : Sd ltI (p :: r)) : ∀ q ∈ r, p.1 < q.1 := fun q hq => by
  have := (List.pairwise_cons.1 h).1 q hq
  simpa [ltI] using this
theorem Sd.tail {p : Int × Int} {r : Bs} (h : Sd ltI (p :: r)) : Sd ltI r := (List.pairwise_cons.1 h).2
theorem getV_mem {xs : Bs} (h : Sd ltI xs) : ∀ q ∈ xs, getV xs q.1 = q.2 := by
  induction xs with
  | nil => simp
  | cons p r ih =>
    intro q hq
    rw [getV_cons]
    rcases List.mem_cons.1 hq with rfl | hq
    · rw [if_pos rfl]
    · rw [if_neg (by have := Sd.head h q hq; omega)]
      exact ih (Sd.tail h) q hq
def NZ (xs : Bs) : Prop := ∀ q ∈ xs, q.2 ≠ 0
theorem sd_ext : ∀ {xs ys : Bs}, Sd ltI xs → Sd ltI ys → NZ xs → NZ ys → (∀ a, getV xs a = getV ys a) → xs = ys
  | [], [], _, _, _, _, _ => rfl
  | [], q :: s, _, _, _, h, e => by
    have := e q.1
    rw [getV_cons, if_pos rfl] at this
    exact absurd this.symm (h q (List.mem_cons_self ..))
  | p :: r, [], _, _, h, _, e => by
    have := e p.1
    rw [getV_cons, if_pos rfl] at this
    exact absurd this (h p (List.mem_cons_self ..))
  | p :: r, q :: s, h1, h2, n1, n2, e => by
    have hk : p.1 = q.1 := by
      rcases Int.lt_trichotomy p.1 q.1 with h | h | h
      · have := e p.1
        rw [getV_cons, if_pos rfl, getV_above (xs := q :: s) (fun x hx => by
          rcases List.mem_cons.1 hx with rfl | hx
          · exact h
          · have := Sd.head h2 x hx; omega)] at this
        exact absurd this (n1 p (List.mem_cons_self ..))
      · exact h
      · have := e q.1
        rw [getV_cons q, if_pos rfl, getV_above (xs := p :: r) (fun x hx => by
          rcases List.mem_cons.1 hx with rfl | hx
          · exact h
          · have := Sd.head h1 x hx; omega)] at this
        exact absurd this.symm (n2 q (List.mem_cons_self ..))
    have hv : p.2 = q.2 := by
      have := e p.1
      rw [getV_cons, if_pos rfl, getV_cons, if_pos hk] at this
      exact this
    have hr : r = s := sd_ext (Sd.tail h1) (Sd.tail h2) (fun x hx => n1 x (List.mem_cons_of_mem _ hx)) (fun x hx => n2 x (List.mem_cons_of_mem _ hx)) (fun a => by
      by_cases ha : a = p.1
      · rw [getV_above (xs := r) (fun x hx => by have := Sd.head h1 x hx; omega), getV_above (xs := s) (fun x hx => by have := Sd.head h2 x hx; omega)]
      · have := e a
        rw [getV_cons, if_neg ha, getV_cons, if_neg (by omega)] at this
        exact this)
    rw [hr]
    congr 1
    exact Prod.ext hk hv
theorem NZ.setL {xs : Bs} (h : NZ xs) (k n : Int) : NZ (setL xs k n) := by
  unfold Led.setL
  by_cases hn : n = 0
  · rw [if_pos hn]
    exact fun q hq => h q (List.mem_filter.1 hq).1
  · rw [if_neg hn]
    intro q hq
    rcases putL_mem hq with rfl | hq
    · exact hn
    · exact h q hq
theorem NZ.moveL {xs : Bs} (h : NZ xs) (m : Mv) : NZ (moveL xs m) := by
  unfold Led.moveL
  split
  · exact (h.setL _ _).setL _ _
  · exact h
theorem sumL_cons (p : Int × Int) (r : Bs) : sumL (p :: r) = p.2 + sumL r := by
  have key : ∀ (l : Bs) (s : Int), l.foldl (fun s q => s + q.2) s = s + l.foldl (fun s q => s + q.2) 0 := fun l => by
    induction l with
    | nil => intro s; simp
    | cons q l ih => intro s; rw [List.foldl_cons, List.foldl_cons, ih (s + q.2), ih (0 + q.2)]; omega
  unfold sumL
  rw [List.foldl_cons, key r (0 + p.2)]
  omega
theorem sumL_put {k n : Int} : ∀ {xs : Bs}, Sd ltI xs → sumL (putL ltI xs k n) = sumL xs - getV xs k + n
  | [], _ => by unfold putL; rw [sumL_cons]; unfold getV getL sumL; simp
  | p :: r, h => by
    unfold putL
    rcases Int.lt_trichotomy k p.1 with h1 | h1 | h1
    · rw [if_pos (by simpa [ltI] using h1), sumL_cons, getV_above (xs := p :: r) (fun x hx => by
        rcases List.mem_cons.1 hx with rfl | hx
        · exact h1
        · have := Sd.head h x hx; omega)]
      dsimp only
      omega
    · subst h1
      rw [if_neg (by simp [ltI]), if_neg (by simp [ltI]), sumL_cons, sumL_cons, getV_cons, if_pos rfl]
      dsimp only
      omega
    · rw [if_neg (by simp [ltI]; omega), if_pos (by simpa [ltI] using h1), sumL_cons, sumL_cons, sumL_put (Sd.tail h), getV_cons, if_neg (by omega)]
      omega
theorem dropL_above {r : Bs} {k : Int} (h : ∀ q ∈ r, k < q.1) : dropL ltI r k = r := dropL_all (fun q hq => .inr (by simpa [ltI] using h q hq))
theorem sumL_drop {k : Int} : ∀ {xs : Bs}, Sd ltI xs → sumL (dropL ltI xs k) = sumL xs - getV xs k
  | [], _ => by unfold dropL getV getL sumL; simp
  | p :: r, h => by
    have e : dropL ltI (p :: r) k = if (ltI p.1 k || ltI k p.1) = true then p :: dropL ltI r k else dropL ltI r k := by unfold dropL; rw [List.filter_cons]
    rw [e]
    by_cases hk : k = p.1
    · subst hk
      rw [if_neg (by simp [ltI]), dropL_above (Sd.head h), sumL_cons, getV_cons, if_pos rfl]
      omega
    · rw [if_pos (by simp [ltI]; omega), sumL_cons, sumL_cons, sumL_drop (Sd.tail h), getV_cons, if_neg hk]
      omega
theorem sumL_set {xs : Bs} (h : Sd ltI xs) (k n : Int) : sumL (setL xs k n) = sumL xs - getV xs k + n := by
  unfold setL
  by_cases hn : n = 0
  · rw [if_pos hn, sumL_drop h]; omega
  · rw [if_neg hn, sumL_put h]
theorem sumL_move {xs : Bs} (h : Sd ltI xs) (m : Mv) : sumL (moveL xs m) = sumL xs := by
  unfold moveL
  by_cases h0 : moveE (getV xs) m = 0
  · rw [if_pos h0]
    obtain ⟨_, _, hne, _⟩ := moveE_zero h0
    rw [sumL_set (setL_sd h _ _), sumL_set h, getV_setL, if_neg (Ne.symm hne)]
    omega
  · rw [if_neg h0]
theorem inB_of {xs : Bs} (h : Sd ltI xs) (hb : Bnd xs) : InB xs := fun q hq => by
  rw [← getV_mem h q hq]
  exact hb _
/-- a ledger that came of moves alone: rising, nothing of it 0, all of it 0 together -/
structure Clean (xs : Bs) : Prop where
  sd : Sd ltI xs
  nz : NZ xs
  sum : sumL xs = 0
theorem Clean.nil : Clean [] := ⟨List.Pairwise.nil, fun q hq => by simp at hq, rfl⟩
theorem Clean.move {xs : Bs} (h : Clean xs) (m : Mv) : Clean (moveL xs m) := ⟨moveL_sd h.sd m, h.nz.moveL m, by rw [sumL_move h.sd]; exact h.sum⟩
theorem Clean.ext {xs ys : Bs} (h : Clean xs) (k : Clean ys) (e : ∀ a, getV xs a = getV ys a) : xs = ys := sd_ext h.sd k.sd h.nz k.nz e

end Go.Proofs.Ytmdacfgofilbdaa.Led

/- ledger: what list hands out; Same. -/
set_option linter.unusedSimpArgs false
set_option linter.unusedVariables false
namespace Go.Proofs.Ytmdacfgofilbdaa.Led
open Go.RowKit Go.Proofs.Ytmdacfgofilbdaa.TabL Go.Proofs.YtmdacfgofilbdaaW.PrintWords Go.Proofs.Ytmdacfgofilbdaa.PHoldPlays
open Go.Proofs.Ytmdacfgofilbdaa.TabB (ltI lin getV TMg ek ev Gives2 all_gives yieldAny)
attribute [local go_sem] Oper.semAt_some

/-- all of zs come, each as a balance, in order -/
def GivesB (G : Nat) (lb : Array Value) (Ts : TypeId → Prop) (St N : World → Prop) (zs : Bs) : Prop :=
  (∀ args w, (callFunc G args).run Try.prog w = .ok (.enter G args) w) ∧
  ∀ (n bnd : Nat) (Inv : Nat → World → Prop), (∀ k W, Inv k W → N W) → (∀ k W m, Inv k W → Inv k (W.drewN m)) → (∀ k b, bnd ≤ b → OwnFrom b (fun (_ : Unit) W => Inv k W)) →
    IterOk3 Fence.wide n Try.prog G lb Ts (fun k : Nat => #[.agg #[.int .i64 (zs.getD k d0).1, .int .i64 (zs.getD k d0).2]]) (fun W => bnd ≤ W.heap.size ∧ St W ∧ Inv 0 W) (fun k W => k < zs.length ∧ Inv k W) (fun k W => Inv (k + 1) W) (Inv zs.length)
/-- the memory before round k of what list$1 goes over -/
structure LI (n1 l : Nat) (Rc : World → Prop) (Inv : Nat → World → Prop) (k : Nat) (W' : World) : Prop where
  by_ : Blk W' n1 142 [.func (.yield l) #[] #[]]
  inv : Inv k W'
  rc : Rc W'
  sz : n1 ≤ W'.heap.size
theorem LI.own {n1 l : Nat} {Rc : World → Prop} {Inv : Nat → World → Prop} (hRc : ∀ A A', Rc A → KU n1 A A' → Rc A') (k : Nat) {b : Nat} (hb : n1 ≤ b) (hO : OwnFrom b (fun (_ : Unit) W => Inv k W)) :
    OwnFrom b (fun (_ : Unit) W' => LI n1 l Rc Inv k W') := fun s A B row h hg hr => by
  have q : ∀ {c : Nat} {t : TypeId} {l : List Value}, Blk A c t l → Blk B c t l := fun hc => Own.from (blk_own _ _ (fun _ : Unit => _)) b () A B row hc hg hr
  exact ⟨q h.by_, hO () A B row h.inv hg hr, hRc _ _ h.rc (KU.grown hg (fun r e => .inl (Nat.le_trans hb (hr r e).1))), Nat.le_trans h.sz hg.size⟩
def LisTs (t : TypeId) : Prop := t = 142
set_option maxRecDepth 100000 in
set_option maxHeartbeats 8000000 in
theorem list_gives (w0 : World) (B1 p : Nat) (q : Option Addr) (T0 : TabB.Tr) (hT : TabB.T w0 q T0) :
    GivesB 86 #[.pointer (some ⟨B1, 0, none⟩)] LisTs (fun W => W.cell? ⟨B1, 0, none⟩ = some (.pointer (some ⟨p, 0, none⟩)) ∧ W.cell? ⟨p, 0, none⟩ = some (.pointer q)) (KT 145 w0) T0.toL := by
  refine ⟨enters_of Try.func86 (by kernel_rfl) rfl, fun n bnd Inv hN hD hO => ?_⟩
  intro l Rc JX W1 hRc hJX hR0 hS0 hY
  obtain ⟨hbw, ⟨c1, cp⟩, hI0⟩ := hS0
  obtain ⟨zs, hzs⟩ : ∃ zs, T0.toL = zs := ⟨_, rfl⟩
  rw [hzs] at hY ⊢
  show CallsIn Fence.wide n Try.prog 86 #[.func (.yield l) #[] #[], .pointer (some ⟨B1, 0, none⟩)] W1 _
  refine (callsIn_wide (n := n)).2 ((callsIn_wide (n := 4)).1 ?_)
  refine callsIn_of_wp_marks Try.func86 rfl trivial ?_ rfl
  refine wpIn_wide.2 ?_
  simp only [Try.ntmps86, List.size_toArray, List.length_cons, List.length_nil, Nat.reduceAdd, Nat.reduceSub, Array.replicate_succ, Array.replicate_zero, List.push_toArray, List.append_toArray, List.nil_append, List.cons_append]
  have hal2 : Below W1.heap.size W1 (W1.alloc (.cells #[.func (.yield l) #[] #[]] 142)) := (Below.refl _ W1).alloc (Nat.le_refl _) _
  have by2 := Blk.new W1 [.func (.yield l) #[] #[]] 142
  have c1' := (bcell hal2).1 B1 0 (World.block_lt_of_cell? _ _ c1)
  rw [c1] at c1'
  go_wp2_with fail
  obtain ⟨w2, hw2⟩ : ∃ w2, W1.alloc (.cells #[.func (.yield l) #[] #[]] 142) = w2 := ⟨_, rfl⟩
  have hz2 : w2.heap.size = W1.heap.size + 1 := by rw [← hw2]; simp
  rw [hw2] at hal2 by2 c1' ⊢
  clear hw2
  refine (lall_any w2 p).mono ?_; rintro e w3 ⟨rfl, hw3⟩
  have hal3 : Below w2.heap.size w2 w3 := by rw [hw3]; exact (Below.refl _ w2).alloc (Nat.le_refl _) _
  have hal := hal2.trans (hal3.mono hal2.size)
  have bB : Blk w3 w2.heap.size 129 [.pointer (some ⟨p, 0, none⟩)] := by rw [hw3]; exact Blk.new w2 [.pointer (some ⟨p, 0, none⟩)] 129
  have by3 := by2.belowS hal3
  have cp3 : w3.cell? ⟨p, 0, none⟩ = some (.pointer q) := (hal.cell (p := ⟨p, 0, none⟩) (World.block_lt_of_cell? _ _ cp)).trans cp
  have hI3 : Inv 0 w3 := hO 0 W1.heap.size hbw () W1 w3 none hI0 ⟨hal.os, hal.tape, hal.output, hal.size, fun j hj _ => hal.block j hj⟩ (fun r e => by cases e)
  have hR3 : Rc w3 := hRc _ _ hR0 (KU.grown (row := none) ⟨hal.os, hal.tape, hal.output, hal.size, fun j hj _ => hal.block j hj⟩ (fun r e => by cases e))
  have hz3 : w3.heap.size = w2.heap.size + 1 := by rw [hw3]; simp
  have hG := all_gives w0 w2.heap.size p q T0 hT
  obtain ⟨g, hg⟩ : ∃ g, w2.heap.size = g := ⟨_, rfl⟩
  rw [hg] at hG bB hz2 hz3 ⊢
  obtain ⟨n1, hn1⟩ : ∃ n1, W1.heap.size = n1 := ⟨_, rfl⟩
  rw [hn1] at by3 hbw hz2 hRc hJX hY ⊢
  subst hz2
  rw [hzs] at hG
  have cB := bB.cell (i := 0) rfl
  have hLI : LI n1 l Rc Inv 0 w3 := ⟨by3, hI3, hR3, by omega⟩
  have hsO : ∀ k, OwnFrom w3.heap.size (fun (_ : Unit) W' => LI n1 l Rc Inv k W') := fun k => LI.own hRc k (by omega) (hO k _ (by omega))
  have hdN : ∀ k W m, LI n1 l Rc Inv k W → LI n1 l Rc Inv k (W.drewN m) := fun k W m h => hsO k () W _ none h ⟨rfl, rfl, rfl, Nat.le_refl _, fun _ _ _ => rfl⟩ (fun r e => by cases e)
  clear hw3 hal2 hal3 hal by2 c1' c1 cp bB hI3 hR3 hI0 hR0 hzs hg hn1 hT by3
  go_wp2_with fail
  refine wpIn_wide.1 (range_gen (F := Fence.wide) (n := 4) rfl (by omega) (gf := 102) (lb := #[.pointer (some ⟨n1 + 1, 0, none⟩)]) rfl trivial hG.1 (encs := fun k : Nat => #[ek (zs.getD k d0).1, ev (zs.getD k d0).2]) (fun _ => rfl)
    (fun W' => (W'.cell? ⟨n1 + 1, 0, none⟩ = some (.pointer (some ⟨p, 0, none⟩)) ∧ W'.cell? ⟨p, 0, none⟩ = some (.pointer q)) ∧ LI n1 l Rc Inv 0 W')
    (fun k W' => k < zs.length ∧ LI n1 l Rc Inv k W')
    (fun k W' => LI n1 l Rc Inv (k + 1) W')
    (fun c W' => c = .ret ∧ JX W')
    (fun W' => LI n1 l Rc Inv zs.length W')
    (fun k a' W' => a' = { tmps := #[.func (.yield l) #[] #[], .pointer (some ⟨B1, 0, none⟩), .pointer (some ⟨n1, 0, none⟩), ek (zs.getD k d0).1, ev (zs.getD k d0).2, .pointer (some ⟨p, 0, none⟩), .func (.func 102) #[] #[.pointer (some ⟨n1 + 1, 0, none⟩)], ek (zs.getD k d0).1, ev (zs.getD k d0).2, undef, undef, undef, undef, undef, undef], defers := [] } ∧ k < zs.length ∧ LI n1 l Rc Inv k W')
    (OwnFrom.and (OwnFrom.and (cell_own _ _) (cell_own _ _)) (hsO 0))
    (fun k => hsO (k + 1))
    (fun c s A B row hs hg hr => ⟨hs.1, hJX A B row hs.2 hg (fun r e => ⟨by have := (hr r e).1; omega, (hr r e).2⟩)⟩)
    (hsO _)
    (fun k a' => OwnFrom.and (fun _ _ _ _ hs _ _ => hs) (OwnFrom.and (fun _ _ _ _ hs _ _ => hs) (hsO k)))
    ⟨⟨cB, cp3⟩, hLI⟩ (hG.2 3 (fun k W' => LI n1 l Rc Inv k W') (fun k W' h => hN _ _ h.inv) (fun k W' m h => hdN k W' m h)) ?assign ?body ?done ?stop)
  case assign =>
    rintro l2 k W' K ⟨hk, hP⟩ hK
    obtain ⟨⟨x, y⟩, hx⟩ : ∃ x, zs.getD k d0 = x := ⟨_, rfl⟩
    rw [hx] at hK ⊢
    unfold ek ev at hK ⊢
    gi_wp2
    exact hK _ _ (KeepsFrom.refl _ _) ⟨rfl, hk, hP⟩
  case body =>
    rintro l2 k a' W' hl2 hr ⟨rfl, hk, hS⟩
    have hY2 := hY k W' ⟨hk, hS.inv⟩ hS.rc hS.sz
    obtain ⟨⟨x, y⟩, hx⟩ : ∃ x, zs.getD k d0 = x := ⟨_, rfl⟩
    rw [hx] at hY2 ⊢
    unfold ek ev
    have cy := hS.by_.cell (i := 0) rfl
    have HS := Lib.hid hS
    obtain ⟨fn, tm, as_, bd, hy, hRd⟩ := yieldAny 1 hY2
    have HRD := Lib.hid hRd
    clear hS hsO hG hY hN hD hx hRd hY2 hdN
    gi_wp2_with fail
    refine RoundIn.mono (F := Fence.wide) HRD.out ?_
    clear hy
    rintro e w5 ⟨hfy, (⟨rfl, hI5, hR5⟩ | ⟨rfl, hJ⟩)⟩
    · gi_wp2_with fail
      exact ⟨kf_up hfy.1 (by omega), (hfy.2 _ rfl).blk HS.out.by_, hI5, hR5, Nat.le_trans HS.out.sz hfy.1.size⟩
    · gi_wp2_with fail
      exact ⟨kf_up hfy.1 (by omega), rfl, hJ⟩
  case done =>
    rintro D W' hD2 hS hK
    go_wp2_with fail
    refine ⟨by simp, .inl ⟨_, _, rfl, run_takeDeferred hK, ?_⟩⟩
    have h2 := (hsO zs.length).putObj (s := ()) (.deferred none) hS hD2 hK rfl
    refine ⟨.tuple #[], by simp [results, Try.f86, go_sem], ⟨_, rfl⟩, .inl ⟨h2.inv, h2.rc⟩⟩
  case stop =>
    rintro D c W' hD2 ⟨rfl, hE⟩ hK
    gi_wp2
    go_wp2
    refine ⟨by simp, .inl ⟨_, _, rfl, run_takeDeferred hK, ?_⟩⟩
    have hg := grownBy_putObj' W' D (.deferred none)
    refine ⟨.tuple #[], by simp [results, Try.f86, go_sem], ⟨_, rfl⟩, .inr (hJX _ _ _ hE hg (fun r e => by cases e; exact ⟨by omega, _, hK, rfl⟩))⟩

theorem infoBal : (Try.prog.info? 105).map (fun i => (i.zero, i.size, i.bytes)) = some (some (.agg #[.int .i64 0, .int .i64 0]), 2, 16) := by kernel_rfl
theorem cP2_length (q : Int × Int) : (cP2 q).length = 2 := rfl
/-- a boxed slice variable that holds xs, in memory of the call's own -/
def OutB (W : World) (base Bo : Nat) (xs : Bs) : Prop := ∃ v, Boxed W Bo 103 v ∧ W.ownsRow base 105 2 v xs.length (cellsOf cP2 xs)
theorem OutB.ownF (base Bo : Nat) (xs : Bs) : Own (fun (_ : Unit) W => OutB W base Bo xs) := fun s A B row hs hg hr => by
  obtain ⟨v, hb, ho⟩ := hs
  refine ⟨v, boxed_own Bo _ (fun _ : Unit => v) () A B row hb hg hr, ho.kept hg ?_⟩
  cases hv : v.ownBlock with
  | none => exact .inl rfl
  | some k =>
    refine .inr (fun e => ?_)
    obtain ⟨_, cs, fr, hc⟩ := own_typ ho k hv
    obtain ⟨o, ho', hcc⟩ := hr k (by rw [← e])
    rw [hc] at ho'
    cases ho'
    simp [Obj.isCells] at hcc
def PIB (w0 : World) (xs : Bs) (W : World) : Prop := OutB W w0.heap.size w0.heap.size xs ∧ Below w0.heap.size w0 W
theorem PIB.ownF (w0 : World) (xs : Bs) {b : Nat} (hb : w0.heap.size ≤ b) : OwnFrom b (fun (_ : Unit) W => PIB w0 xs W) :=
  OwnFrom.and (Own.from (OutB.ownF _ _ _) _) (ownFrom_below (Nat.le_refl _) hb)
theorem app_kt {W w1 : World} {n0 Bo k size : Nat} {t tB e : TypeId} {v v' : Value} {xs : List Value} {tmp : Obj} (hv1 : Boxed w1 Bo tB v) (hrow : W.ownsRow n0 e size v k xs) (hgrow : (W.alloc tmp).grownBy w1 v.ownBlock) (ht : e ≠ t) (htB : tB ≠ t) : KTy t W (w1.setCell ⟨Bo, 0, none⟩ v') := by
  refine show KT t _ _ from ((KT.alloc W tmp).trans (KT.grown hgrow (fun r hr => ?_))).trans (KT.setOther (show Blk w1 Bo tB [v] from hv1) htB)
  obtain ⟨_, cs, fr, hc⟩ := own_typ hrow r hr
  exact ⟨_, (Below.heap_alloc W tmp r (Array.getElem?_eq_some_iff.1 hc).1).trans hc, fun cs' fr' e2 => by injection e2 with _ e3 _; exact ht e3⟩
set_option maxRecDepth 100000 in
set_option maxHeartbeats 4000000 in
theorem appseq_any (W : World) (G : Nat) (lb : Array Value) (Ts : TypeId → Prop) (hTs : ∀ t, Ts t → 105 ≠ t ∧ 103 ≠ t) (St N : World → Prop) (zs : Bs) (hG : GivesB G lb Ts St N zs) (hz : zs.length < 1099511627776)
    (hSt : ∀ W', Below W.heap.size W W' → St W') (hN : ∀ W', Below W.heap.size W W' → N W') :
    Calls Try.prog 85 #[.slice none 0 0, .func (.func G) #[] lb] W fun e w' => ∃ v, e = .returned v ∧ w'.ownsRow W.heap.size 105 2 v zs.length (cellsOf cP2 zs) ∧ Below W.heap.size W w' := by
  obtain ⟨i0, hi0, hiz0, hiz1, hiz2⟩ := info_parts infoBal
  refine (callsIn_wide (n := 4)).1 ?_
  refine callsIn_of_wp_marks Try.func85 rfl trivial ?_ rfl
  refine wpIn_wide.2 ?_
  simp only [Try.ntmps85, List.size_toArray, List.length_cons, List.length_nil, Nat.reduceAdd, Nat.reduceSub, Array.replicate_succ, Array.replicate_zero, List.push_toArray, List.append_toArray, List.nil_append, List.cons_append]
  have bo := Boxed.new W 103 (.slice none 0 0)
  have hB0 : Below W.heap.size W (W.alloc (.cells #[.slice none 0 0] 103)) := (Below.refl _ W).alloc (Nat.le_refl _) _
  go_wp2_with fail
  obtain ⟨W2, hW2⟩ : ∃ W2, W.alloc (.cells #[.slice none 0 0] 103) = W2 := ⟨_, rfl⟩
  have hz2 : W2.heap.size = W.heap.size + 1 := by rw [← hW2]; simp
  have hPI0 : PIB W (zs.take 0) W2 := by rw [← hW2]; exact ⟨⟨_, bo, World.ownsRow_nil _ _ _ _⟩, hB0⟩
  rw [hW2] at hB0 ⊢
  clear hW2 bo
  have hsO : ∀ xs, OwnFrom W2.heap.size (fun (_ : Unit) W' => PIB W xs W') := fun xs => PIB.ownF W xs (by omega)
  refine wpIn_wide.1 (range_gen3 (F := Fence.wide) (n := 4) rfl (by omega) (gf := G) (lb := lb) rfl trivial hG.1 (encs := fun k : Nat => #[.agg #[.int .i64 (zs.getD k d0).1, .int .i64 (zs.getD k d0).2]]) (fun _ => rfl) Ts
    (fun W' => W.heap.size ≤ W'.heap.size ∧ St W' ∧ PIB W (zs.take 0) W')
    (fun k W' => k < zs.length ∧ PIB W (zs.take k) W')
    (fun k W' => PIB W (zs.take (k + 1)) W')
    (fun c W' => False)
    (fun W' => PIB W (zs.take zs.length) W')
    (fun k a' W' => ∃ b5, a' = { tmps := #[.slice none 0 0, .func (.func G) #[] lb, .pointer (some ⟨W.heap.size, 0, none⟩), undef, .slice none 0 0, .pointer (some ⟨b5, 0, none⟩), .func (.func G) #[] lb, .agg #[.int .i64 (zs.getD k d0).1, .int .i64 (zs.getD k d0).2], undef, undef, undef, undef, undef], defers := [] } ∧ k < zs.length ∧ Blk W' b5 105 [.int .i64 (zs.getD k d0).1, .int .i64 (zs.getD k d0).2] ∧ PIB W (zs.take k) W')
    (fun s A A' row hs hg hr => by
      have h := hsO _ () A A' row hs.2.2 hg hr
      exact ⟨Nat.le_trans hs.1 hg.size, hSt _ h.2, h⟩)
    (fun k => hsO _)
    (fun c _ _ _ _ hs _ _ => hs)
    (hsO _)
    (fun k a' s A A' row hs hg hr => by
      obtain ⟨b5, h1, h2, h3, h4⟩ := hs
      exact ⟨b5, h1, h2, Own.from (blk_own _ _ (fun _ : Unit => _)) _ () A A' row h3 hg hr, hsO _ () A A' row h4 hg hr⟩)
    ⟨by omega, hSt _ hB0, hPI0⟩
    (hG.2 3 W.heap.size (fun k W' => PIB W (zs.take k) W') (fun k W' h => hN _ h.2)
      (fun k W' j h => hsO _ () W' _ none h ⟨rfl, rfl, rfl, Nat.le_refl _, fun _ _ _ => rfl⟩ (fun r e => by cases e))
      (fun k b hb => PIB.ownF W _ hb))
    ?assign ?body ?done ?stop)
  case assign =>
    rintro l k W' K ⟨hk, hP⟩ hK
    obtain ⟨⟨x, y⟩, hx⟩ : ∃ x, zs.getD k d0 = x := ⟨_, rfl⟩
    rw [hx] at hK ⊢
    have HK := Lib.hid (fun a' ha' => hK a' (W'.alloc (.cells #[.int .i64 x, .int .i64 y] 105)) (KeepsFrom.of_grownBy (World.grownBy_alloc W' _ none) (fun j e => by cases e)) (fun t _ => KTy.below ((Below.refl _ W').alloc (Nat.le_refl _) _)) ⟨W'.heap.size, ha', hk, Blk.new W' _ _, PIB.ownF W _ (Nat.le_refl _) () W' _ none hP (World.grownBy_alloc W' _ none) (fun r e => by cases e)⟩)
    clear hK hP
    gi_wp2
    exact HK.out _ rfl
  case body =>
    rintro l k a' W' hl hr ⟨b5, rfl, hk, h5, ⟨v, hv, hrow⟩, hB⟩
    have htk : zs.take (k + 1) = zs.take k ++ [zs.getD k d0] := by rw [List.take_succ_eq_append_getElem hk]; simp [List.getD, hk]
    obtain ⟨⟨x, y⟩, hx⟩ : ∃ x, zs.getD k d0 = x := ⟨_, rfl⟩
    rw [hx] at htk h5 ⊢
    have hlk : (zs.take k).length = k := by rw [List.length_take]; omega
    rw [hlk] at hrow
    have HTK := Lib.hid htk; have HLK := Lib.hid hlk; have HKZ := Lib.hid hk
    clear htk hx hlk
    have hc := hv.cell
    have hz1 := hB.size
    have c50 := h5.cell (i := 0) rfl
    have c51 := h5.cell (i := 1) rfl
    gi_wp2_with (gi_at_builtin; refine wpListIn_append_own _ rfl _ _ 103 rfl W.heap.size 105 i0 _ 2 16 Try.underlying103 hi0 hiz0 hiz1 hiz2 rfl (by decide) _ k _ rfl (hrow.alloc _) ⟨W'.heap.size, 0, none⟩ 1 1 [.int .i64 x, .int .i64 y] rfl rfl (news_blk (Blk.new W' [.int .i64 x, .int .i64 y] 105)) (by simp [Value.oneCell']) (by unfold maxLen; omega) (by omega) (by simp; omega) ?_; intro v' w3 hown' hgrow _; obtain ⟨g', cap', rfl⟩ := ownsRow_succ hown'; obtain ⟨hv1, hv2, hr2, hk2, hb2⟩ := hv.appended (by decide) hrow hB.size (by omega) hown' hgrow; have hc1 := hv1.cell; have hf1 := hv1.frozen; have hc2 := hv2.cell)
    refine ⟨hk2.from _, (fun t ht => app_kt hv1 hrow hgrow (hTs t ht).1 (hTs t ht).2), ⟨⟨_, hv2, ?_⟩, hB.trans hb2⟩⟩
    rw [HTK.out, List.length_append, HLK.out, cellsOf_append, cellsOf_one]
    exact hr2
  case done =>
    rintro D W' hD ⟨⟨v, hv, hrow⟩, hB⟩ hK
    have hc := hv.cell
    rw [List.take_length] at hrow
    go_wp2
    refine ⟨by simp, .inl ⟨_, _, rfl, run_takeDeferred hK, ?_⟩⟩
    exact ⟨_, results_tmp rfl _ _ _, v, rfl, ownsRow_putObj hrow _ hK rfl, hB.trans (belowK_b (w := W2) (by omega) W' D _ _ hD hK rfl rfl)⟩
  case stop =>
    rintro D c W' hD hF hK
    exact hF.elim

theorem collect_any (W : World) (G : Nat) (lb : Array Value) (Ts : TypeId → Prop) (hTs : ∀ t, Ts t → 105 ≠ t ∧ 103 ≠ t) (St N : World → Prop) (zs : Bs) (hG : GivesB G lb Ts St N zs) (hz : zs.length < 1099511627776)
    (hSt : ∀ W', Below W.heap.size W W' → St W') (hN : ∀ W', Below W.heap.size W W' → N W') :
    Calls Try.prog 64 #[.func (.func G) #[] lb] W fun e w' => ∃ A c, e = .returned (.slice A zs.length c) ∧ Rd cP2 2 w'.heap.size w' (.slice A zs.length c) zs ∧ Below W.heap.size W w' := by
  have h := Lib.hid (appseq_any W G lb Ts hTs St N zs hG hz hSt hN)
  clear hG hSt hN
  go_enter Try.func64, Try.ntmps64
  go_wp2_with fail
  refine h.out.mono ?_; rintro e w1 ⟨v, rfl, h1, h2⟩
  obtain ⟨A, c, rfl⟩ := own_slice h1
  have hR := Lib.hid (Rd.of_own cP2_length d0 h1)
  clear h1
  go_wp2_with fail
  go_ret
  exact ⟨A, c, rfl, hR.out, h2⟩
theorem llist_any (W : World) (p : Nat) :
    Calls Try.prog 65 #[.pointer (some ⟨p, 0, none⟩)] W fun e w' => e = .returned (.func (.func 86) #[] #[.pointer (some ⟨W.heap.size, 0, none⟩)]) ∧ w' = W.alloc (.cells #[.pointer (some ⟨p, 0, none⟩)] 44) := by
  go_enter Try.func65, Try.ntmps65
  go_wp2_with fail
  go_ret
  exact ⟨rfl, rfl⟩
/-- the balances of a ledger, collected -/
theorem lcol_any (W : World) (p : Nat) (xs : Bs) {tt : TypeId} (h : TMg tt W p xs) (hl : xs.length < 1099511627776) (w1 : World) (hw : w1 = W.alloc (.cells #[.pointer (some ⟨p, 0, none⟩)] 44)) :
    Calls Try.prog 64 #[.func (.func 86) #[] #[.pointer (some ⟨W.heap.size, 0, none⟩)]] w1 fun e w' => ∃ A c, e = .returned (.slice A xs.length c) ∧ Rd cP2 2 w'.heap.size w' (.slice A xs.length c) xs ∧ Below W.heap.size W w' := by
  obtain ⟨q, T0, h1, h2, rfl⟩ := h
  have hal : Below W.heap.size W w1 := by rw [hw]; exact (Below.refl _ W).alloc (Nat.le_refl _) _
  have hb : Blk w1 W.heap.size 44 [.pointer (some ⟨p, 0, none⟩)] := by rw [hw]; exact Blk.new W _ _
  exact (collect_any w1 _ _ LisTs (fun t ht => by cases ht; exact ⟨by decide, by decide⟩) _ _ _ (list_gives W W.heap.size p q T0 h2) hl
    (fun W' hB => ⟨(hb.belowS hB).cell (i := 0) rfl, (h1.belowS (hal.trans (hB.mono hal.size))).cell (i := 0) rfl⟩) (fun W' hB => KT.below (hal.trans (hB.mono hal.size)))).mono fun e w' ⟨A, c, a, b, d⟩ => ⟨A, c, a, b, hal.trans (d.mono hal.size)⟩
set_option maxHeartbeats 4000000 in
theorem lsame_any (W : World) (p u : Nat) (xs ys : Bs) {t1 t2 : TypeId} (h : TMg t1 W p xs) (h' : TMg t2 W u ys) (hl : xs.length ≤ 1000000000) (hl' : ys.length ≤ 1000000000) :
    Calls Try.prog 20 #[.pointer (some ⟨p, 0, none⟩), .pointer (some ⟨u, 0, none⟩)] W fun e w' => e = .returned (.bool (decide (xs = ys))) ∧ Below W.heap.size W w' := by
  have H := Lib.hid h; have H' := Lib.hid h'
  clear h h'
  go_enter Try.func20, Try.ntmps20
  go_wp2_with fail
  refine (llist_any W p).mono ?_; rintro e w1 ⟨rfl, hw1⟩
  have C1 := Lib.hid (lcol_any W p xs H.out (by omega) w1 hw1)
  clear hw1
  go_wp2_with fail
  refine C1.out.mono ?_; rintro e w2 ⟨A1, c1, rfl, hR1, hb2⟩
  have HR1 := Lib.hid hR1; have HB2 := Lib.hid hb2
  clear C1 hR1 hb2
  go_wp2_with fail
  refine (llist_any w2 u).mono ?_; rintro e w3 ⟨rfl, hw3⟩
  have C2 := Lib.hid (lcol_any w2 u ys (H'.out.below HB2.out) (by omega) w3 hw3)
  clear hw3
  go_wp2_with fail
  refine C2.out.mono ?_; rintro e w4 ⟨A2, c2, rfl, hR2, hb4⟩
  have HR2 := Lib.hid hR2; have HB4 := Lib.hid (HB2.out.trans (hb4.mono HB2.out.size))
  have HR1' := Lib.hid ((HR1.out.below hb4).mono hb4.size)
  clear C2 hR2 hb4
  go_wp2_with fail
  refine (equal_any w4 A1 A2 c1 c2 xs ys hl HR1'.out HR2.out).mono ?_; rintro e w5 ⟨rfl, hb5⟩
  have HB5 := Lib.hid (HB4.out.trans (hb5.mono HB4.out.size))
  clear hb5
  go_wp2_with fail
  go_ret
  exact ⟨rfl, HB5.out⟩
theorem lsame_refl (W : World) (p u : Nat) (xs : Bs) {t1 t2 : TypeId} (h : TMg t1 W p xs) (h' : TMg t2 W u xs) (hl : xs.length ≤ 1000000000) :
    Calls Try.prog 20 #[.pointer (some ⟨p, 0, none⟩), .pointer (some ⟨u, 0, none⟩)] W fun e w' => e = .returned (.bool true) ∧ Below W.heap.size W w' := by
  have h := lsame_any W p u xs xs h h' hl hl
  rw [decide_eq_true (rfl : xs = xs)] at h
  exact h

end Go.Proofs.Ytmdacfgofilbdaa.Led
