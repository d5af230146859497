/- ledger: Replay over the statement's own iterator. -/
import Derived.Test.YtmdacfgofilbdaaLedPp
import Derived.BigRegionIn
set_option linter.unusedSimpArgs false
set_option linter.unusedVariables false
namespace Go.Proofs.Ytmdacfgofilbdaa.Led
open Go.RowKit Go.Proofs.Ytmdacfgofilbdaa.TabL Go.Proofs.YtmdacfgofilbdaaW.PrintWords
open Go.Proofs.Ytmdacfgofilbdaa.TabB (ltI lin getV TMg)
open Go.Proofs.Ytmdacfgofilbdaa.PLedgerPlays (S75 S78 k75 k78)
attribute [local go_sem] Oper.semAt_some

/-- the first k moves have all been accepted, one by one -/
def Acc (ms : List Mv) (k : Nat) : Prop := ∀ j m, j < k → ms[j]? = some m → moveE (getV (stepN [] ms j)) m = 0
theorem Acc.zero (ms : List Mv) : Acc ms 0 := fun j m h => by omega
theorem Acc.succ {ms : List Mv} {k : Nat} (h : Acc ms k) {m : Mv} (hm : ms[k]? = some m) (h0 : moveE (getV (stepN [] ms k)) m = 0) : Acc ms (k + 1) := fun j x hj hx => by
  rcases Nat.lt_succ_iff_lt_or_eq.1 hj with h1 | rfl
  · exact h j x h1 hx
  · rw [hm] at hx; cases hx; exact h0
/-- where the moves end: k of them went, the answer e -/
structure Ran (ms : List Mv) (k : Nat) (e : Int) : Prop where
  le : k ≤ ms.length
  acc : Acc ms k
  ends : (k = ms.length ∧ e = 0) ∨ ∃ m, ms[k]? = some m ∧ moveE (getV (stepN [] ms k)) m = e ∧ e ≠ 0
abbrev tLp : TypeId := 44
theorem kept_int {W : World} {b : Nat} {t : TypeId} {l : List Value} (h : Blk W b t l) (i : Nat) (v : Value) : KeepsOthers W (W.setCell ⟨b, i, none⟩ v) :=
  ⟨(grownBy_setAt W b i v).size, fun k o hk ho => ((grownBy_setAt W b i v).block k (Array.getElem?_eq_some_iff.1 hk).1 (fun e => by
    cases e
    have h' : W.heap[b]? = _ := h
    rw [h'] at hk
    cases hk
    simp [Obj.isCells] at ho)).trans hk⟩
theorem gb_row {A B C : World} {p : Nat} {row : Option Nat} (h : A.grownBy B (some p)) (k : B.grownBy C row) (hr : ∀ r, row = some r → A.heap.size ≤ r) : A.grownBy C (some p) :=
  ⟨k.os.trans h.os, k.tape.trans h.tape, k.output.trans h.output, Nat.le_trans h.size k.size, fun j hj hne => (k.block j (Nat.lt_of_lt_of_le hj h.size) (fun e => by have := hr j e.symm; omega)).trans (h.block j hj hne)⟩
theorem gb_refl (W : World) (p : Nat) : W.grownBy W (some p) := ⟨rfl, rfl, rfl, Nat.le_refl _, fun _ _ _ => rfl⟩
/-- what the iterator hands over of a move -/
def evM (m : Mv) : Value := .agg #[.int .i64 m.1, .int .i64 m.2.1, .int .i64 m.2.2]
def dM : Mv := (0, 0, 0)
set_option maxRecDepth 100000 in
set_option maxHeartbeats 4000000 in
theorem moves_iter (n : Nat) (B1 pa : Nat) (A : Option Addr) (c : Nat) (ms : List Mv) (hsm : ms.length < 9223372036854775807) (Cons : Nat → World → Prop)
    (hI : ∀ k W, Cons k W → W.cell? ⟨B1, 0, none⟩ = some (.slice A ms.length c) ∧ Rd cM 3 W.heap.size W (.slice A ms.length c) ms)
    (hal : ∀ k W o, Cons k W → Cons k (W.alloc o)) (hst : ∀ k W t l v, Cons k W → Blk W pa t l → t = 3 → Cons k (W.setCell ⟨pa, 0, none⟩ v)) :
    IterOk Fence.wide n Try.prog 50 #[.pointer (some ⟨B1, 0, none⟩), .pointer (some ⟨pa, 0, none⟩)] (fun k : Nat => #[evM (ms.getD k dM)])
      (fun W => Cons 0 W ∧ Blk W pa 3 [.int .i64 0]) (fun k W => k < ms.length ∧ Cons k W ∧ Blk W pa 3 [.int .i64 ((k + 1 : Nat) : Int)]) (fun k W => Cons (k + 1) W ∧ Blk W pa 3 [.int .i64 ((k + 1 : Nat) : Int)]) (fun W => Cons ms.length W ∧ Blk W pa 3 [.int .i64 (ms.length : Int)]) := by
  intro l Rc JX W1 hRc hJX hR0 hS0 hY
  refine callsIn_of_wp Try.func50 rfl trivial ?_ rfl
  simp only [Try.ntmps50, List.size_toArray, List.length_cons, List.length_nil, Nat.reduceAdd, Nat.reduceSub, Array.replicate_succ, Array.replicate_zero, List.push_toArray, List.append_toArray, List.nil_append, List.cons_append]
  have cb := (hI _ _ hS0.1).1
  gi_wp2_with fail
  gi_loopw [8] (fun i wr => ∃ k : Nat, k ≤ ms.length ∧ i = .int .i64 k ∧ Rc wr ∧ Cons k wr ∧ Blk wr pa 3 [.int .i64 (k : Int)]) (fun i _ => ms.length - (intOf i).toNat)
  case atStart => exact ⟨0, Nat.zero_le _, rfl, hR0, hS0⟩
  case round =>
    obtain ⟨k, hk, rfl, hr, hi, hp⟩ := hrel
    have k0 : (0 : Int) ≤ (k : Int) := Int.natCast_nonneg _
    have k9 : (k : Int) ≤ 9223372036854775807 := by omega
    by_cases hlt2 : k < ms.length
    · have kl : (k : Int) < (ms.length : Int) := by omega
      obtain ⟨⟨f, t, a⟩, hx⟩ : ∃ x, ms[k] = x := ⟨_, rfl⟩
      have hx2 : ms[k]? = some (f, t, a) := by rw [List.getElem?_eq_getElem hlt2, hx]
      have hgd : ms.getD k dM = (f, t, a) := by rw [List.getD_eq_getElem?_getD, hx2]; rfl
      obtain ⟨b3, off3, c4, e1, hlb, r0, r1, r2⟩ := rd_at (hI _ _ hi).2 hx2
      obtain ⟨rfl, rfl⟩ : A = some ⟨b3, off3, none⟩ ∧ c = c4 := by injection e1 with e1 e2 e3; exact ⟨e1, e3⟩
      simp only at r0 r1 r2
      obtain ⟨ki, hki⟩ : ∃ ki, (k : Int) = ki := ⟨_, rfl⟩
      have k7 : ki + 1 ≤ 9223372036854775807 := by omega
      have k8 : -9223372036854775808 ≤ ki + 1 := by omega
      have hpl := hp.lt
      have his := hal _ _ (.cells #[.int .i64 f, .int .i64 t, .int .i64 a] 78) (hst _ _ _ _ (.int .i64 ((k + 1 : Nat) : Int)) hi hp rfl)
      have hrs := hRc _ _ (hRc _ _ hr (kept_int hp 0 (.int .i64 ((k + 1 : Nat) : Int)))) (belowOthers ((Below.refl _ (wr.setCell ⟨pa, 0, none⟩ (.int .i64 ((k + 1 : Nat) : Int)))).alloc (Nat.le_refl _) (.cells #[.int .i64 f, .int .i64 t, .int .i64 a] 78)))
      have hps := (hp.set 0 (.int .i64 ((k + 1 : Nat) : Int))).alloc (.cells #[.int .i64 f, .int .i64 t, .int .i64 a] 78)
      have hbs := Blk.new (wr.setCell ⟨pa, 0, none⟩ (.int .i64 ((k + 1 : Nat) : Int))) [.int .i64 f, .int .i64 t, .int .i64 a] 78
      rw [(show (wr.setCell ⟨pa, 0, none⟩ (.int .i64 ((k + 1 : Nat) : Int))).heap.size = wr.heap.size from by simp [World.setCell])] at hbs
      rw [hki] at hp
      have cw := hp.cell (i := 0) rfl
      have fw := hp.frozen 0
      obtain ⟨ws, hws⟩ : ∃ ws, (wr.setCell ⟨pa, 0, none⟩ (.int .i64 ((k + 1 : Nat) : Int))).alloc (.cells #[.int .i64 f, .int .i64 t, .int .i64 a] 78) = ws := ⟨_, rfl⟩
      have hws2 := hws
      dsimp only [List.set] at hps hbs
      rw [show (List.toArray [Value.int .i64 f, .int .i64 t, .int .i64 a]) = #[.int .i64 f, .int .i64 t, .int .i64 a] from rfl] at hbs
      rw [hws] at his hrs hps hbs
      rw [show ((k + 1 : Nat) : Int) = ki + 1 from by omega] at hws
      have HWS := Lib.hid hws
      have c0 := hbs.cell (i := 0) rfl
      have c1 := hbs.cell (i := 1) rfl
      have c2 := hbs.cell (i := 2) rfl
      obtain ⟨fn, tmps, assign, body, hy, hRn⟩ := hY k _ ⟨hlt2, his, hps⟩ hrs
      rw [hgd] at hy
      dsimp only [evM] at hy
      have HKI := Lib.hid hki
      clear hx hx2 hgd hws hws2 his hrs hps hbs e1 hp hki
      rw [← HWS.out] at hy hRn
      clear c0 c1 c2
      gi_wp2_with fail
      refine ⟨fun h => (by cases h), ?_⟩
      refine hRn.mono ?_
      rintro e W3 (⟨rfl, ⟨hi3, hp3⟩, hr3⟩ | ⟨rfl, hJ⟩)
      · gi_wp2_with fail
        go_roundw
        case rel => exact ⟨k + 1, by omega, by simp, hr3, hi3, hp3⟩
        case measure => simp [intOf]; omega
      · gi_wp2_with fail
        refine bodyPost_ret (results_none rfl _ _ _) rfl ?_
        exact ⟨⟨_, rfl⟩, .inr hJ⟩
    · obtain rfl : k = ms.length := by omega
      gi_wp2_with fail
      go_end0
      exact ⟨⟨_, rfl⟩, .inl ⟨⟨hi, hp⟩, hr⟩⟩

/-- what Replay holds when k moves have gone -/
structure RC (W0 : World) (pa : Nat) (ms : List Mv) (k : Nat) (W : World) : Prop where
  b2 : Blk W W0.heap.size tLp [.pointer none]
  b3 : Blk W (W0.heap.size + 1) 3 [.int .i64 0]
  b4 : Blk W (W0.heap.size + 2) 48 [.int .i64 0]
  t : TMg tL W (W0.heap.size + 3) (stepN [] ms k)
  b5 : Blk W (W0.heap.size + 4) tLp [.pointer (some ⟨W0.heap.size + 3, 0, none⟩)]
  b6 : Blk W (W0.heap.size + 5) 3 [.int .i64 (k : Int)]
  acc : Acc ms k
  gr : W0.grownBy W (some pa)
theorem tm_row {A B : World} {p : Nat} {xs : Bs} {tt : TypeId} (h : TMg tt A p xs) {row : Option Nat} (hg : A.grownBy B row) (hr : ∀ r, row = some r → ∃ o : Obj, A.heap[r]? = some o ∧ o.isCells = false) : TMg tt B p xs :=
  h.kept (KT.grown hg (fun r e => by obtain ⟨o, ho, hc⟩ := hr r e; exact ⟨o, ho, fun cs fr e => by subst e; simp [Obj.isCells] at hc⟩)) (KT.grown hg (fun r e => by obtain ⟨o, ho, hc⟩ := hr r e; exact ⟨o, ho, fun cs fr e => by subst e; simp [Obj.isCells] at hc⟩))
theorem blk_row1 {A B : World} {b : Nat} {t : TypeId} {l : List Value} (h : Blk A b t l) {row : Option Nat} (hg : A.grownBy B row) (hr : ∀ r, row = some r → ∃ o : Obj, A.heap[r]? = some o ∧ o.isCells = false) : Blk B b t l :=
  h.kept hg (fun e => by
    obtain ⟨o, ho, hc⟩ := hr b e.symm
    have hs' : A.heap[b]? = _ := h
    rw [hs'] at ho
    cases ho
    simp [Obj.isCells] at hc)
theorem RC.row {W0 A B : World} {pa k : Nat} {ms : List Mv} (h : RC W0 pa ms k A) {row : Option Nat} (hg : A.grownBy B row) (hr : ∀ r, row = some r → W0.heap.size ≤ r ∧ ∃ o : Obj, A.heap[r]? = some o ∧ o.isCells = false) : RC W0 pa ms k B :=
  have q := fun r e => (hr r e).2
  ⟨blk_row1 h.b2 hg q, blk_row1 h.b3 hg q, blk_row1 h.b4 hg q, tm_row h.t hg q, blk_row1 h.b5 hg q, blk_row1 h.b6 hg q, h.acc, gb_row h.gr hg (fun r e => (hr r e).1)⟩
theorem RC.alloc {W0 A : World} {pa k : Nat} {ms : List Mv} (h : RC W0 pa ms k A) (o : Obj) : RC W0 pa ms k (A.alloc o) :=
  h.row (World.grownBy_alloc A o none) (fun r e => by cases e)
theorem RC.asked {W0 A : World} {pa k : Nat} {ms : List Mv} (h : RC W0 pa ms k A) (hp : pa < W0.heap.size) {t : TypeId} {l : List Value} (hb : Blk A pa t l) (ht : t = 3) (v : Value) : RC W0 pa ms k (A.setCell ⟨pa, 0, none⟩ v) :=
  ⟨h.b2.other (p := ⟨pa, 0, none⟩) (by simp; omega) v, h.b3.other (p := ⟨pa, 0, none⟩) (by simp; omega) v, h.b4.other (p := ⟨pa, 0, none⟩) (by simp; omega) v, h.t.other (grownBy_setAt A pa 0 v) hb (by omega) (by rw [ht]; decide), h.b5.other (p := ⟨pa, 0, none⟩) (by simp; omega) v, h.b6.other (p := ⟨pa, 0, none⟩) (by simp; omega) v, h.acc, gb_trans h.gr (grownBy_setAt A pa 0 v)⟩
/-- where Replay ends -/
structure RE (W0 : World) (pa : Nat) (ms : List Mv) (k : Nat) (e : Int) (W : World) : Prop where
  b2 : Blk W W0.heap.size tLp [.pointer (some ⟨W0.heap.size + 3, 0, none⟩)]
  b3 : Blk W (W0.heap.size + 1) 3 [.int .i64 (k : Int)]
  b4 : Blk W (W0.heap.size + 2) 48 [.int .i64 e]
  t : TMg tL W (W0.heap.size + 3) (stepN [] ms k)
  ran : Ran ms k e
  gr : W0.grownBy W (some pa)
  asked : Blk W pa 3 [.int .i64 ((min (k + 1) ms.length : Nat) : Int)]
theorem RE.row {W0 A B : World} {pa k : Nat} {e : Int} {ms : List Mv} (h : RE W0 pa ms k e A) {row : Option Nat} (hg : A.grownBy B row) (hr : ∀ r, row = some r → W0.heap.size ≤ r ∧ ∃ o : Obj, A.heap[r]? = some o ∧ o.isCells = false) : RE W0 pa ms k e B :=
  have q := fun r e => (hr r e).2
  ⟨blk_row1 h.b2 hg q, blk_row1 h.b3 hg q, blk_row1 h.b4 hg q, tm_row h.t hg q, h.ran, gb_row h.gr hg (fun r e => (hr r e).1), blk_row1 h.asked hg q⟩
/-- the moves' table has turned -/
structure RM (W0 : World) (pa : Nat) (ms : List Mv) (k : Nat) (zs : Bs) (W : World) : Prop where
  b2 : Blk W W0.heap.size tLp [.pointer none]
  b3 : Blk W (W0.heap.size + 1) 3 [.int .i64 0]
  b4 : Blk W (W0.heap.size + 2) 48 [.int .i64 0]
  t : TMg tL W (W0.heap.size + 3) zs
  b5 : Blk W (W0.heap.size + 4) tLp [.pointer (some ⟨W0.heap.size + 3, 0, none⟩)]
  b6 : Blk W (W0.heap.size + 5) 3 [.int .i64 (k : Int)]
  gr : W0.grownBy W (some pa)
theorem RC.moved {W0 A B : World} {pa k : Nat} {ms : List Mv} {zs : Bs} (h : RC W0 pa ms k A) (hg : A.grownBy B (some (W0.heap.size + 3))) (ht : TMg tL B (W0.heap.size + 3) zs) : RM W0 pa ms k zs B :=
  ⟨h.b2.kept hg (by simp), h.b3.kept hg (by simp), h.b4.kept hg (by simp), ht, h.b5.kept hg (by simp), h.b6.kept hg (by simp), gb_row h.gr hg (fun r e => by cases e; omega)⟩
theorem RM.next {W0 A : World} {pa k : Nat} {ms : List Mv} (h : RM W0 pa ms k (stepN [] ms (k + 1)) A) (ha : Acc ms (k + 1)) {v : Int} (hv : v = ((k + 1 : Nat) : Int)) : RC W0 pa ms (k + 1) (A.setCell ⟨W0.heap.size + 5, 0, none⟩ (.int .i64 v)) := by
  subst hv
  exact ⟨h.b2.other (p := ⟨W0.heap.size + 5, 0, none⟩) (by simp) _, h.b3.other (p := ⟨W0.heap.size + 5, 0, none⟩) (by simp) _, h.b4.other (p := ⟨W0.heap.size + 5, 0, none⟩) (by simp) _, h.t.other (grownBy_setAt A _ 0 _) h.b6 (by omega) (by decide), h.b5.other (p := ⟨W0.heap.size + 5, 0, none⟩) (by simp) _, h.b6.set 0 _, ha, gb_row h.gr (grownBy_setAt A _ 0 _) (fun r e => by cases e; omega)⟩
theorem RC.toM {W0 A : World} {pa k : Nat} {ms : List Mv} (h : RC W0 pa ms k A) : RM W0 pa ms k (stepN [] ms k) A := ⟨h.b2, h.b3, h.b4, h.t, h.b5, h.b6, h.gr⟩
/-- the three results are laid down -/
def ends3 (W0 A : World) (k e : Int) : World := ((A.setCell ⟨W0.heap.size, 0, none⟩ (.pointer (some ⟨W0.heap.size + 3, 0, none⟩))).setCell ⟨W0.heap.size + 1, 0, none⟩ (.int .i64 k)).setCell ⟨W0.heap.size + 2, 0, none⟩ (.int .i64 e)
theorem RM.ends {W0 A : World} {pa k : Nat} {ms : List Mv} {e : Int} (h : RM W0 pa ms k (stepN [] ms k) A) (hp : pa < W0.heap.size) (hr : Ran ms k e) (ha : Blk A pa 3 [.int .i64 ((min (k + 1) ms.length : Nat) : Int)]) : RE W0 pa ms k e (ends3 W0 A k e) := by
  unfold ends3
  refine ⟨((h.b2.set 0 _).other (p := ⟨W0.heap.size + 1, 0, none⟩) (by simp) _).other (p := ⟨W0.heap.size + 2, 0, none⟩) (by simp) _, ((h.b3.other (p := ⟨W0.heap.size, 0, none⟩) (by simp) _).set 0 _).other (p := ⟨W0.heap.size + 2, 0, none⟩) (by simp) _, ((h.b4.other (p := ⟨W0.heap.size, 0, none⟩) (by simp) _).other (p := ⟨W0.heap.size + 1, 0, none⟩) (by simp) _).set 0 _, ?_, hr, ?_, ((ha.other (p := ⟨W0.heap.size, 0, none⟩) (by simp; omega) _).other (p := ⟨W0.heap.size + 1, 0, none⟩) (by simp; omega) _).other (p := ⟨W0.heap.size + 2, 0, none⟩) (by simp; omega) _⟩
  · refine ((h.t.other (grownBy_setAt A _ 0 _) h.b2 (by omega) (by decide)).other (grownBy_setAt _ _ 0 _) (h.b3.other (p := ⟨W0.heap.size, 0, none⟩) (by simp) _) (by omega) (by decide)).other (grownBy_setAt _ _ 0 _) ((h.b4.other (p := ⟨W0.heap.size, 0, none⟩) (by simp) _).other (p := ⟨W0.heap.size + 1, 0, none⟩) (by simp) _) (by omega) (by decide)
  · exact gb_row (gb_row (gb_row h.gr (grownBy_setAt A _ 0 _) (fun r e => by cases e; omega)) (grownBy_setAt _ _ 0 _) (fun r e => by cases e; omega)) (grownBy_setAt _ _ 0 _) (fun r e => by cases e; omega)
theorem RE.drew {W0 A : World} {pa k : Nat} {e : Int} {ms : List Mv} (h : RE W0 pa ms k e A) : RE W0 pa ms k e A.drew :=
  ⟨h.b2.drew, h.b3.drew, h.b4.drew, h.t.below ((Below.refl _ A).drew), h.ran, gb_trans h.gr (below_gb ((Below.refl _ A).drew)), h.asked.drew⟩
theorem kf_ends (B : Nat) (W0 A : World) (k e : Int) (hB : W0.heap.size + 3 ≤ B) : KeepsFrom B A (ends3 W0 A k e).drew := by
  unfold ends3
  refine KeepsFrom.trans (KeepsFrom.trans (KeepsFrom.trans (KeepsFrom.of_grownBy (grownBy_setAt A _ 0 _) (fun j e => by cases e; omega)) (KeepsFrom.of_grownBy (grownBy_setAt _ _ 0 _) (fun j e => by cases e; omega))) (KeepsFrom.of_grownBy (grownBy_setAt _ _ 0 _) (fun j e => by cases e; omega))) ⟨Nat.le_refl _, fun _ _ _ h _ => h⟩
theorem results_cell3 {fn : Func} {p u q : Tmp} {ty uy qy : TypeId} (h : fn.results = #[.cell p ty, .cell u uy, .cell q qy]) (tmps : Array Value) (P : Program) (w : World) :
    (results fn tmps).run P w =
      ((asAddr (tmps.getD p undef)).run P w).andThen fun a w₁ => ((loadVar ty a).run P w₁).andThen fun v w₂ => ((asAddr (tmps.getD u undef)).run P w₂).andThen fun b w₃ => ((loadVar uy b).run P w₃).andThen fun x w₄ => ((asAddr (tmps.getD q undef)).run P w₄).andThen fun c w₅ => ((loadVar qy c).run P w₅).andThen fun y w₆ => .ok (.tuple #[v, x, y]) w₆ := by
  simp only [results, h]
  simp [Sem.run_bind, Result.andThen]
theorem gb_cell {W W' : World} {row : Option Nat} (h : W.grownBy W' row) {b i : Nat} (hlt : b < W.heap.size) (hne : some b ≠ row) : W'.cell? ⟨b, i, none⟩ = W.cell? ⟨b, i, none⟩ := by
  unfold World.cell?
  rw [h.block b hlt hne]
theorem rd_gb {α : Type} {cv : α → List Value} {n pa : Nat} {W W' : World} {sv : Value} {zs : List α} (h : Rd cv n pa W sv zs) (hp : pa < W.heap.size) (hg : W.grownBy W' (some pa)) : Rd cv n W'.heap.size W' sv zs := by
  have hz := hg.size
  rcases h with e | ⟨b, off, cap, e, hlt, hc⟩
  · exact .inl e
  · exact .inr ⟨b, off, cap, e, by omega, fun j x hx c v hv => (gb_cell hg (by omega) (by simp; omega)).trans (hc j x hx c v hv)⟩
theorem replay_end {W w2 W' : World} {pa D k : Nat} {er : Int} {ms : List Mv} {tm : Array Value} (hD : w2.heap.size ≤ D) (hz2 : w2.heap.size = W.heap.size + 6) (hE : RE W pa ms k er W') (hK : W'.heap[D]? = some (.deferred (some [])))
    (h2 : tm.getD 2 undef = .pointer (some ⟨W.heap.size, 0, none⟩) := by rfl) (h3 : tm.getD 3 undef = .pointer (some ⟨W.heap.size + 1, 0, none⟩) := by rfl) (h4 : tm.getD 4 undef = .pointer (some ⟨W.heap.size + 2, 0, none⟩) := by rfl) :
    bodyPostM Fence.wide 4 Try.prog Try.f49 (fun e w' => ∃ (k : Nat) (er : Int), e = .returned (.tuple #[.pointer (some ⟨W.heap.size + 3, 0, none⟩), .int .i64 (k : Int), .int .i64 er]) ∧ RE W pa ms k er w') .ret { tmps := tm, defers := [{ target := .collected D, args := #[] }] } W' := by
  refine ⟨by simp, .inl ⟨_, _, rfl, run_takeDeferred hK, ?_⟩⟩
  have hE2 : RE W pa ms k er (W'.putObj D (.deferred none)) := hE.row (grownBy_putObj' W' D (.deferred none)) (fun r e => by cases e; exact ⟨by omega, _, hK, rfl⟩)
  have c2 := hE2.b2.cell (i := 0) rfl
  have c3 := hE2.b3.cell (i := 0) rfl
  have c4 := hE2.b4.cell (i := 0) rfl
  refine ⟨_, (results_cell3 rfl _ _ _).trans ?_, k, er, rfl, hE2⟩
  rw [h2, h3, h4]
  go_simp
set_option maxRecDepth 100000 in
set_option maxHeartbeats 8000000 in
theorem replay_any (W : World) (B1 pa : Nat) (A : Option Addr) (c : Nat) (ms : List Mv) (hsm : ms.length ≤ 60) (hpa : Blk W pa 3 [.int .i64 0]) (hB : Blk W B1 73 [.slice A ms.length c]) (hlt : B1 < pa) (hR : Rd cM 3 pa W (.slice A ms.length c) ms) (hw : ∀ m ∈ ms, w64 m.1 ∧ w64 m.2.1) :
    Calls Try.prog 49 #[.func (.func 50) #[] #[.pointer (some ⟨B1, 0, none⟩), .pointer (some ⟨pa, 0, none⟩)]] W fun e w' => ∃ (k : Nat) (er : Int), e = .returned (.tuple #[.pointer (some ⟨W.heap.size + 3, 0, none⟩), .int .i64 (k : Int), .int .i64 er]) ∧ RE W pa ms k er w' := by
  have hps := hpa.lt
  refine (callsIn_wide (n := 4)).1 ?_
  refine callsIn_of_wp_marks Try.func49 rfl trivial ?_ rfl
  refine wpIn_wide.2 ?_
  simp only [Try.ntmps49, List.size_toArray, List.length_cons, List.length_nil, Nat.reduceAdd, Nat.reduceSub, Array.replicate_succ, Array.replicate_zero, List.push_toArray, List.append_toArray, List.nil_append, List.cons_append]
  go_wp2_with fail
  obtain ⟨w2, hw2⟩ : ∃ w2, (((((W.alloc (.cells #[.pointer none] tLp)).alloc (.cells #[.int .i64 0] 3)).alloc (.cells #[.int .i64 0] 48)).alloc (.cells #[.pointer none] 30)).alloc (.cells #[.pointer (some ⟨W.heap.size + 1 + 1 + 1, 0, none⟩)] tLp)).alloc (.cells #[.int .i64 0] 3) = w2 := ⟨_, rfl⟩
  have hz2 : w2.heap.size = W.heap.size + 6 := by rw [← hw2]; simp
  have h0 : RC W pa ms 0 w2 ∧ Blk w2 pa 3 [.int .i64 0] := by
    obtain ⟨v1, hv1⟩ : ∃ v1, W.alloc (.cells #[.pointer none] tLp) = v1 := ⟨_, rfl⟩
    have s1 : v1.heap.size = W.heap.size + 1 := by rw [← hv1]; simp
    have d1 : Blk v1 W.heap.size tLp [.pointer none] := by rw [← hv1]; exact Blk.new W _ _
    have p1 : Blk v1 pa 3 [.int .i64 0] := by rw [← hv1]; exact hpa.alloc _
    have g1 : W.grownBy v1 (some pa) := by rw [← hv1]; exact gb_row (gb_refl W pa) (World.grownBy_alloc W _ none) (fun r e => by cases e)
    rw [hv1] at hw2
    obtain ⟨v2, hv2⟩ : ∃ v2, v1.alloc (.cells #[.int .i64 0] 3) = v2 := ⟨_, rfl⟩
    have s2 : v2.heap.size = W.heap.size + 2 := by rw [← hv2]; simp [s1]
    have d2 : Blk v2 (W.heap.size + 1) 3 [.int .i64 0] := by rw [← hv2, ← s1]; exact Blk.new v1 _ _
    rw [hv2] at hw2
    obtain ⟨v3, hv3⟩ : ∃ v3, v2.alloc (.cells #[.int .i64 0] 48) = v3 := ⟨_, rfl⟩
    have s3 : v3.heap.size = W.heap.size + 3 := by rw [← hv3]; simp [s2]
    have d3 : Blk v3 (W.heap.size + 2) 48 [.int .i64 0] := by rw [← hv3, ← s2]; exact Blk.new v2 _ _
    rw [hv3] at hw2
    obtain ⟨v4, hv4⟩ : ∃ v4, v3.alloc (.cells #[.pointer none] 30) = v4 := ⟨_, rfl⟩
    have s4 : v4.heap.size = W.heap.size + 4 := by rw [← hv4]; simp [s3]
    have d4 : Blk v4 (W.heap.size + 3) 30 [.pointer none] := by rw [← hv4, ← s3]; exact Blk.new v3 _ _
    rw [hv4] at hw2
    obtain ⟨v5, hv5⟩ : ∃ v5, v4.alloc (.cells #[.pointer (some ⟨W.heap.size + 1 + 1 + 1, 0, none⟩)] tLp) = v5 := ⟨_, rfl⟩
    have s5 : v5.heap.size = W.heap.size + 5 := by rw [← hv5]; simp [s4]
    have d5 : Blk v5 (W.heap.size + 4) tLp [.pointer (some ⟨W.heap.size + 3, 0, none⟩)] := by rw [← hv5, ← s4]; exact Blk.new v4 _ _
    rw [hv5] at hw2
    have d6 : Blk w2 (W.heap.size + 5) 3 [.int .i64 0] := by rw [← hw2, ← s5]; exact Blk.new v5 _ _
    have q (b : Nat) (t : TypeId) (l : List Value) (h : Blk v5 b t l) : Blk w2 b t l := by rw [← hw2]; exact h.alloc _
    have q4 (b : Nat) (t : TypeId) (l : List Value) (h : Blk v4 b t l) : Blk w2 b t l := q _ _ _ (by rw [← hv5]; exact h.alloc _)
    have q3 (b : Nat) (t : TypeId) (l : List Value) (h : Blk v3 b t l) : Blk w2 b t l := q4 _ _ _ (by rw [← hv4]; exact h.alloc _)
    have q2 (b : Nat) (t : TypeId) (l : List Value) (h : Blk v2 b t l) : Blk w2 b t l := q3 _ _ _ (by rw [← hv3]; exact h.alloc _)
    have q1 (b : Nat) (t : TypeId) (l : List Value) (h : Blk v1 b t l) : Blk w2 b t l := q2 _ _ _ (by rw [← hv2]; exact h.alloc _)
    have g6 : v1.grownBy w2 (some pa) := by
      rw [← hw2, ← hv5, ← hv4, ← hv3, ← hv2]
      exact below_gb (((((((Below.refl v1.heap.size v1).alloc (Nat.le_refl _) _).alloc (by simp) _).alloc (by simp; omega) _).alloc (by simp; omega) _).alloc (by simp; omega) _))
    exact ⟨⟨q1 _ _ _ d1, q2 _ _ _ d2, q3 _ _ _ d3, ⟨none, .leaf, q4 _ _ _ d4, rfl, rfl⟩, q _ _ _ d5, d6, Acc.zero ms, gb_trans g1 g6⟩, q1 _ _ _ p1⟩
  rw [hw2]
  have hRd := fun W' (h : W.grownBy W' (some pa)) => rd_gb hR hps h
  have hcB := fun W' (h : W.grownBy W' (some pa)) => (hB.kept h (by simp; omega)).cell (i := 0) rfl
  have HWV := Lib.hid hw
  have IT := moves_iter 3 B1 pa A c ms (by omega) (RC W pa ms) (fun k W' h => ⟨hcB W' h.gr, hRd W' h.gr⟩) (fun k W' o h => h.alloc o) (fun k W' t l v h hb ht => h.asked hps hb ht v)
  clear hw2 hB hR hw hRd hcB
  refine wpIn_wide.1 (range_gen (F := Fence.wide) (n := 4) rfl (by omega) (gf := 50) (lb := #[.pointer (some ⟨B1, 0, none⟩), .pointer (some ⟨pa, 0, none⟩)]) rfl trivial (enters_of Try.func50 (by kernel_rfl) rfl) (encs := fun k : Nat => #[evM (ms.getD k dM)]) (fun _ => rfl)
    (fun W' => RC W pa ms 0 W' ∧ Blk W' pa 3 [.int .i64 0])
    (fun k W' => k < ms.length ∧ RC W pa ms k W' ∧ Blk W' pa 3 [.int .i64 ((k + 1 : Nat) : Int)])
    (fun k W' => RC W pa ms (k + 1) W' ∧ Blk W' pa 3 [.int .i64 ((k + 1 : Nat) : Int)])
    (fun c W' => c = .ret ∧ ∃ (k : Nat) (er : Int), RE W pa ms k er W')
    (fun W' => RC W pa ms ms.length W' ∧ Blk W' pa 3 [.int .i64 (ms.length : Int)])
    (fun k a' W' => ∃ q : Nat, a' = { tmps := #[.func (.func 50) #[] #[.pointer (some ⟨B1, 0, none⟩), .pointer (some ⟨pa, 0, none⟩)], undef, .pointer (some ⟨W.heap.size, 0, none⟩), .pointer (some ⟨W.heap.size + 1, 0, none⟩), .pointer (some ⟨W.heap.size + 2, 0, none⟩), .pointer (some ⟨W.heap.size + 4, 0, none⟩), .pointer (some ⟨W.heap.size + 5, 0, none⟩), .pointer (some ⟨q, 0, none⟩), undef, .agg #[.pointer none], .pointer (some ⟨W.heap.size + 3, 0, none⟩), .func (.func 50) #[] #[.pointer (some ⟨B1, 0, none⟩), .pointer (some ⟨pa, 0, none⟩)], evM (ms.getD k dM), undef, undef, undef, undef, undef, undef, undef, undef, undef, undef, undef, undef, undef, undef, undef, undef, undef], defers := [] } ∧ k < ms.length ∧ RC W pa ms k W' ∧ Blk W' pa 3 [.int .i64 ((k + 1 : Nat) : Int)] ∧ W.heap.size + 6 ≤ q ∧ Blk W' q 78 (cM (ms.getD k dM)))
    (fun s A B row hs hg hr => ⟨hs.1.row hg (fun r e => ⟨by have := (hr r e).1; omega, (hr r e).2⟩), blk_row1 hs.2 hg (fun r e => (hr r e).2)⟩)
    (fun k s A B row hs hg hr => ⟨hs.1.row hg (fun r e => ⟨by have := (hr r e).1; omega, (hr r e).2⟩), blk_row1 hs.2 hg (fun r e => (hr r e).2)⟩)
    (fun c s A B row hs hg hr => by obtain ⟨h1, k, er, h2⟩ := hs; exact ⟨h1, k, er, h2.row hg (fun r e => ⟨by have := (hr r e).1; omega, (hr r e).2⟩)⟩)
    (fun s A B row hs hg hr => ⟨hs.1.row hg (fun r e => ⟨by have := (hr r e).1; omega, (hr r e).2⟩), blk_row1 hs.2 hg (fun r e => (hr r e).2)⟩)
    (fun k a' s A B row hs hg hr => by obtain ⟨q, h1, h2, h3, h4, h5, h6⟩ := hs; exact ⟨q, h1, h2, h3.row hg (fun r e => ⟨by have := (hr r e).1; omega, (hr r e).2⟩), blk_row1 h4 hg (fun r e => (hr r e).2), h5, blk_row1 h6 hg (fun r e => (hr r e).2)⟩)
    h0 IT ?assign ?body ?done ?stop)
  case assign =>
    clear IT h0
    rintro l k W' K ⟨hk, hP, hp⟩ hK
    obtain ⟨⟨f, t, n⟩, hx⟩ : ∃ x, ms.getD k dM = x := ⟨_, rfl⟩
    have hz := hP.b6.lt
    have HK := Lib.hid (fun a' ha' => hK a' (W'.alloc (.cells #[.int .i64 f, .int .i64 t, .int .i64 n] 78)) (KeepsFrom.of_grownBy (World.grownBy_alloc W' _ none) (fun j e => by cases e)) ⟨W'.heap.size, ha', hk, hP.alloc _, hp.alloc _, by omega, by rw [hx]; exact Blk.new W' _ _⟩)
    rw [hx] at HK ⊢
    unfold evM at HK ⊢
    clear hK hP hp hx
    gi_wp2_with fail
    exact HK.out _ rfl
  case body =>
    clear IT h0
    rintro l k a' W' hl' hr ⟨q, rfl, hk, hP, hp, hq, hb⟩
    obtain ⟨⟨f, t, n⟩, hx⟩ : ∃ x, ms.getD k dM = x := ⟨_, rfl⟩
    have hx2 : ms[k]? = some (f, t, n) := by rw [List.getD_eq_getElem?_getD, List.getElem?_eq_getElem hk] at hx; rw [List.getElem?_eq_getElem hk]; exact congrArg some hx
    rw [hx] at hb ⊢
    have hwm := HWV.out _ (List.mem_of_getElem? hx2)
    have hF : Fine (stepN [] ms k) := Fine.nil.stepN ms k
    obtain ⟨ev, hev⟩ : ∃ ev, moveE (getV (stepN [] ms k)) (f, t, n) = ev := ⟨_, rfl⟩
    have HMC := Lib.hid (move_c W' (W.heap.size + 3) (stepN [] ms k) _ f t n ev (tt := tL) (by decide) hP.t hF hwm.1 hwm.2 hev (stepN_succ [] ms hx2).symm)
    have c5 := hP.b5.cell (i := 0) rfl
    have m0 := hb.cell (i := 0) rfl
    have m1 := hb.cell (i := 1) rfl
    have m2 := hb.cell (i := 2) rfl
    have HP := Lib.hid hP; have HPA := Lib.hid hp
    have HEV := Lib.hid hev; have HX2 := Lib.hid hx2
    have hpp : pa ≠ W.heap.size + 3 := by omega
    clear hP hp hb hx hx2 hF hev hwm
    unfold evM
    gi_wp2_with fail
    refine ⟨trivial, ?_⟩
    refine (CallsIn.inRound l (callsIn_wide.2 HMC.out)).mono ?_; rintro e w3 ⟨rfl, hT3, hg3⟩
    have hM := HP.out.moved hg3 hT3
    have hK3 : KeepsFrom w2.heap.size W' w3 := KeepsFrom.of_grownBy hg3 (fun j e => by cases e; omega)
    have hpa3 := HPA.out.kept hg3 (by simpa using hpp)
    have c5 := hM.b5.cell (i := 0) rfl
    have c6 := hM.b6.cell (i := 0) rfl
    have f6 := hM.b6.frozen 0
    have f2 := hM.b2.frozen 0
    have d2 := hM.b2.cell (i := 0) rfl
    have d3 := hM.b3.cell (i := 0) rfl
    have d4 := hM.b4.cell (i := 0) rfl
    have f3 := hM.b3.frozen 0
    have f4 := hM.b4.frozen 0
    have HM := Lib.hid hM; have HK3 := Lib.hid hK3; have HP3 := Lib.hid hpa3
    clear hM hK3 hpa3 hT3 hg3 HMC
    obtain ⟨ki, hki⟩ : ∃ ki, (k : Int) = ki := ⟨_, rfl⟩
    rw [hki] at c6
    have k7 : ki + 1 ≤ 9223372036854775807 := by omega
    have k8 : -9223372036854775808 ≤ ki + 1 := by omega
    have HKI := Lib.hid hki
    clear hki
    by_cases h0 : ev = 0
    · subst h0
      gi_wp2_with fail
      exact ⟨HK3.out.trans (KeepsFrom.of_grownBy (grownBy_setAt w3 _ 0 _) (fun j e => by cases e; omega)), HM.out.next (HP.out.acc.succ HX2.out HEV.out) (by have := HKI.out; omega), HP3.out.other (p := ⟨W.heap.size + 5, 0, none⟩) (by simp; omega) _⟩
    · have hev0 : (ev == 0) = false := by simp [h0]
      gi_wp2_with fail
      have hM := HM.out
      rw [stepN_succ [] ms HX2.out, show moveL (stepN [] ms k) (f, t, n) = stepN [] ms k from by unfold moveL; rw [HEV.out, if_neg h0]] at hM
      have HE := Lib.hid (hM.ends hps ⟨by omega, HP.out.acc, .inr ⟨_, HX2.out, HEV.out, h0⟩⟩ (by rw [Nat.min_eq_left (by omega)]; exact HP3.out))
      rw [HKI.out] at HE
      clear hM
      gi_region
      all_goals
        obtain ⟨w5, hw5⟩ : ∃ w5, ends3 W w3 ki ev = w5 := ⟨_, rfl⟩
        have hE := HE.out
        have hKE := kf_ends w2.heap.size W w3 ki ev (by omega)
        rw [hw5] at hE hKE
        unfold ends3 at hw5
        rw [hw5]
        have HE2 := Lib.hid hE.drew; have HKE := Lib.hid (HK3.out.trans hKE)
        clear hE hKE hw5 HE
        gi_wp2_with fail
        exact ⟨HKE.out, rfl, k, ev, HE2.out⟩
  case done =>
    clear IT h0
    rintro D W' hD ⟨hP, hp⟩ hK
    have c5 := hP.b5.cell (i := 0) rfl
    have c6 := hP.b6.cell (i := 0) rfl
    have f2 := hP.b2.frozen 0
    have d2 := hP.b2.cell (i := 0) rfl
    have d3 := hP.b3.cell (i := 0) rfl
    have d4 := hP.b4.cell (i := 0) rfl
    have f3 := hP.b3.frozen 0
    have f4 := hP.b4.frozen 0
    have HP := Lib.hid hP; have HPA := Lib.hid hp
    clear hP hp
    go_wp2_with fail
    have hE := ((HP.out.toM).ends hps ⟨Nat.le_refl _, HP.out.acc, .inl ⟨rfl, rfl⟩⟩ (by rw [Nat.min_eq_right (by omega)]; exact HPA.out)).drew
    have hK5 : (ends3 W W' (ms.length : Int) 0).drew.heap[D]? = some (.deferred (some [])) := by
      unfold ends3
      exact (((Below.heap_setCell _ _ _ D (by simp; omega)).trans ((Below.heap_setCell _ _ _ D (by simp; omega)).trans (Below.heap_setCell W' _ _ D (by simp; omega)))).trans hK)
    have HE := Lib.hid hE; have HK5 := Lib.hid hK5
    clear hE hK5
    go_region
    all_goals
      obtain ⟨w5, hw5⟩ : ∃ w5, (ends3 W W' (ms.length : Int) 0).drew = w5 := ⟨_, rfl⟩
      have hE := HE.out; have hK5 := HK5.out
      rw [hw5] at hE hK5
      unfold ends3 at hw5
      rw [hw5]
      clear hw5 HE HK5
      go_wp2_with fail
      exact replay_end hD hz2 hE hK5
  case stop =>
    clear IT h0
    rintro D c W' hD ⟨rfl, k, er, hE⟩ hK
    gi_wp2
    exact replay_end hD hz2 hE hK

end Go.Proofs.Ytmdacfgofilbdaa.Led
