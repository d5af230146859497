/- Dcd7, DelP, laid together. -/
import Derived.Test.YtnlhgnioedalpaaGr10
import Derived.Test.YtnlhgnioedalpaaGr09
import Derived.Deep.RegionLaw
import Derived.Deep.DeepCutAuto
import Derived.StillTactics

/- ledger: a list of balances is written. -/
set_option linter.unusedSimpArgs false
set_option linter.unusedVariables false
namespace Go.Proofs.Ytnlhgnioedalpaa.Cod
open Go.RowKit Go.Shelf Go.Proofs.YtnlhgnioedalpaaW.PrintWords Go.Proofs.Ytnlhgnioedalpaa.CodL
open Go.Proofs.Ytnlhgnioedalpaa.Pri (Ch dC tF)
attribute [local go_sem] Oper.semAt_some

/-- one thing is written -/
def OneP {α : Type} (ev : α → Value) (wr : α → List Int) (good : α → Prop) (F : Nat) (lb : Array Value) : Prop :=
  (∀ args w, (callFunc F args).run Try.prog w = .ok (.enter F args) w) ∧ ∀ x W base p v bs, good x → bs.length ≤ 549755813888 → OM W base p v bs → Calls Try.prog F (#[.pointer (some ⟨p, 0, none⟩), ev x] ++ lb) W fun e w' => e = .returned (.tuple #[]) ∧ ∃ v', OM w' base p v' (bs ++ wr x) ∧ RFr p v v' W w'

def goodN (x : Int) : Prop := -9223372036854775808 ≤ x ∧ x ≤ 9223372036854775807
def evC (q : Ch) : Value := .agg #[.int .i64 q.1, .int .u64 q.2.1, .int .i64 q.2.2]
def goodC (q : Ch) : Prop := goodN q.1 ∧ (0 ≤ q.2.1 ∧ q.2.1 < 18446744073709551616) ∧ goodN q.2.2
def wrC (q : Ch) : List Int := uv (max q.1 0).toNat ++ uv q.2.1.toNat ++ uv (zz q.2.2)
theorem wrC_len {q : Ch} (h : goodC q) : (wrC q).length ≤ 30 := by
  have h1 := uv_len10 (n := (max q.1 0).toNat) (by have := h.1.2; omega)
  have h2 := uv_len10 (n := q.2.1.toNat) (by have := h.2.1; omega)
  have h3 := uv_len10 (zz_lt h.2.2)
  unfold wrC
  rw [List.length_append, List.length_append]
  omega
def cP3 (q : Ch) : List Value := [.int .i64 q.1, .int .u64 q.2.1, .int .i64 q.2.2]
theorem cP3_length (q : Ch) : (cP3 q).length = 3 := rfl
theorem infoC : (Try.prog.info? 93).map (fun i => (i.zero, i.size, i.bytes)) = some (some (.agg #[.int .i64 0, .int .u64 0, .int .i64 0]), 3, 24) := by kernel_rfl
def LisTs (t : TypeId) : Prop := t = tF
/-- all of zs come, each as a change, in order -/
def GivesC (G : Nat) (lb : Array Value) (Ts : TypeId → Prop) (St N : World → Prop) (zs : List Ch) : Prop :=
  (∀ args w, (callFunc G args).run Try.prog w = .ok (.enter G args) w) ∧
  ∀ (n bnd : Nat) (Inv : Nat → World → Prop), (∀ k W, Inv k W → N W) → (∀ k W m, Inv k W → Inv k (W.drewN m)) → (∀ k b, bnd ≤ b → OwnFrom b (fun (_ : Unit) W => Inv k W)) →
    IterOk3 Fence.wide n Try.prog G lb Ts (fun k : Nat => #[evC (zs.getD k dC)]) (fun W => bnd ≤ W.heap.size ∧ St W ∧ Inv 0 W) (fun k W => k < zs.length ∧ Inv k W) (fun k W => Inv (k + 1) W) (Inv zs.length)
theorem KTy.setOther {t u : TypeId} {W : World} {b : Nat} {l : List Value} (hb : Blk W b u l) (ht : t ≠ u) (v : Value) : KTy t W (W.setCell ⟨b, 0, none⟩ v) :=
  ⟨by simp [World.setCell], fun c cs fr hc => (Below.heap_setCell W ⟨b, 0, none⟩ v c (fun e => by
    have hb' : W.heap[b]? = _ := hb
    have e' : c = b := e
    subst e'
    rw [hc] at hb'
    injection hb' with h1
    injection h1 with _ h2
    exact ht h2)).trans hc⟩
theorem OM.own {β : Type} (base p : Nat) (v : β → Value) (bs : β → List Int) : Own (fun (s : β) W => OM W base p (v s) (bs s)) := fun s A B row hs hg hr => by
  obtain ⟨h1, h2, h3⟩ := hs
  exact ⟨h1, blk_own p _ (fun s => [v s]) s A B row h2 hg hr, own_move h3 (fun k e => hg.block k (own_lt h3 k e) (fun e' => by
    obtain ⟨o, ho, hc⟩ := hr k e'.symm
    obtain ⟨cs, hcs⟩ := own_typed h3 k e
    rw [hcs] at ho
    cases ho
    simp [Obj.isCells] at hc))⟩
theorem flat_take {α : Type} (wr : α → List Int) (zs : List α) (d : α) {k : Nat} (hk : k < zs.length) : (zs.take (k + 1)).flatMap wr = (zs.take k).flatMap wr ++ wr (zs.getD k d) := by
  rw [List.take_succ_eq_append_getElem hk, List.flatMap_append]
  simp [hk]
theorem flat_len {α : Type} {wr : α → List Int} {m : Nat} (zs : List α) (h : ∀ z ∈ zs, (wr z).length ≤ m) : (zs.flatMap wr).length ≤ zs.length * m := by
  induction zs with
  | nil => simp
  | cons z zs ih =>
    rw [List.flatMap_cons, List.length_append, List.length_cons, Nat.add_mul]
    have h1 := h z List.mem_cons_self
    have h2 := ih (fun x hx => h x (List.mem_cons_of_mem _ hx))
    omega

theorem kty_fr {base p : Nat} {T u t : TypeId} {l : List Value} {W W' : World} (hF : Fr base p T W W') (hP : Blk W p u l) (ht : t ≠ T) (hu : t ≠ u) : KTy t W W' :=
  ⟨hF.size, fun b cs fr hb => (hF.keep b (Array.getElem?_eq_some_iff.1 hb).1 (fun e => by
    subst e
    unfold Blk at hP
    rw [hP] at hb
    simp at hb
    exact hu hb.2.1.symm) (fun cs' fr' e => by
    rw [hb] at e
    simp at e
    exact ht e.2.1)).trans hb⟩
/-- how far the list is written: the body's object behind the function's box, the count -/
def PI (W : World) (F : Nat) (lb : Array Value) (zs : List Ch) (k : Nat) (W' : World) : Prop :=
  (∃ v, OM W' (W.heap.size + 1) (W.heap.size + 1) v ((zs.take k).flatMap wrC)) ∧ Blk W' W.heap.size 140 [.func (.func F) #[] lb] ∧ Blk W' (W.heap.size + 1 + 1) 32 [.int .u64 (k : Int)] ∧ Below W.heap.size W W'
theorem PI.own (W : World) (F : Nat) (lb : Array Value) (zs : List Ch) (k : Nat) {b : Nat} (hb : W.heap.size ≤ b) : OwnFrom b (fun (_ : Unit) W' => PI W F lb zs k W') := fun s A B row ⟨⟨v, h1⟩, h2, h3, h4⟩ hg hr =>
  ⟨⟨v, Own.from (OM.own _ _ (fun _ : Unit => v) (fun _ => _)) b () A B row h1 hg hr⟩, Own.from (blk_own _ _ (fun _ : Unit => _)) b () A B row h2 hg hr, Own.from (blk_own _ _ (fun _ : Unit => _)) b () A B row h3 hg hr, ownFrom_below (Nat.le_refl _) hb () A B row h4 hg hr⟩

set_option maxRecDepth 100000 in
set_option maxHeartbeats 4000000 in
theorem put_any (W : World) (base p : Nat) (v0 : Value) (bs : List Int) (F : Nat) (lb : Array Value) (hF : OneP evC wrC goodC F lb) (G : Nat) (lbs : Array Value) (zs : List Ch) (St N : World → Prop) (hG : GivesC G lbs LisTs St N zs) (hSt : ∀ W', Below W.heap.size W W' → St W') (hN : ∀ W', Below W.heap.size W W' → N W') (hgd : ∀ z ∈ zs, goodC z) (hz : zs.length ≤ 1073741824) (hsm : bs.length ≤ 274877906944) (hM : OM W base p v0 bs) :
    Calls Try.prog 88 #[.pointer (some ⟨p, 0, none⟩), .func (.func G) #[] lbs, .func (.func F) #[] lb] W fun e w' => e = .returned (.tuple #[]) ∧ ∃ v', OM w' base p v' (bs ++ uv zs.length ++ zs.flatMap wrC) ∧ RFr p v0 v' W w' := by
  refine (callsIn_wide (n := 4)).1 ?_
  refine callsIn_of_wp_marks Try.func88 rfl trivial ?_ rfl
  refine wpIn_wide.2 ?_
  simp only [Try.ntmps88, List.size_toArray, List.length_cons, List.length_nil, Nat.reduceAdd, Nat.reduceSub, Array.replicate_succ, Array.replicate_zero, List.push_toArray, List.append_toArray, List.nil_append, List.cons_append]
  go_wp2_with fail
  have b0 := ((Blk.new W [.func (.func F) #[] lb] 140).alloc (.cells #[.slice none 0 0] 136)).alloc (.cells #[.int .u64 0] 32)
  have b1 := (Blk.new2 W (.cells #[.func (.func F) #[] lb] 140) [.slice none 0 0] 136).alloc (.cells #[.int .u64 0] 32)
  have b2 := Blk.new2 (W.alloc (.cells #[.func (.func F) #[] lb] 140)) (.cells #[.slice none 0 0] 136) [.int .u64 0] 32
  rw [World.size_alloc] at b2
  have hB0 := (bel_alloc2 W (.cells #[.func (.func F) #[] lb] 140) (.cells #[.slice none 0 0] 136)).alloc (by simp; omega) (.cells #[.int .u64 0] 32)
  obtain ⟨W2, hW2⟩ : ∃ W2, (((W.alloc (.cells #[.func (.func F) #[] lb] 140)).alloc (.cells #[.slice none 0 0] 136)).alloc (.cells #[.int .u64 0] 32)) = W2 := ⟨_, rfl⟩
  rw [hW2] at b0 b1 b2 hB0 ⊢
  have hz2 : W2.heap.size = W.heap.size + 3 := by rw [← hW2]; simp
  clear hW2
  have hbW : W.heap.size ≤ W2.heap.size := by omega
  have hP0 : PI W F lb zs 0 W2 := ⟨⟨_, Nat.le_refl _, b1, World.ownsRow_nil _ _ _ _⟩, b0, b2, hB0⟩
  clear b0 b1 b2 hB0
  have hOw : ∀ k, OwnFrom W2.heap.size (fun (_ : Unit) W' => PI W F lb zs k W') := fun k => PI.own W F lb zs k hbW
  refine wpIn_wide.1 (range_gen3 (F := Fence.wide) (n := 4) rfl (by omega) (gf := G) (lb := lbs) rfl trivial hG.1 (encs := fun k : Nat => #[.agg #[.int .i64 (zs.getD k dC).1, .int .u64 (zs.getD k dC).2.1, .int .i64 (zs.getD k dC).2.2]]) (fun _ => rfl) LisTs
    (fun W' => W.heap.size ≤ W'.heap.size ∧ St W' ∧ PI W F lb zs 0 W') (fun k W' => k < zs.length ∧ PI W F lb zs k W') (fun k W' => PI W F lb zs (k + 1) W') (fun _ _ => False) (fun W' => PI W F lb zs zs.length W')
    (fun k a' W' => ∃ b8, a' = { tmps := #[.pointer (some ⟨p, 0, none⟩), .func (.func G) #[] lbs, .func (.func F) #[] lb, undef, undef, .pointer (some ⟨W.heap.size, 0, none⟩), .pointer (some ⟨W.heap.size + 1, 0, none⟩), .pointer (some ⟨W.heap.size + 1 + 1, 0, none⟩), .pointer (some ⟨b8, 0, none⟩), .func (.func G) #[] lbs, .agg #[.int .i64 (zs.getD k dC).1, .int .u64 (zs.getD k dC).2.1, .int .i64 (zs.getD k dC).2.2], undef, undef, undef, undef, undef, undef, undef, undef, undef, undef, undef, undef, undef, undef, undef, undef, undef, undef], defers := [] } ∧ k < zs.length ∧ Blk W' b8 93 [.int .i64 (zs.getD k dC).1, .int .u64 (zs.getD k dC).2.1, .int .i64 (zs.getD k dC).2.2] ∧ PI W F lb zs k W')
    (fun s A A' row hs hg hr => by
      have h := hOw 0 () A A' row hs.2.2 hg hr
      exact ⟨Nat.le_trans hs.1 hg.size, hSt _ h.2.2.2, h⟩) (fun k => hOw (k + 1)) (fun _ _ _ _ _ hs _ _ => hs) (hOw zs.length)
    (fun k a' s A A' row hs hg hr => by
      obtain ⟨b8, h1, h2, h3, h4⟩ := hs
      exact ⟨b8, h1, h2, Own.from (blk_own _ _ (fun _ : Unit => _)) _ () A A' row h3 hg hr, hOw k () A A' row h4 hg hr⟩)
    ⟨hbW, hSt _ hP0.2.2.2, hP0⟩ (hG.2 3 W.heap.size (fun k W' => PI W F lb zs k W') (fun k W' h => hN _ h.2.2.2)
      (fun k W' m h => hOw k () W' _ none h ⟨rfl, rfl, rfl, Nat.le_refl _, fun _ _ _ => rfl⟩ (fun r e => by cases e))
      (fun k b hb => PI.own W F lb zs k hb)) ?assign ?body ?done ?stop)
  case assign =>
    rintro l k W' K ⟨hk, hI⟩ hK
    obtain ⟨⟨x, y, yz⟩, hx⟩ : ∃ x, zs.getD k dC = x := ⟨_, rfl⟩
    rw [hx] at hK ⊢
    have HK := Lib.hid (fun a' ha' => hK a' (W'.alloc (.cells #[.int .i64 x, .int .u64 y, .int .i64 yz] 93)) (KeepsFrom.of_grownBy (World.grownBy_alloc W' _ none) (fun j e => by cases e)) (fun t _ => KTy.below ((Below.refl _ W').alloc (Nat.le_refl _) _)) ⟨W'.heap.size, ha', hk, Blk.new W' _ _, PI.own W F lb zs k (Nat.le_refl _) () W' _ none hI (World.grownBy_alloc W' _ none) (fun r e => by cases e)⟩)
    clear hK hI
    gi_wp2
    exact HK.out _ rfl
  case body =>
    rintro l k a' W' hl hr ⟨b8, ha, hk, h8, ⟨v, hM1⟩, hb0, hb2, hB⟩
    have hft := flat_take wrC zs dC hk
    have hgx : goodC (zs.getD k dC) := hgd _ (by simp [hk])
    have hfl := flat_len (wr := wrC) (m := 30) (zs.take k) (fun z hz' => wrC_len (hgd z (List.mem_of_mem_take hz')))
    rw [List.length_take] at hfl
    obtain ⟨⟨x, y, yz⟩, hx⟩ : ∃ x, zs.getD k dC = x := ⟨_, rfl⟩
    rw [hx] at ha hft hgx h8
    have c80 := h8.cell (i := 0) rfl
    have c81 := h8.cell (i := 1) rfl
    have c82 := h8.cell (i := 2) rfl
    have HFT := Lib.hid hft; clear hft
    have HX := Lib.hid hx; clear hx
    have c0 := hb0.cell (i := 0) rfl
    have hlm : ((zs.take k).flatMap wrC).length ≤ 549755813888 := by omega
    have HO := Lib.hid (hF.2 (x, y, yz) W' _ _ v _ hgx hlm hM1)
    have hk1 : (k : Int) < 1073741824 := by omega
    have hk0 : (0 : Int) ≤ (k : Int) := by omega
    have eg := hF.1
    subst ha
    unfold evC at HO
    gi_wp2_with fail
    refine ⟨trivial, ?_⟩
    refine (CallsIn.inRound l (callsIn_wide.2 HO.out)).mono ?_; rintro e w3 ⟨rfl, v3, hM3, hF3⟩
    have hFr := hM1.fr hF3
    have hb03 := hFr.blk hb0 (by omega) (by decide)
    have hb23 := hFr.blk hb2 (by omega) (by decide)
    have hB3 := hB.trans (hFr.below.mono (by omega))
    have c3 := hb23.cell (i := 0) rfl
    have f3 := hb23.frozen 0
    have hKO : KeepsOthers W' w3 := hFr.others hM1.2.1
    have hKT : KTy 134 W' w3 := kty_fr hFr hM1.2.1 (by decide) (by decide)
    clear c0 c80 c81 c82 h8 HO hb0 hb2 hB hM1
    gi_wp2_with fail
    refine ⟨(hKO.trans (KeepsOthers.setCell _ _ _)).from _, (fun t ht => by cases ht; exact hKT.trans (KTy.setOther hb23 (by decide) _)), ⟨v3, ?_⟩, hb03.other (p := ⟨W.heap.size + 1 + 1, 0, none⟩) (by simp; omega) _, hb23.set 0 _, hB3.setCell (p := ⟨W.heap.size + 1 + 1, 0, none⟩) (by simp; omega) _⟩
    rw [HFT.out]
    exact ⟨Nat.le_refl _, hM3.2.1.other (p := ⟨W.heap.size + 1 + 1, 0, none⟩) (by simp) _, own_setCell hM3.2.2 (own_apart hb23 hM3.2.2 (by decide)) 0 _⟩
  case done =>
    rintro D W' hD ⟨⟨v, hM1⟩, hb0, hb2, hB⟩ hK
    rw [List.take_length] at hM1
    have c2 := hb2.cell (i := 0) rfl
    have hMo : OM W' base p v0 bs := OM.below hM hB
    have hz0 : (zs.length : Int) ≤ 1073741824 := by omega
    go_wp2_with fail
    refine (out_uint W' base p v0 bs zs.length (by omega) (by omega) hMo).mono ?_; rintro e w3 ⟨rfl, v3, hM3, hF3⟩
    have hMb : OM w3 (W.heap.size + 1) (W.heap.size + 1) v ((zs.flatMap wrC)) := hM1.other hF3 (by have := hM.lt; omega) ⟨_, _, hMo⟩ (by
      cases hv : v.ownBlock with
      | none => exact .inl rfl
      | some j =>
        right
        intro e
        have h1 := hM1.ge j hv
        have h2 := own_lt hM.2.2 j e.symm
        omega)
    have hfl := flat_len (wr := wrC) (m := 30) zs (fun z hz' => wrC_len (hgd z hz'))
    have hul := uv_len10 (n := zs.length) (by omega)
    have hs3 : (bs ++ uv zs.length).length ≤ 274877906944 + 10 := by simp; omega
    clear hM1
    obtain ⟨cs, hcs⟩ : ∃ cs, bs ++ uv zs.length = cs := ⟨_, rfl⟩
    obtain ⟨ds, hds⟩ : ∃ ds, zs.flatMap wrC = ds := ⟨_, rfl⟩
    rw [hcs] at hM3 hs3
    rw [hds] at hMb hfl
    have HCS := Lib.hid hcs; clear hcs
    have HDS := Lib.hid hds; clear hds
    obtain ⟨Ab, cb, rfl, hPb, hRb, hlb, hCb, hAb⟩ := hMb.slice
    have hMc := hM3
    have hK3 := ((OM.fr hMo hF3).others hMo.2.1).same _ _ hK rfl
    obtain ⟨Ao, co, rfl, hPo, hRo, hlo, hCo, hAo⟩ := hM3.slice
    have k0 := hPo.cell (i := 0) rfl
    have k1 := hPb.cell (i := 0) rfl
    have hap := own_apart hPo hRo (by decide)
    have hbp := hM.lt
    have hz3 := hF3.size
    have hbz : base ≤ w3.heap.size := by have := hB.size; omega
    go_wp2_with fail
    refine Code.wp_mono (Q := fun e a w => e = .normal ∧ a.defers = [{ target := Target.collected D, args := #[] }] ∧ w.heap[D]? = some (.deferred (some [])) ∧ ∃ v4, OM w base p v4 (cs ++ ds) ∧ RFr p (.slice Ao cs.length co) v4 w3 w) (fun e a w h => ?_) ?_
    · obtain ⟨ta, da⟩ := a
      obtain ⟨rfl, hda, hK4, v4, hM4, hF4⟩ := h
      go_wp2
      refine ⟨by simp, .inl ⟨_, _, rfl, run_takeDeferred hK4, ?_⟩⟩
      refine ⟨_, results_none rfl _ _ _, rfl, v4, ?_, (((RFr.ofBelow p v0 hB).trans (hF3.trans hF4)).putNew (by omega) _)⟩
      rw [← List.append_assoc, HCS.out, HDS.out]
      exact (OM.own base p (fun _ : Unit => v4) (fun _ => cs ++ ds)).putObj (s := ()) _ hM4 hK4 rfl
    go_region_law ((refine step_append_nums (by rfl) _ _ _ (by rfl) base 5 .u8 1 Try.underlying88 infoB (by decide) _ _ _ (by rfl) hRo.drew Ab ds cb (by rfl) (Kd.C_drew hCb) hAb (by omega) hbz ?_; intro A4 c4 w4 hR4 hg4 hat4; have hP4 := hPo.drew.kept hg4 (Ne.symm hap); have d4 := hP4.cell (i := 0) rfl; have e4 := hP4.frozen 0))
    all_goals
      have hF5 := ((((RFr.refl p (.slice Ao cs.length co) w3).drew).trans (RFr.grown p hg4 hat4)).setP 0 (.slice A4 (cs.length + ds.length) c4))
      refine ⟨rfl, rfl, ((OM.fr hMc hF5).others hMc.2.1).same _ _ hK3 rfl, _, OM.store hbp.1 hP4 (by rw [nums_append]; exact hR4), hF5⟩
  case stop =>
    rintro D c W' hD h hK
    exact h.elim

end Go.Proofs.Ytnlhgnioedalpaa.Cod

/- layer 5: a list is read. -/
set_option linter.unusedSimpArgs false
set_option linter.unusedVariables false
namespace Go.Proofs.Ytnlhgnioedalpaa.Cod
open Go.RowKit Go.Shelf Go.Proofs.YtnlhgnioedalpaaW.PrintWords Go.Proofs.Ytnlhgnioedalpaa.CodL
open Go.Proofs.Ytnlhgnioedalpaa.Pri (Ch dC tF)
attribute [local go_sem] Oper.semAt_some

/-- one thing is read -/
structure OneT {α : Type} (ev : α → Value) (one : St → St × α) (F : Nat) (lb : Array Value) : Prop where
  enters : ∀ args w, (callFunc F args).run Try.prog w = .ok (.enter F args) w
  calls : ∀ W n₀ p s, (∀ x ∈ s.1, 0 ≤ x ∧ x < 256) → s.1.length ≤ 1099511627776 → IM W n₀ p s → Calls Try.prog F (#[.pointer (some ⟨p, 0, none⟩)] ++ lb) W fun e w' => e = .returned (ev (one s).2) ∧ IM w' n₀ p (one s).1 ∧ W.grownBy w' (some p)
  sub : ∀ s, ∃ k, (one s).1.1 = s.1.drop k
theorem takeU_zero {s : St} (h : (takeU s).1.2 ≠ 0) : (takeU s).2 = 0 := by
  unfold takeU at h ⊢
  split at h
  · rename_i h1
    rw [if_pos h1] at *
    split at h
    · exact absurd rfl h
    · rename_i h2; rw [if_neg h2]
  · rename_i h1; rw [if_neg h1]
theorem grown_own {A B C : World} {p : Nat} {row : Option Nat} (h : A.grownBy B (some p)) (k : B.grownBy C row) (hr : ∀ r, row = some r → A.heap.size ≤ r) : A.grownBy C (some p) :=
  ⟨k.os.trans h.os, k.tape.trans h.tape, k.output.trans h.output, Nat.le_trans h.size k.size, fun b hb hne => (k.block b (Nat.lt_of_lt_of_le hb h.size) (fun e => by have := hr b e.symm; omega)).trans (h.block b hb hne)⟩

set_option maxRecDepth 100000 in
set_option maxHeartbeats 4000000 in
theorem take_ok (W : World) (n₀ p : Nat) (s : St) (one : St → St × Ch) (F : Nat) (lb : Array Value) (hO : OneT evC one F lb) (most : Int) (hb : ∀ x ∈ s.1, 0 ≤ x ∧ x < 256) (hl : s.1.length ≤ 1099511627776) (hM : IM W n₀ p s) (hm : most ≤ 1073741824) (h0 : (takeU s).1.2 = 0) (hmx : ¬ max most 0 < ((takeU s).2 : Int)) (hnp : 0 < (takeU s).2) :
    Calls Try.prog 107 #[.pointer (some ⟨p, 0, none⟩), .int .i64 most, .func (.func F) #[] lb] W fun e w' => ∃ v, e = .returned v ∧ w'.ownsRow W.heap.size 93 3 v (takeN one s most).2.length (cellsOf cP3 (takeN one s most).2) ∧ IM w' n₀ p (takeN one s most).1 ∧ W.grownBy w' (some p) := by
  have hu := in_uint W n₀ p s hb hl hM
  have hln := takeU_len s
  have hbt := takeU_mem hb
  have hN : takeN one s most = (if (takeL one (takeU s).2 (takeU s).1 []).1.2 = 0 then takeL one (takeU s).2 (takeU s).1 [] else ((takeL one (takeU s).2 (takeU s).1 []).1, [])) := by
    unfold takeN
    dsimp only
    rw [if_pos h0, if_neg hmx]
  rw [hN]
  clear hN
  obtain ⟨t, n, hT⟩ : ∃ t n, takeU s = (t, n) := ⟨_, _, rfl⟩
  rw [hT] at hu h0 hmx hln hbt hnp ⊢
  dsimp only at hu h0 hmx hln hbt hnp ⊢
  obtain ⟨R, hRR⟩ : ∃ R, (if (takeL one n t []).1.2 = 0 then takeL one n t [] else ((takeL one n t []).1, [])) = R := ⟨_, rfl⟩
  rw [hRR]
  have HRR := Lib.hid hRR; clear hRR
  have hq : 0 ≤ most := by omega
  have hn0 : n₀ ≤ W.heap.size := hM.2.1
  have HU := Lib.hid hu; clear hu hT hM
  have hnm : n ≤ 1073741824 := by omega
  have hb0 : (t.2 == 0) = true := by simp [h0]
  have hq0 : (0 : Int) ≤ max most 0 := by omega
  have hq1 : max most 0 ≤ 9223372036854775807 := by omega
  have hq2 : (n : Int) ≤ max most 0 := by omega
  have hq3 : (0 : Int) ≤ (n : Int) := by omega
  obtain ⟨i0, hi0, hz0, hz1, hz2'⟩ := info_parts infoC
  go_enter Try.func107, Try.ntmps107
  go_wp2_with fail
  refine HU.out.mono ?_; rintro e w1 ⟨rfl, hM1, hg1⟩
  have hMk := Lib.hid hM1
  obtain ⟨h1, h2, A, c, hP, h4, h5, h6, h7⟩ := hM1
  have k1 := hP.cell (i := 1) rfl
  clear hP h6
  go_wp2_with fail
  clear k1
  go_loopw [8, 26] (fun o i wr => ∃ (k : Nat) (sk : St) (outs : List Ch), k ≤ n ∧ i = .int .u64 (k : Int) ∧ takeL one n t [] = takeL one (n - k) sk outs ∧ outs.length = k ∧ (∀ x ∈ sk.1, 0 ≤ x ∧ x < 256) ∧ sk.1.length ≤ 1099511627776 ∧ wr.ownsRow W.heap.size 93 3 o k (cellsOf cP3 outs) ∧ IM wr n₀ p sk ∧ W.grownBy wr (some p)) (fun _ i _ => n - (intOf i).toNat)
  case atStart => exact ⟨0, t, [], Nat.zero_le _, rfl, rfl, rfl, hbt, by omega, World.ownsRow_nil _ _ _ _, hMk.out, hg1⟩
  case round =>
    obtain ⟨k, sk, outs, hk, rfl, hL, hol, hbk, hlk, hR, hMs, hgs⟩ := hrel
    have hMc := Lib.hid hMs
    obtain ⟨_, h2', A', c', hP', _⟩ := hMs
    have k1 := hP'.cell (i := 1) rfl
    have hz := hgs.size
    clear hP'
    have j0 : (0 : Int) ≤ (k : Int) := by omega
    by_cases hin : k < n
    · have j1 : (k : Int) < (n : Int) := by omega
      have j2 : (k : Int) ≤ 1073741824 := by omega
      obtain ⟨d, hd⟩ : ∃ d, n - k = d + 1 := ⟨n - k - 1, by omega⟩
      rw [hd] at hL
      by_cases he : sk.2 = 0
      · have hb1 : (sk.2 == 0) = true := by simp [he]
        have hL2 : takeL one n t [] = takeL one d (one sk).1 (outs ++ [(one sk).2]) := by rw [hL, takeL, if_pos he]
        have HL2 := Lib.hid hL2; clear hL hL2
        obtain ⟨ks, hks⟩ := hO.sub sk
        have hbk' : ∀ x ∈ (one sk).1.1, 0 ≤ x ∧ x < 256 := fun x hx => hbk x (by rw [hks] at hx; exact List.mem_of_mem_drop hx)
        have hlk' : (one sk).1.1.length ≤ 1099511627776 := by rw [hks, List.length_drop]; omega
        have HC := Lib.hid (hO.calls wr n₀ p sk hbk hlk hMc.out)
        have eg := hO.enters
        generalize one sk = r at *
        obtain ⟨s', x, y, yz⟩ := r
        dsimp only at hbk' hlk' HL2 HC hks
        clear hbk hlk hks
        go_wp2_with fail
        refine HC.out.mono ?_; rintro e w2 ⟨rfl, hM2, hg2⟩
        obtain ⟨oa, oc, rfl⟩ := own_slice hR
        have hR2 := own_move (w1 := w2) hR (fun r e => hg2.block r (own_lt hR r e) (fun e' => by
          cases e'
          have := (own_typ hR p e).1
          have := hMc.out.1
          omega))
        have hz2 := hg2.size
        unfold evC
        go_wp2_with (at_builtin; refine wpList_append_own_at _ rfl _ _ 80 rfl W.heap.size 93 i0 _ 3 24 Try.underlying80 hi0 hz0 hz1 hz2' rfl (by decide) _ k _ rfl (hR2.alloc _) ⟨w2.heap.size, 0, none⟩ 1 1 [.int .i64 x, .int .u64 y, .int .i64 yz] rfl rfl (news_blk (Blk.new w2 [.int .i64 x, .int .u64 y, .int .i64 yz] 93)) (by simp [Value.oneCell']) (by unfold maxLen; omega) (by omega) (by simp; omega) ?_; intro v' w3 hR3 hg3 _ _; obtain ⟨g3, c3, rfl⟩ := ownsRow_succ hR3)
        have hgo : ∀ r, (Value.slice oa k oc).ownBlock = some r → W.heap.size ≤ r := fun r e => (own_typ hR2 r e).1
        have hM3 : IM w3 n₀ p s' := (hM2.grown (World.grownBy_alloc w2 (.cells #[.int .i64 x, .int .u64 y, .int .i64 yz] 93) none) (by simp)).grown hg3 (fun r e => Nat.le_trans hn0 (hgo r e))
        have hg4 := grown_own (grown_own (grown_trans hgs hg2) (World.grownBy_alloc w2 (.cells #[.int .i64 x, .int .u64 y, .int .i64 yz] 93) none) (by simp)) hg3 hgo
        go_roundw
        case rel => exact ⟨k + 1, s', outs ++ [(x, y, yz)], by omega, by go_num, by rw [show n - (k + 1) = d from by omega]; exact HL2.out, by simp [hol], hbk', hlk', by rw [cellsOf_append, cellsOf_one]; exact hR3, hM3, hg4⟩
        case measure => simp [intOf]; omega
      · have hb1 : (sk.2 == 0) = false := by simp [he]
        have hL2 : takeL one n t [] = (sk, []) := by rw [hL, takeL, if_neg he]
        have HL2 := Lib.hid hL2; clear hL hL2
        have HE := Lib.hid he; clear he
        go_wp2_with fail
        go_ret
        have e : R = (sk, []) := by rw [← HRR.out, HL2.out, if_neg HE.out]
        rw [e]
        exact ⟨_, rfl, World.ownsRow_nil _ _ _ _, hMc.out, hgs⟩
    · obtain rfl : k = n := by omega
      have hL2 : takeL one k t [] = (sk, outs) := by rw [hL, Nat.sub_self, takeL]
      have HL2 := Lib.hid hL2; clear hL hL2
      by_cases he : sk.2 = 0
      · have hb1 : (sk.2 == 0) = true := by simp [he]
        have HE := Lib.hid he; clear he
        go_wp2_with fail
        go_ret
        have e : R = (sk, outs) := by rw [← HRR.out, HL2.out, if_pos HE.out]
        rw [e]
        dsimp only
        rw [hol]
        exact ⟨_, rfl, hR, hMc.out, hgs⟩
      · have hb1 : (sk.2 == 0) = false := by simp [he]
        have HE := Lib.hid he; clear he
        go_wp2_with fail
        go_ret
        have e : R = (sk, []) := by rw [← HRR.out, HL2.out, if_neg HE.out]
        rw [e]
        exact ⟨_, rfl, World.ownsRow_nil _ _ _ _, hMc.out, hgs⟩

set_option maxRecDepth 100000 in
set_option maxHeartbeats 4000000 in
/-- none is read -/
theorem take_zero (W : World) (n₀ p : Nat) (s : St) (F : Nat) (lb : Array Value) (most : Int) (hb : ∀ x ∈ s.1, 0 ≤ x ∧ x < 256) (hl : s.1.length ≤ 1099511627776) (hM : IM W n₀ p s) (hm : most ≤ 1073741824) (hz : (takeU s).2 = 0) :
    Calls Try.prog 107 #[.pointer (some ⟨p, 0, none⟩), .int .i64 most, .func (.func F) #[] lb] W fun e w' => e = .returned (.slice none 0 0) ∧ IM w' n₀ p (takeU s).1 ∧ W.grownBy w' (some p) := by
  have hu := in_uint W n₀ p s hb hl hM
  rw [hz] at hu
  obtain ⟨t, ht⟩ : ∃ t, (takeU s).1 = t := ⟨_, rfl⟩
  rw [ht] at hu ⊢
  have HU := Lib.hid hu; clear hu ht hM hz
  have hq1 : max most 0 ≤ 9223372036854775807 := by omega
  have hq0 : (0 : Int) ≤ max most 0 := by omega
  by_cases he : t.2 = 0
  · have hb1 : (t.2 == 0) = true := by simp [he]
    by_cases hq : 0 ≤ most
    all_goals
      go_enter Try.func107, Try.ntmps107
      go_wp2_with fail
      refine HU.out.mono ?_; rintro e w1 ⟨rfl, hM1, hg1⟩
      have hMk := Lib.hid hM1
      obtain ⟨h1, h2, A, c, hP, h4, h5, h6, h7⟩ := hM1
      have k1 := hP.cell (i := 1) rfl
      clear hP h6
      go_wp2_with fail
      go_loop [8, 26] (fun o i => o = .slice none 0 0 ∧ i = .int .u64 0) (fun _ _ => 0)
      case atStart => exact ⟨rfl, rfl⟩
      case round =>
        obtain ⟨rfl, rfl⟩ := hrel
        go_wp2_with fail
        go_ret
        exact ⟨rfl, hMk.out, hg1⟩
  · have hb1 : (t.2 == 0) = false := by simp [he]
    go_enter Try.func107, Try.ntmps107
    go_wp2_with fail
    refine HU.out.mono ?_; rintro e w1 ⟨rfl, hM1, hg1⟩
    have hMk := Lib.hid hM1
    obtain ⟨h1, h2, A, c, hP, h4, h5, h6, h7⟩ := hM1
    have k1 := hP.cell (i := 1) rfl
    clear hP h6
    go_wp2_with fail
    go_loop [8, 26] (fun o i => o = .slice none 0 0 ∧ i = .int .u64 0) (fun _ _ => 0)
    case atStart => exact ⟨rfl, rfl⟩
    case round =>
      obtain ⟨rfl, rfl⟩ := hrel
      go_wp2_with fail
      go_ret
      exact ⟨rfl, hMk.out, hg1⟩

set_option maxRecDepth 100000 in
set_option maxHeartbeats 4000000 in
/-- more than may be -/
theorem take_many (W : World) (n₀ p : Nat) (s : St) (F : Nat) (lb : Array Value) (most : Int) (hb : ∀ x ∈ s.1, 0 ≤ x ∧ x < 256) (hl : s.1.length ≤ 1099511627776) (hM : IM W n₀ p s) (hm : most ≤ 1073741824) (h0 : (takeU s).1.2 = 0) (hmx : max most 0 < ((takeU s).2 : Int)) :
    Calls Try.prog 107 #[.pointer (some ⟨p, 0, none⟩), .int .i64 most, .func (.func F) #[] lb] W fun e w' => e = .returned (.slice none 0 0) ∧ IM w' n₀ p (failS (takeU s).1 3) ∧ W.grownBy w' (some p) := by
  have hu := in_uint W n₀ p s hb hl hM
  have hlt := takeU_lt hb
  obtain ⟨t, n, hT⟩ : ∃ t n, takeU s = (t, n) := ⟨_, _, rfl⟩
  rw [hT] at hu h0 hmx hlt ⊢
  dsimp only at hu h0 hmx hlt ⊢
  have HU := Lib.hid hu; clear hu hT hM
  have HT := Lib.hid hlt; clear hlt
  have hb0 : (t.2 == 0) = true := by simp [h0]
  have hq0 : (0 : Int) ≤ max most 0 := by omega
  have hq1 : max most 0 ≤ 9223372036854775807 := by omega
  have hq2 : most < (n : Int) := by omega
  have hq3 : (0 : Int) < (n : Int) := by omega
  have hF : (failS t 3).2 = 3 := by simp [failS, h0]
  have HF := Lib.hid hF; clear hF
  by_cases hq : 0 ≤ most
  all_goals
    go_enter Try.func107, Try.ntmps107
    go_wp2_with fail
    refine HU.out.mono ?_; rintro e w1 ⟨rfl, hM1, hg1⟩
    have hMk := Lib.hid hM1
    obtain ⟨h1, h2, A, c, hP, h4, h5, h6, h7⟩ := hM1
    have k1 := hP.cell (i := 1) rfl
    clear hP h6
    go_wp2_with fail
    refine (in_fail w1 n₀ p _ 3 hMk.out).mono ?_; rintro e w2 ⟨rfl, hM2, hg2⟩
    have hMl := Lib.hid hM2
    obtain ⟨h1', h2', A', c', hP', _⟩ := hM2
    have k2 := hP'.cell (i := 1) rfl
    rw [HF.out] at k2
    clear hP' k1
    go_wp2_with fail
    go_loop [8, 26] (fun o i => o = .slice none 0 0 ∧ i = .int .u64 0) (fun _ _ => 0)
    case atStart => exact ⟨rfl, rfl⟩
    case round =>
      obtain ⟨rfl, rfl⟩ := hrel
      go_wp2_with fail
      go_ret
      exact ⟨rfl, hMl.out, grown_trans hg1 hg2⟩

/-- a list is read -/
theorem take_any (W : World) (n₀ p : Nat) (s : St) (one : St → St × Ch) (F : Nat) (lb : Array Value) (hO : OneT evC one F lb) (most : Int) (hb : ∀ x ∈ s.1, 0 ≤ x ∧ x < 256) (hl : s.1.length ≤ 1099511627776) (hM : IM W n₀ p s) (hm : most ≤ 1073741824) :
    Calls Try.prog 107 #[.pointer (some ⟨p, 0, none⟩), .int .i64 most, .func (.func F) #[] lb] W fun e w' => ∃ v, e = .returned v ∧ w'.ownsRow W.heap.size 93 3 v (takeN one s most).2.length (cellsOf cP3 (takeN one s most).2) ∧ IM w' n₀ p (takeN one s most).1 ∧ W.grownBy w' (some p) := by
  by_cases h0 : (takeU s).1.2 = 0
  · by_cases h1 : max most 0 < ((takeU s).2 : Int)
    · have e : takeN one s most = (failS (takeU s).1 3, []) := by unfold takeN; dsimp only; rw [if_pos h0, if_pos h1]
      rw [e]
      exact (take_many W n₀ p s F lb most hb hl hM hm h0 h1).mono fun e w' ⟨k1, k2, k3⟩ => ⟨_, k1, World.ownsRow_nil _ _ _ _, k2, k3⟩
    · by_cases h2 : 0 < (takeU s).2
      · exact take_ok W n₀ p s one F lb hO most hb hl hM hm h0 h1 h2
      · have h3 : (takeU s).2 = 0 := by omega
        have e : takeN one s most = ((takeU s).1, []) := by
          unfold takeN
          dsimp only
          rw [if_pos h0, if_neg h1, h3, takeL]
          dsimp only
          rw [if_pos h0]
        rw [e]
        exact (take_zero W n₀ p s F lb most hb hl hM hm h3).mono fun e w' ⟨k1, k2, k3⟩ => ⟨_, k1, World.ownsRow_nil _ _ _ _, k2, k3⟩
  · have e : takeN one s most = ((takeU s).1, []) := by unfold takeN; dsimp only; rw [if_neg h0]
    rw [e]
    exact (take_zero W n₀ p s F lb most hb hl hM hm (takeU_zero h0)).mono fun e w' ⟨k1, k2, k3⟩ => ⟨_, k1, World.ownsRow_nil _ _ _ _, k2, k3⟩

end Go.Proofs.Ytnlhgnioedalpaa.Cod

/- layer 5: a list that all bytes are; the statements' own functions. -/
set_option linter.unusedSimpArgs false
set_option linter.unusedVariables false
namespace Go.Proofs.Ytnlhgnioedalpaa.Cod
open Go.RowKit Go.Shelf Go.Proofs.YtnlhgnioedalpaaW.PrintWords Go.Proofs.Ytnlhgnioedalpaa.CodL
open Go.Proofs.Ytnlhgnioedalpaa.Pri (Ch dC tF)
attribute [local go_sem] Oper.semAt_some

theorem grown_below {A B : World} {p n₀ : Nat} (h : A.grownBy B (some p)) (hp : n₀ ≤ p) (hA : n₀ ≤ A.heap.size) : Below n₀ A B := ⟨h.os, h.tape, h.output, h.size, fun b hb => h.block b (by omega) (by simp; omega)⟩

set_option maxRecDepth 100000 in
set_option maxHeartbeats 4000000 in
theorem all_any (W : World) (bs : List Int) (A : Option Addr) (c : Nat) (hx : (Kd.int .u8).C W A bs.length bs) (hA0 : A = none → c = 0) (hb : ∀ x ∈ bs, 0 ≤ x ∧ x < 256) (hl : bs.length ≤ 1099511627776) (one : St → St × Ch) (F : Nat) (lb : Array Value) (hO : OneT evC one F lb) (most : Int) (hm : most ≤ 1073741824) :
    Calls Try.prog 84 #[.slice A bs.length c, .int .i64 most, .func (.func F) #[] lb] W fun e w' => ∃ v, e = .returned (.tuple #[v, .int .i64 (allN one bs most).2]) ∧ w'.ownsRow W.heap.size 93 3 v (allN one bs most).1.length (cellsOf cP3 (allN one bs most).1) ∧ Below W.heap.size W w' := by
  obtain ⟨R, hR⟩ : ∃ R, allN one bs most = R := ⟨_, rfl⟩
  rw [hR]
  have HR := Lib.hid hR; clear hR
  go_enter Try.func84, Try.ntmps84
  go_wp2_with fail
  refine (from_any W bs A c hx hA0 hl).mono ?_; rintro e w1 ⟨p, hp, rfl, hM1, hB1⟩
  have hz1 := hB1.size
  go_wp2_with fail
  refine (take_any w1 _ p (bs, 0) one F lb hO most hb hl hM1 hm).mono ?_; rintro e w2 ⟨v, rfl, hR2, hM2, hg2⟩
  obtain ⟨T, hT⟩ : ∃ T, takeN one (bs, 0) most = T := ⟨_, rfl⟩
  rw [hT] at hR2 hM2
  have HT := Lib.hid hT; clear hT
  obtain ⟨⟨t, x⟩, out⟩ := T
  dsimp only at hR2 hM2
  obtain ⟨va, vc, rfl⟩ := own_slice hR2
  have hB2 : Below W.heap.size W w2 := hB1.trans (grown_below hg2 hp hz1)
  have hR3 := own_weaken hR2 hz1
  go_wp2_with fail
  refine (in_err w2 _ p _ hM2).mono ?_; rintro e w3 ⟨rfl, rfl⟩
  by_cases hx0 : x = 0
  · subst hx0
    go_wp2_with fail
    refine (in_left w2 _ p _ hM2).mono ?_; rintro e w3 ⟨rfl, rfl⟩
    dsimp only
    by_cases ht : 0 < t.length
    · have ht0 : (0 : Int) < (t.length : Int) := by omega
      have e : R = ([], 20) := by rw [← HR.out]; unfold allN; dsimp only; rw [HT.out]; dsimp only; rw [if_pos rfl, if_pos ht]
      have HE := Lib.hid e; clear e
      go_wp2_with fail
      refine (in_fail w2 _ p _ 20 hM2).mono ?_; rintro e w3 ⟨rfl, hM3, hg3⟩
      go_wp2_with fail
      refine (in_err w3 _ p _ hM3).mono ?_; rintro e w4 ⟨rfl, rfl⟩
      have hF : (failS (t, 0) 20).2 = 20 := by simp [failS]
      rw [hF]
      go_wp2_with fail
      go_ret2
      rw [HE.out]
      exact ⟨_, rfl, World.ownsRow_nil _ _ _ _, hB2.trans (grown_below hg3 hp (by have := hB2.size; omega))⟩
    · have ht0 : t.length = 0 := by omega
      have e : R = (out, 0) := by rw [← HR.out]; unfold allN; dsimp only; rw [HT.out]; dsimp only; rw [if_pos rfl, if_neg ht]
      have HE := Lib.hid e; clear e
      rw [ht0]
      clear ht
      go_wp2_with fail
      refine (in_err w2 _ p _ hM2).mono ?_; rintro e w4 ⟨rfl, rfl⟩
      go_wp2_with fail
      go_ret2
      rw [HE.out]
      exact ⟨_, rfl, hR3, hB2⟩
  · have hxb : (x == 0) = false := by simp [hx0]
    have e : R = ([], x) := by rw [← HR.out]; unfold allN; dsimp only; rw [HT.out]; dsimp only; rw [if_neg hx0]
    have HE := Lib.hid e; clear e
    clear hx0
    go_wp2_with fail
    refine (in_err w2 _ p _ hM2).mono ?_; rintro e w4 ⟨rfl, rfl⟩
    dsimp only
    go_wp2_with fail
    go_ret2
    rw [HE.out]
    exact ⟨_, rfl, World.ownsRow_nil _ _ _ _, hB2⟩

end Go.Proofs.Ytnlhgnioedalpaa.Cod

/- delta: changes are written and read. -/
set_option linter.unusedSimpArgs false
set_option linter.unusedVariables false
namespace Go.Proofs.Ytnlhgnioedalpaa.Cod
open Go.RowKit Go.Shelf Go.Proofs.YtnlhgnioedalpaaW.PrintWords Go.Proofs.Ytnlhgnioedalpaa.CodL
open Go.Proofs.Ytnlhgnioedalpaa.Pri (Ch dC tF tC)
attribute [local go_sem] Oper.semAt_some

set_option maxRecDepth 100000 in
set_option maxHeartbeats 4000000 in
/-- a change is written -/
theorem putC : OneP evC wrC goodC 90 #[] := by
  refine ⟨enters_of Try.func90 (by kernel_rfl) rfl, fun q W base p v bs hg hl hM => ?_⟩
  obtain ⟨x, y, z⟩ := q
  obtain ⟨hgx, hgy, hgz⟩ := hg
  dsimp only at hgx hgy hgz
  obtain ⟨m, hm⟩ : ∃ m : Nat, y = (m : Int) := ⟨y.toNat, by omega⟩
  subst hm
  have hmb : m < 18446744073709551616 := by omega
  have hB0 : Below W.heap.size W (W.alloc (.cells #[.int .i64 x, .int .u64 (m : Int), .int .i64 z] tC)) := (Below.refl _ W).alloc (Nat.le_refl _) _
  have hb := Blk.new W [.int .i64 x, .int .u64 (m : Int), .int .i64 z] tC
  have hM0 := OM.below hM hB0
  have hx2 := hgx.2
  have hxn : IntKind.u64.wrap (max x 0) = (((max x 0).toNat : Nat) : Int) := by rw [IntKind.wrap_u64]; omega
  obtain ⟨n, hn⟩ : ∃ n, (max x 0).toNat = n := ⟨_, rfl⟩
  have hw : wrC (x, (m : Int), z) = uv n ++ uv m ++ uv (zz z) := by unfold wrC; rw [hn]; simp
  rw [hw]
  rw [hn] at hxn
  have hnb : n < 18446744073709551616 := by omega
  have HU := Lib.hid (out_uint _ base p v bs n hnb (by omega) hM0)
  have HM := Lib.hid hM; have HB0 := Lib.hid hB0; have HBL := Lib.hid hb; have HM0 := Lib.hid hM0
  have c0 := hb.cell (i := 0) rfl
  have c1 := hb.cell (i := 1) rfl
  have c2 := hb.cell (i := 2) rfl
  clear hn hw hM0 hM hB0 hb
  show Calls Try.prog 90 #[.pointer (some ⟨p, 0, none⟩), .agg #[.int .i64 x, .int .u64 (m : Int), .int .i64 z]] W _
  go_enter Try.func90, Try.ntmps90
  go_wp2_with fail
  refine HU.out.mono ?_; rintro e w1 ⟨rfl, v1, hM1, hF1⟩
  have hb1 := (OM.fr HM0.out hF1).blk HBL.out (by have := HM.out.lt; omega) (by decide)
  have d1 := hb1.cell (i := 1) rfl
  have hl1 : (bs ++ uv n).length ≤ 549755813888 + 10 := by have := uv_len10 hnb; rw [List.length_append]; omega
  have HU2 := Lib.hid (out_uint w1 base p v1 (bs ++ uv n) m hmb (by omega) hM1)
  have HF1 := Lib.hid hF1; have HB1 := Lib.hid hb1; have HM1 := Lib.hid hM1
  clear hM1 hF1 hb1 HU c0 c1 c2
  go_wp2_with fail
  refine HU2.out.mono ?_; rintro e w2 ⟨rfl, v2, hM2, hF2⟩
  have hb2 := (OM.fr HM1.out hF2).blk HB1.out (by have := HM.out.lt; omega) (by decide)
  have e2 := hb2.cell (i := 2) rfl
  have hl2 : (bs ++ uv n ++ uv m).length ≤ 1099511627776 := by have := uv_len10 hmb; rw [List.length_append]; omega
  have HI := Lib.hid (out_int w2 base p v2 (bs ++ uv n ++ uv m) z hgz hl2 hM2)
  have HF2 := Lib.hid (HF1.out.trans hF2)
  clear hM2 hF2 hb2 HU2 d1
  go_wp2_with fail
  refine HI.out.mono ?_; rintro e w3 ⟨rfl, v3, hM3, hF3⟩
  have HR := Lib.hid (And.intro hM3 ((RFr.ofBelow p v HB0.out).trans (HF2.out.trans hF3)))
  clear hM3 hF3 HI
  go_wp2_with fail
  go_end0
  exact ⟨rfl, v3, by rw [← List.append_assoc, ← List.append_assoc]; exact HR.out.1, HR.out.2⟩
/-- a change is read -/
def takeC (s : St) : St × Ch := ((takeI (takeU (takeU s).1).1).1, (if (takeU s).2 < 64 then ((takeU s).2 : Int) else -1, ((takeU (takeU s).1).2 : Int), (takeI (takeU (takeU s).1).1).2))
theorem takeU_bound {s : St} (hb : ∀ x ∈ s.1, 0 ≤ x ∧ x < 256) : (takeU s).2 < 18446744073709551616 := takeU_lt hb
set_option maxRecDepth 100000 in
set_option maxHeartbeats 4000000 in
theorem takeC1 : OneT evC takeC 85 #[] where
  enters := enters_of Try.func85 (by kernel_rfl) rfl
  calls W n₀ p s hb hl hM := by
    have hbt := takeU_mem hb
    have hlt : (takeU s).1.1.length ≤ 1099511627776 := Nat.le_trans (takeU_len s) hl
    have hbt2 := takeU_mem hbt
    have hlt2 : (takeU (takeU s).1).1.1.length ≤ 1099511627776 := Nat.le_trans (takeU_len _) hlt
    have hnb := takeU_bound hb
    have h0 : IM (W.alloc (.cells #[.int .i64 0, .int .u64 0, .int .i64 0] tC)) n₀ p s := hM.grown (World.grownBy_alloc W _ none) (by simp)
    have bl := Blk.new W [.int .i64 0, .int .u64 0, .int .i64 0] tC
    have hpn := hM.1
    have hnW := hM.2.1
    have hu := in_uint _ n₀ p s hb hl h0
    unfold takeC
    obtain ⟨t, n, hT⟩ : ∃ t n, takeU s = (t, n) := ⟨_, _, rfl⟩
    rw [hT] at hu hbt hlt hbt2 hlt2 hnb ⊢
    dsimp only at hu hbt hlt hbt2 hlt2 hnb ⊢
    have hu2 := fun (w : World) (hw : IM w n₀ p t) => in_uint w n₀ p t hbt hlt hw
    obtain ⟨t2, m, hT2⟩ : ∃ t2 m, takeU t = (t2, m) := ⟨_, _, rfl⟩
    simp only [hT2] at hu2 hbt2 hlt2 ⊢
    have hi := fun (w : World) (hw : IM w n₀ p t2) => in_int w n₀ p t2 hbt2 hlt2 hw
    obtain ⟨t3, a, hT3⟩ : ∃ t3 a, takeI t2 = (t3, a) := ⟨_, _, rfl⟩
    simp only [hT3] at hi ⊢
    have HU := Lib.hid hu; have HBL := Lib.hid bl; have HU2 := Lib.hid hu2; have HI := Lib.hid hi
    clear hu hM h0 bl hT hu2 hi hT2 hT3
    show Calls Try.prog 85 #[.pointer (some ⟨p, 0, none⟩)] W _
    by_cases h64 : n < 64
    · have g64 : (n : Int) < 64 := by omega
      rw [if_pos h64]
      go_enter Try.func85, Try.ntmps85
      go_wp2_with fail
      refine HU.out.mono ?_; rintro e w1 ⟨rfl, hM1, hg1⟩
      have hb1 := HBL.out.kept hg1 (by simp; omega)
      have HG1 := Lib.hid hg1; have HB1 := Lib.hid hb1; have HM1 := Lib.hid hM1
      clear hM1 hg1 hb1
      go_wp2_with fail
      refine (HU2.out w1 HM1.out).mono ?_; rintro e w2 ⟨rfl, hM2, hg2⟩
      have hb2 := HB1.out.kept hg2 (by simp; omega)
      have HG2 := Lib.hid (grown_trans HG1.out hg2); have HB2 := Lib.hid hb2; have HM2 := Lib.hid hM2
      clear hM2 hg2 hb2
      go_wp2_with fail
      refine (HI.out w2 HM2.out).mono ?_; rintro e w3 ⟨rfl, hM3, hg3⟩
      have hb3 := HB2.out.kept hg3 (by simp; omega)
      have hG3 := grown_trans HG2.out hg3
      have hb4 := Blk.new w3 [.int .i64 (-1), .int .u64 (m : Int), .int .i64 a] tC
      have hb5 := hb3.alloc (.cells #[.int .i64 (-1), .int .u64 (m : Int), .int .i64 a] tC)
      have hlt3 := hb3.lt
      have e0 := hb3.cell (i := 0) rfl
      have e1 := hb3.cell (i := 1) rfl
      have e2 := hb3.cell (i := 2) rfl
      have g0 := hb3.frozen 0
      have g1 := hb3.frozen 1
      have g2 := hb3.frozen 2
      have HM4 := Lib.hid hM3
      have HG4 := Lib.hid (grown_trans (World.grownBy_alloc W (.cells #[.int .i64 0, .int .u64 0, .int .i64 0] tC) (some p)) hG3)
      have HF := Lib.hid hb3
      clear hM3 hg3 hb3 hG3 hb4 hb5
      go_wp2_with fail
      have hE := (((HF.out.set 0 (.int .i64 ((n : Int)))).set 1 (.int .u64 (m : Int))).set 2 (.int .i64 a)).alloc (.cells #[.int .i64 ((n : Int)), .int .u64 (m : Int), .int .i64 a] tC)
      refine bodyPost_ret (results_cell_row rfl _ _ W.heap.size tC _ (0, 0) _ rfl hE Try.underlying93 rfl (by kernel_rfl)) rfl ?_
      exact ⟨rfl, (((HM4.out.grown (grownBy_setAt _ _ 0 _) (by rintro r ⟨rfl⟩; exact hnW)).grown (grownBy_setAt _ _ 1 _) (by rintro r ⟨rfl⟩; exact hnW)).grown (grownBy_setAt _ _ 2 _) (by rintro r ⟨rfl⟩; exact hnW)).grown (World.grownBy_alloc _ _ none) (by simp),
        grown_own (grown_own (grown_own (grown_own HG4.out (grownBy_setAt _ _ 0 _) (by rintro r ⟨rfl⟩; exact Nat.le_refl _)) (grownBy_setAt _ _ 1 _) (by rintro r ⟨rfl⟩; exact Nat.le_refl _)) (grownBy_setAt _ _ 2 _) (by rintro r ⟨rfl⟩; exact Nat.le_refl _)) (World.grownBy_alloc _ _ none) (by simp)⟩
    · have g64 : ¬ (n : Int) < 64 := by omega
      rw [if_neg h64]
      go_enter Try.func85, Try.ntmps85
      go_wp2_with fail
      refine HU.out.mono ?_; rintro e w1 ⟨rfl, hM1, hg1⟩
      have hb1 := HBL.out.kept hg1 (by simp; omega)
      have HG1 := Lib.hid hg1; have HB1 := Lib.hid hb1; have HM1 := Lib.hid hM1
      clear hM1 hg1 hb1
      go_wp2_with fail
      refine (HU2.out w1 HM1.out).mono ?_; rintro e w2 ⟨rfl, hM2, hg2⟩
      have hb2 := HB1.out.kept hg2 (by simp; omega)
      have HG2 := Lib.hid (grown_trans HG1.out hg2); have HB2 := Lib.hid hb2; have HM2 := Lib.hid hM2
      clear hM2 hg2 hb2
      go_wp2_with fail
      refine (HI.out w2 HM2.out).mono ?_; rintro e w3 ⟨rfl, hM3, hg3⟩
      have hb3 := HB2.out.kept hg3 (by simp; omega)
      have hG3 := grown_trans HG2.out hg3
      have hb4 := Blk.new w3 [.int .i64 (-1), .int .u64 (m : Int), .int .i64 a] tC
      have hb5 := hb3.alloc (.cells #[.int .i64 (-1), .int .u64 (m : Int), .int .i64 a] tC)
      have hlt3 := hb3.lt
      have e0 := hb3.cell (i := 0) rfl
      have e1 := hb3.cell (i := 1) rfl
      have e2 := hb3.cell (i := 2) rfl
      have g0 := hb3.frozen 0
      have g1 := hb3.frozen 1
      have g2 := hb3.frozen 2
      have HM4 := Lib.hid hM3
      have HG4 := Lib.hid (grown_trans (World.grownBy_alloc W (.cells #[.int .i64 0, .int .u64 0, .int .i64 0] tC) (some p)) hG3)
      have HF := Lib.hid hb3
      clear hM3 hg3 hb3 hG3 hb4 hb5
      go_wp2_with fail
      have hE := (((HF.out.set 0 (.int .i64 (-1))).set 1 (.int .u64 (m : Int))).set 2 (.int .i64 a)).alloc (.cells #[.int .i64 (-1), .int .u64 (m : Int), .int .i64 a] tC)
      refine bodyPost_ret (results_cell_row rfl _ _ W.heap.size tC _ (0, 0) _ rfl hE Try.underlying93 rfl (by kernel_rfl)) rfl ?_
      exact ⟨rfl, (((HM4.out.grown (grownBy_setAt _ _ 0 _) (by rintro r ⟨rfl⟩; exact hnW)).grown (grownBy_setAt _ _ 1 _) (by rintro r ⟨rfl⟩; exact hnW)).grown (grownBy_setAt _ _ 2 _) (by rintro r ⟨rfl⟩; exact hnW)).grown (World.grownBy_alloc _ _ none) (by simp),
        grown_own (grown_own (grown_own (grown_own HG4.out (grownBy_setAt _ _ 0 _) (by rintro r ⟨rfl⟩; exact Nat.le_refl _)) (grownBy_setAt _ _ 1 _) (by rintro r ⟨rfl⟩; exact Nat.le_refl _)) (grownBy_setAt _ _ 2 _) (by rintro r ⟨rfl⟩; exact Nat.le_refl _)) (World.grownBy_alloc _ _ none) (by simp)⟩
  sub s := by
    obtain ⟨k1, h1⟩ := takeU_sub (s := s)
    obtain ⟨k2, h2⟩ := takeU_sub (s := (takeU s).1)
    obtain ⟨k3, h3⟩ := takeU_sub (s := (takeU (takeU s).1).1)
    refine ⟨k1 + k2 + k3, ?_⟩
    show (takeU (takeU (takeU s).1).1).1.1 = _
    rw [h3, h2, h1, List.drop_drop, List.drop_drop]
    first | rfl | (congr 1; omega)
/-- the slice v reads as changes -/
def PC (W : World) (v : Value) (cs : List Ch) : Prop := ∃ A c, v = .slice A cs.length c ∧ ∀ (i : Nat) q, cs[i]? = some q → ∃ b off, A = some ⟨b, off, none⟩ ∧ b < W.heap.size ∧ W.cell? ⟨b, off + i * 3, none⟩ = some (.int .i64 q.1) ∧ W.cell? ⟨b, off + i * 3 + 1, none⟩ = some (.int .u64 q.2.1) ∧ W.cell? ⟨b, off + i * 3 + 2, none⟩ = some (.int .i64 q.2.2)
theorem PC.below {W W' : World} {v : Value} {cs : List Ch} (h : PC W v cs) (hb : Below W.heap.size W W') : PC W' v cs := by
  obtain ⟨A, c, rfl, h1⟩ := h
  refine ⟨A, c, rfl, fun i q hq => ?_⟩
  obtain ⟨b, off, e, hlt, c0, c1, c2⟩ := h1 i q hq
  exact ⟨b, off, e, Nat.lt_of_lt_of_le hlt hb.size, (hb.cell (p := ⟨b, off + i * 3, none⟩) hlt).trans c0, (hb.cell (p := ⟨b, off + i * 3 + 1, none⟩) hlt).trans c1, (hb.cell (p := ⟨b, off + i * 3 + 2, none⟩) hlt).trans c2⟩
theorem pc_own {W : World} {B : Nat} {v : Value} {cs : List Ch} (h : W.ownsRow B tC 3 v cs.length (cellsOf cP3 cs)) : PC W v cs := by
  rcases h.2 with ⟨rfl, h0⟩ | ⟨g, cap, cur, rfl, h2, h3, h4, h5, h6, h7⟩
  · have : cs = [] := List.eq_nil_of_length_eq_zero h0
    subst this
    exact ⟨none, 0, rfl, fun i q hq => by simp at hq⟩
  · have hb : Blk W g tC cur.toList := by unfold Blk; rw [Array.toArray_toList]; exact h3
    refine ⟨some ⟨g, 0, none⟩, cap, rfl, fun i q hq => ?_⟩
    have hi : i < cs.length := (List.getElem?_eq_some_iff.1 hq).1
    have hgd : cs.getD i dC = q := by rw [List.getD_eq_getElem?_getD, hq]; rfl
    have at_ : ∀ j, j < 3 → cur.toList[i * 3 + j]? = (cP3 q)[j]? := fun j hj => by
      have h8 := cellsOf_at cP3_length cs dC (i := i) (j := j) hi hj
      rw [hgd, ← h7, List.getElem?_take, if_pos (by omega)] at h8
      exact h8
    have k0 := hb.cell (i := i * 3) (by have := at_ 0 (by omega); rw [Nat.add_zero] at this; rw [this]; rfl)
    have k1 := hb.cell (i := i * 3 + 1) (by rw [at_ 1 (by omega)]; rfl)
    have k2 := hb.cell (i := i * 3 + 2) (by rw [at_ 2 (by omega)]; rfl)
    exact ⟨g, 0, rfl, hb.lt, by rw [Nat.zero_add]; exact k0, by rw [Nat.zero_add]; exact k1, by rw [Nat.zero_add]; exact k2⟩
theorem PC.at {W : World} {v : Value} {cs : List Ch} (h : PC W v cs) {i : Nat} {q : Ch} (hq : cs[i]? = some q) : ∃ b off c, v = .slice (some ⟨b, off, none⟩) cs.length c ∧ b < W.heap.size ∧ W.cell? ⟨b, off + i * 3, none⟩ = some (.int .i64 q.1) ∧ W.cell? ⟨b, off + i * 3 + 1, none⟩ = some (.int .u64 q.2.1) ∧ W.cell? ⟨b, off + i * 3 + 2, none⟩ = some (.int .i64 q.2.2) := by
  obtain ⟨A, c, rfl, h1⟩ := h
  obtain ⟨b, off, rfl, hlt, c0, c1, c2⟩ := h1 i q hq
  exact ⟨b, off, c, rfl, hlt, c0, c1, c2⟩
set_option maxRecDepth 100000 in
set_option maxHeartbeats 4000000 in
/-- slices.Values gives them all -/
theorem vals_gives (B1 : Nat) (v : Value) (zs : List Ch) (hz : zs.length ≤ 1073741824) :
    GivesC 115 #[.pointer (some ⟨B1, 0, none⟩)] LisTs (fun W => W.cell? ⟨B1, 0, none⟩ = some v ∧ PC W v zs) (fun W => W.cell? ⟨B1, 0, none⟩ = some v ∧ PC W v zs) zs := by
  refine ⟨enters_of Try.func115 (by kernel_rfl) rfl, fun n bnd Inv hN hD hO => ?_⟩
  intro l Rc JX W1 hRc hJX hR0 hS0 hY
  obtain ⟨hbw, ⟨c1, hpc⟩, hI0⟩ := hS0
  refine callsIn_of_wp Try.func115 rfl trivial ?_ rfl
  simp only [Try.ntmps115, List.size_toArray, List.length_cons, List.length_nil, Nat.reduceAdd, Nat.reduceSub, Array.replicate_succ, Array.replicate_zero, List.push_toArray, List.append_toArray, List.nil_append, List.cons_append]
  obtain ⟨A, c, rfl, -⟩ := id hpc
  obtain ⟨n1, hn1⟩ : ∃ n1, W1.heap.size = n1 := ⟨_, rfl⟩
  rw [hn1] at hbw hRc hJX hY
  have HN := Lib.hid hN; have HO := Lib.hid hO; have HRC := Lib.hid hRc; have HJX := Lib.hid hJX; have HY := Lib.hid hY; have HZ := Lib.hid hn1
  clear hpc hN hD hO hRc hJX hY hn1
  gi_wp2_with fail
  clear c1
  gi_loopw [7] (fun i wr => ∃ k : Nat, k ≤ zs.length ∧ i = .int .i64 k ∧ Rc wr ∧ Inv k wr ∧ n1 ≤ wr.heap.size) (fun i _ => zs.length - (intOf i).toNat)
  case atStart => exact ⟨0, Nat.zero_le _, rfl, hR0, hI0, by have := HZ.out; omega⟩
  case round =>
    obtain ⟨k, hk, rfl, hr, hi, hsz⟩ := hrel
    have k0 : (0 : Int) ≤ (k : Int) := Int.natCast_nonneg _
    have k9 : (k : Int) ≤ 9223372036854775807 := by omega
    by_cases hlt : k < zs.length
    · have kl : (k : Int) < (zs.length : Int) := by omega
      obtain ⟨⟨x, y, z⟩, hx⟩ : ∃ x, zs[k] = x := ⟨_, rfl⟩
      have hx2 : zs[k]? = some (x, y, z) := by rw [List.getElem?_eq_getElem hlt, hx]
      have hgd : zs.getD k dC = (x, y, z) := by rw [List.getD_eq_getElem?_getD, hx2]; rfl
      obtain ⟨b3, off3, c4, e1, hlb, r0, r1, r2⟩ := (HN.out _ _ hi).2.at hx2
      obtain ⟨rfl, rfl⟩ : A = some ⟨b3, off3, none⟩ ∧ c = c4 := by injection e1 with e1 e2 e3; exact ⟨e1, e3⟩
      simp only at r0 r1 r2
      have hal : Below wr.heap.size wr (wr.alloc (.cells #[.int .i64 x, .int .u64 y, .int .i64 z] tC)) := (Below.refl _ wr).alloc (Nat.le_refl _) _
      have hia : Inv k (wr.alloc (.cells #[.int .i64 x, .int .u64 y, .int .i64 z] tC)) := HO.out k bnd (Nat.le_refl _) () wr _ none hi (World.grownBy_alloc wr _ none) (fun r e => by cases e)
      have hra : Rc (wr.alloc (.cells #[.int .i64 x, .int .u64 y, .int .i64 z] tC)) := HRC.out _ _ hr (KU.grown (World.grownBy_alloc wr _ none) (fun r e => by cases e))
      have hya := HY.out k _ ⟨hlt, hia⟩ hra (Nat.le_trans hsz hal.size)
      rw [hgd] at hya
      obtain ⟨fn, tmps, assign, body, hy, hRn⟩ := hya
      have HRN := Lib.hid hRn; have HSZ := Lib.hid (Nat.le_trans hsz hal.size)
      unfold evC at hy
      dsimp only at hy
      clear hx hx2 hgd e1 hal hia hra hRn hi hr
      gi_wp2_with fail
      refine ⟨fun h => (by cases h), ?_⟩
      refine HRN.out.mono ?_
      clear hy
      rintro e W3 ⟨hfy, (⟨rfl, hi3, hr3⟩ | ⟨rfl, hJ⟩)⟩
      · gi_wp2_with fail
        go_roundw
        case rel => exact ⟨k + 1, by omega, by simp, hr3, hi3, Nat.le_trans HSZ.out hfy.1.size⟩
        case measure => simp [intOf]; omega
      · gi_wp2_with fail
        refine bodyPost_ret (results_none rfl _ _ _) rfl ?_
        exact ⟨⟨_, rfl⟩, .inr hJ⟩
    · obtain rfl : k = zs.length := by omega
      gi_wp2_with fail
      go_end0
      exact ⟨⟨_, rfl⟩, .inl ⟨hi, hr⟩⟩
theorem values_any (W : World) (A : Option Addr) (n c : Nat) :
    Calls Try.prog 89 #[.slice A n c] W fun e w' => e = .returned (.func (.func 115) #[] #[.pointer (some ⟨W.heap.size, 0, none⟩)]) ∧ w' = W.alloc (.cells #[.slice A n c] 80) := by
  go_enter Try.func89, Try.ntmps89
  go_wp2_with fail
  go_ret
  exact ⟨rfl, rfl⟩
def wrL (cs : List Ch) : List Int := uv cs.length ++ cs.flatMap wrC
set_option maxRecDepth 100000 in
set_option maxHeartbeats 4000000 in
/-- delta.Write -/
theorem write_any (W : World) (v : Value) (cs : List Ch) (h : PC W v cs) (hg : ∀ q ∈ cs, goodC q) (hl : cs.length ≤ 1000000) :
    Calls Try.prog 52 #[v] W fun e w' => ∃ o, e = .returned o ∧ w'.ownsRow W.heap.size 5 1 o (wrL cs).length (nums .u8 (wrL cs)) ∧ Below W.heap.size W w' := by
  have H := Lib.hid h
  obtain ⟨A, c, rfl, -⟩ := h
  go_enter Try.func52, Try.ntmps52
  go_wp2_with fail
  refine (values_any _ _ _ _).mono ?_; rintro e w2 ⟨rfl, hw2⟩
  have hal : Below W.heap.size W w2 := by rw [hw2]; exact ((Below.refl _ W).alloc (Nat.le_refl _) _).alloc (by simp) _
  have hb1 : Blk w2 W.heap.size 136 [.slice none 0 0] := by rw [hw2]; exact (Blk.new W [.slice none 0 0] 136).alloc _
  have hb2 : Blk w2 (W.heap.size + 1) 80 [.slice A cs.length c] := by rw [hw2]; exact Blk.new2 W _ [.slice A cs.length c] 80
  have hM0 : OM w2 W.heap.size W.heap.size (.slice none 0 0) [] := ⟨Nat.le_refl _, hb1, World.ownsRow_nil _ _ _ _⟩
  have HAL := Lib.hid hal; have HB2 := Lib.hid hb2; have HM0 := Lib.hid hM0
  simp only [World.size_alloc]
  clear hw2 hal hb1 hb2 hM0
  have hG := vals_gives (W.heap.size + 1) (.slice A cs.length c) cs (by omega)
  have hstn : ∀ W', Below w2.heap.size w2 W' → W'.cell? ⟨W.heap.size + 1, 0, none⟩ = some (.slice A cs.length c) ∧ PC W' (.slice A cs.length c) cs := fun W' hb => ⟨(HB2.out.belowS hb).cell rfl, (H.out.below HAL.out).below hb⟩
  have PU := put_any w2 W.heap.size W.heap.size (.slice none 0 0) [] 90 #[] putC _ _ cs _ _ hG hstn hstn hg (by omega) (by simp) HM0.out
  have HPU := Lib.hid PU
  clear hG hstn PU
  go_wp2_with fail
  refine HPU.out.mono ?_; rintro e w3 ⟨rfl, v3, hM3, hF3⟩
  rw [List.nil_append] at hM3
  have hB3 : Below W.heap.size W w3 := HAL.out.trans (HM0.out.belowB hF3)
  have hfl := flat_len (wr := wrC) (m := 30) cs (fun z hz' => wrC_len (hg z hz'))
  have hul := uv_len10 (n := cs.length) (by omega)
  have hsm : (wrL cs).length ≤ 1099511627776 := by unfold wrL; rw [List.length_append]; omega
  have hM3' : OM w3 W.heap.size W.heap.size v3 (wrL cs) := hM3
  have HM3 := Lib.hid hM3'; have HB3 := Lib.hid hB3
  clear hM3 hM3' hF3 hB3 hfl hul
  go_wp2_with fail
  refine (out_done w3 W.heap.size W.heap.size v3 (wrL cs) hsm HM3.out).mono ?_; rintro e w4 ⟨A4, c4, rfl, ho4, hb4⟩
  have HR := Lib.hid (And.intro (own_weaken ho4 HB3.out.size) (HB3.out.trans (hb4.mono HB3.out.size)))
  clear ho4 hb4
  go_wp2_with fail
  exact bodyPost_ret (v := .slice A4 (wrL cs).length c4) (by simp [results, Try.f52, go_sem]) rfl ⟨_, rfl, HR.out.1, HR.out.2⟩
end Go.Proofs.Ytnlhgnioedalpaa.Cod
