/- layer 5: a list is written. -/
import Derived.Test.YtbhpokcnkdgcmaaCod4
import Derived.Test.YtbhpokcnkdgcmaaSeq
import Derived.Deep.RegionLaw
import Derived.Deep.DeepCutAuto
import Derived.StillTactics
set_option linter.unusedSimpArgs false
set_option linter.unusedVariables false
namespace Go.Proofs.Ytbhpokcnkdgcmaa.Cod
open Go.RowKit Go.Shelf Go.Proofs.YtbhpokcnkdgcmaaW.PrintWords Go.Proofs.Ytbhpokcnkdgcmaa.CodL
attribute [local go_sem] Oper.semAt_some

/-- one thing is written -/
def OneP {α : Type} (ev : α → Value) (wr : α → List Int) (good : α → Prop) (F : Nat) (lb : Array Value) : Prop :=
  (∀ args w, (callFunc F args).run Try.prog w = .ok (.enter F args) w) ∧ ∀ x W base p v bs, good x → bs.length ≤ 1099511627776 → OM W base p v bs → Calls Try.prog F (#[.pointer (some ⟨p, 0, none⟩), ev x] ++ lb) W fun e w' => e = .returned (.tuple #[]) ∧ ∃ v', OM w' base p v' (bs ++ wr x) ∧ RFr p v v' W w'

def evN (x : Int) : Value := .int .i64 x
def goodN (x : Int) : Prop := -9223372036854775808 ≤ x ∧ x ≤ 9223372036854775807
def wrN (x : Int) : List Int := uv (zz x)
theorem wrN_len {x : Int} (h : goodN x) : (wrN x).length ≤ 10 := uv_len10 (zz_lt h)

theorem OM.own {β : Type} (base p : Nat) (v : β → Value) (bs : β → List Int) : Own (fun (s : β) W => OM W base p (v s) (bs s)) := fun s A B row hs hg hr => by
  obtain ⟨h1, h2, h3⟩ := hs
  exact ⟨h1, blk_own p _ (fun s => [v s]) s A B row h2 hg hr, own_move h3 (fun k e => hg.block k (own_lt h3 k e) (fun e' => by
    obtain ⟨o, ho, hc⟩ := hr k e'.symm
    obtain ⟨cs, hcs⟩ := own_typed h3 k e
    rw [hcs] at ho
    cases ho
    simp [Obj.isCells] at hc))⟩
theorem flat_take {α : Type} (wr : α → List Int) (zs : List α) (d : α) {k : Nat} (hk : k < zs.length) : (zs.take (k + 1)).flatMap wr = (zs.take k).flatMap wr ++ wr (zs.getD k d) := by
  rw [List.take_succ_eq_append_getElem hk, List.flatMap_append]
  simp [hk]
theorem flat_len {α : Type} {wr : α → List Int} {m : Nat} (zs : List α) (h : ∀ z ∈ zs, (wr z).length ≤ m) : (zs.flatMap wr).length ≤ zs.length * m := by
  induction zs with
  | nil => simp
  | cons z zs ih =>
    rw [List.flatMap_cons, List.length_append, List.length_cons, Nat.add_mul]
    have h1 := h z List.mem_cons_self
    have h2 := ih (fun x hx => h x (List.mem_cons_of_mem _ hx))
    omega

set_option maxHeartbeats 400000 in
theorem values_any (W : World) (a : Option Addr) (len cap : Nat) :
    Calls Try.prog 45 #[.slice a len cap] W fun e w' => e = .returned (.func (.func 100) #[] #[.pointer (some ⟨W.heap.size, 0, none⟩)]) ∧ w' = W.alloc (.cells #[.slice a len cap] 57) := by
  go_enter Try.func45, Try.ntmps45
  go_wp2_with fail
  go_ret
  exact ⟨rfl, rfl⟩

def cvN (x : Int) : List Value := [.int .i64 x]
set_option maxRecDepth 100000 in
set_option maxHeartbeats 4000000 in
theorem values_gives (W0 : World) (B n₀ : Nat) (sv : Value) (zs : List Int) (hsm : zs.length < 9223372036854775807) (hB : B < n₀) (hbx : Boxed W0 B 57 sv) (hR : Rd cvN 1 n₀ W0 sv zs) :
    Gives 100 #[.pointer (some ⟨B, 0, none⟩)] n₀ W0 evN zs (0 : Int) := by
  refine ⟨enters_of Try.func100 (by kernel_rfl) rfl, ?_⟩
  intro n Inv hI hA l Rc JX W1 hRc hJX hR0 hS0 hY
  refine callsIn_of_wp Try.func100 rfl trivial ?_ rfl
  simp only [Try.ntmps100, List.size_toArray, List.length_cons, List.length_nil, Nat.reduceAdd, Nat.reduceSub, Array.replicate_succ, Array.replicate_zero, List.push_toArray, List.append_toArray, List.nil_append, List.cons_append]
  have cb : W1.cell? ⟨B, 0, none⟩ = some sv := ((hI _ _ hS0).cell (p := ⟨B, 0, none⟩) hB).trans hbx.cell
  rcases hR with ⟨a, cap, rfl, rfl⟩ | ⟨b, off, cap, rfl, hlt, hc⟩
  · gi_wp2_with fail
    gi_loopw [7] (fun i wr => i = .int .i64 0 ∧ Rc wr ∧ Inv 0 wr) (fun _ _ => 0)
    case atStart => exact ⟨rfl, hR0, hS0⟩
    case round =>
      obtain ⟨rfl, hr, hi⟩ := hrel
      gi_wp2_with fail
      go_end0
      exact ⟨⟨_, rfl⟩, .inl ⟨hi, hr⟩⟩
  · gi_wp2_with fail
    gi_loopw [7] (fun i wr => ∃ k : Nat, k ≤ zs.length ∧ i = .int .i64 k ∧ Rc wr ∧ Inv k wr) (fun i _ => zs.length - (intOf i).toNat)
    case atStart => exact ⟨0, Nat.zero_le _, rfl, hR0, hS0⟩
    case round =>
      obtain ⟨k, hk, rfl, hr, hi⟩ := hrel
      have hb := hI _ _ hi
      have k0 : (0 : Int) ≤ (k : Int) := Int.natCast_nonneg _
      have k9 : (k : Int) ≤ 9223372036854775807 := by omega
      by_cases hlt2 : k < zs.length
      · have kl : (k : Int) < (zs.length : Int) := by omega
        obtain ⟨kx, hx⟩ : ∃ x, zs[k] = x := ⟨_, rfl⟩
        have hx2 : zs[k]? = some kx := by rw [List.getElem?_eq_getElem hlt2, hx]
        have hgd : zs.getD k (0 : Int) = kx := by rw [List.getD_eq_getElem?_getD, hx2]; rfl
        have a1 : ∀ c v, (cvN kx)[c]? = some v → wr.cell? ⟨b, off + k * 1 + c, none⟩ = some v := fun c v hv => (hb.cell (p := ⟨b, off + k * 1 + c, none⟩) hlt).trans (hc k _ hx2 c v hv)
        have q1 : wr.cell? ⟨b, off + k * 1, none⟩ = some (.int .i64 kx) := a1 0 _ rfl
        rw [Nat.mul_one] at q1
        have hi2 := hi
        have hr2 := hr
        obtain ⟨fn, tmps, assign, body, hy, hRn⟩ := hY k _ ⟨hlt2, hi2⟩ hr2
        rw [hgd] at hy
        dsimp only [evN] at hy
        clear a1 hx hx2 hgd hc
        gi_wp2_with fail
        refine ⟨fun h => (by cases h), ?_⟩
        refine hRn.mono ?_
        rintro e W3 (⟨rfl, hi3, hr3⟩ | ⟨rfl, hJ⟩)
        · gi_wp2_with fail
          go_roundw
          case rel => exact ⟨k + 1, by omega, by simp, hr3, hi3⟩
          case measure => simp [intOf]; omega
        · gi_wp2_with fail
          refine bodyPost_ret (results_none rfl _ _ _) rfl ?_
          exact ⟨⟨_, rfl⟩, .inr hJ⟩
      · obtain rfl : k = zs.length := by omega
        gi_wp2_with fail
        go_end0
        exact ⟨⟨_, rfl⟩, .inl ⟨hi, hr⟩⟩

/-- how far the list is written: the body's object behind the function's box, the count -/
def PI (W : World) (F : Nat) (lb : Array Value) (zs : List Int) (k : Nat) (W' : World) : Prop :=
  (∃ v, OM W' (W.heap.size + 1) (W.heap.size + 1) v ((zs.take k).flatMap wrN)) ∧ Blk W' W.heap.size 74 [.func (.func F) #[] lb] ∧ Blk W' (W.heap.size + 1 + 1) 66 [.int .u64 (k : Int)] ∧ Below W.heap.size W W'
theorem PI.own (W : World) (F : Nat) (lb : Array Value) (zs : List Int) (k : Nat) {b : Nat} (hb : W.heap.size ≤ b) : OwnFrom b (fun (_ : Unit) W' => PI W F lb zs k W') := fun s A B row ⟨⟨v, h1⟩, h2, h3, h4⟩ hg hr =>
  ⟨⟨v, Own.from (OM.own _ _ (fun _ : Unit => v) (fun _ => _)) b () A B row h1 hg hr⟩, Own.from (blk_own _ _ (fun _ : Unit => _)) b () A B row h2 hg hr, Own.from (blk_own _ _ (fun _ : Unit => _)) b () A B row h3 hg hr, ownFrom_below (Nat.le_refl _) hb () A B row h4 hg hr⟩

set_option maxRecDepth 100000 in
set_option maxHeartbeats 4000000 in
theorem put_any (W : World) (base p : Nat) (v0 : Value) (bs : List Int) (F : Nat) (lb : Array Value) (hF : OneP evN wrN goodN F lb) (G : Nat) (lbs : Array Value) (zs : List Int) (hG : Gives G lbs W.heap.size W evN zs 0) (hgd : ∀ z ∈ zs, goodN z) (hz : zs.length ≤ 1073741824) (hsm : bs.length ≤ 274877906944) (hM : OM W base p v0 bs) :
    Calls Try.prog 53 #[.pointer (some ⟨p, 0, none⟩), .func (.func G) #[] lbs, .func (.func F) #[] lb] W fun e w' => e = .returned (.tuple #[]) ∧ ∃ v', OM w' base p v' (bs ++ uv zs.length ++ zs.flatMap wrN) ∧ RFr p v0 v' W w' := by
  refine (callsIn_wide (n := 4)).1 ?_
  refine callsIn_of_wp_marks Try.func53 rfl trivial ?_ rfl
  refine wpIn_wide.2 ?_
  simp only [Try.ntmps53, List.size_toArray, List.length_cons, List.length_nil, Nat.reduceAdd, Nat.reduceSub, Array.replicate_succ, Array.replicate_zero, List.push_toArray, List.append_toArray, List.nil_append, List.cons_append]
  go_wp2_with fail
  have b0 := ((Blk.new W [.func (.func F) #[] lb] 74).alloc (.cells #[.slice none 0 0] 69)).alloc (.cells #[.int .u64 0] 66)
  have b1 := (Blk.new2 W (.cells #[.func (.func F) #[] lb] 74) [.slice none 0 0] 69).alloc (.cells #[.int .u64 0] 66)
  have b2 := Blk.new2 (W.alloc (.cells #[.func (.func F) #[] lb] 74)) (.cells #[.slice none 0 0] 69) [.int .u64 0] 66
  rw [World.size_alloc] at b2
  have hB0 := (bel_alloc2 W (.cells #[.func (.func F) #[] lb] 74) (.cells #[.slice none 0 0] 69)).alloc (by simp; omega) (.cells #[.int .u64 0] 66)
  obtain ⟨W2, hW2⟩ : ∃ W2, (((W.alloc (.cells #[.func (.func F) #[] lb] 74)).alloc (.cells #[.slice none 0 0] 69)).alloc (.cells #[.int .u64 0] 66)) = W2 := ⟨_, rfl⟩
  rw [hW2] at b0 b1 b2 hB0 ⊢
  have hz2 : W2.heap.size = W.heap.size + 3 := by rw [← hW2]; simp
  clear hW2
  have hbW : W.heap.size ≤ W2.heap.size := by omega
  have hP0 : PI W F lb zs 0 W2 := ⟨⟨_, Nat.le_refl _, b1, World.ownsRow_nil _ _ _ _⟩, b0, b2, hB0⟩
  clear b0 b1 b2 hB0
  refine wpIn_wide.1 (range_gen (F := Fence.wide) (n := 4) rfl (by omega) (gf := G) (lb := lbs) rfl trivial hG.1 (encs := fun k : Nat => #[evN (zs.getD k 0)]) (fun _ => rfl)
    (fun W' => PI W F lb zs 0 W') (fun k W' => k < zs.length ∧ PI W F lb zs k W') (fun k W' => PI W F lb zs (k + 1) W') (fun _ _ => False) (fun W' => PI W F lb zs zs.length W')
    (fun k a' W' => a' = { tmps := #[.pointer (some ⟨p, 0, none⟩), .func (.func G) #[] lbs, .func (.func F) #[] lb, undef, undef, .pointer (some ⟨W.heap.size, 0, none⟩), .pointer (some ⟨W.heap.size + 1, 0, none⟩), .pointer (some ⟨W.heap.size + 1 + 1, 0, none⟩), evN (zs.getD k 0), .func (.func G) #[] lbs, evN (zs.getD k 0), undef, undef, undef, undef, undef, undef, undef, undef, undef, undef, undef, undef, undef, undef, undef, undef, undef, undef], defers := [] } ∧ k < zs.length ∧ PI W F lb zs k W')
    (PI.own W F lb zs 0 hbW) (fun k => PI.own W F lb zs (k + 1) hbW) (fun _ _ _ _ _ hs _ _ => hs) (PI.own W F lb zs zs.length hbW)
    (fun k a' => OwnFrom.and (fun _ _ _ _ hs _ _ => hs) (OwnFrom.and (fun _ _ _ _ hs _ _ => hs) (PI.own W F lb zs k hbW)))
    hP0 (hG.2 3 (fun k W' => PI W F lb zs k W') (fun k W' h => h.2.2.2) (fun k W' o h => (PI.own W F lb zs k (Nat.le_refl _)).alloc (s := ()) o h)) ?assign ?body ?done ?stop)
  case assign =>
    rintro l k W' K ⟨hk, hI⟩ hK
    obtain ⟨x, hx⟩ : ∃ x, zs.getD k 0 = x := ⟨_, rfl⟩
    rw [hx] at hK ⊢
    unfold evN at hK ⊢
    gi_wp2
    exact hK _ _ (KeepsFrom.refl _ _) ⟨rfl, hk, hI⟩
  case body =>
    rintro l k a' W' hl hr ⟨ha, hk, ⟨v, hM1⟩, hb0, hb2, hB⟩
    have hft := flat_take wrN zs 0 hk
    have hgx : goodN (zs.getD k 0) := hgd _ (by simp [hk])
    have hfl := flat_len (wr := wrN) (m := 10) (zs.take k) (fun z hz' => wrN_len (hgd z (List.mem_of_mem_take hz')))
    rw [List.length_take] at hfl
    obtain ⟨x, hx⟩ : ∃ x, zs.getD k 0 = x := ⟨_, rfl⟩
    rw [hx] at ha hft hgx
    have HFT := Lib.hid hft; clear hft
    have HX := Lib.hid hx; clear hx
    have c0 := hb0.cell (i := 0) rfl
    have hlm : ((zs.take k).flatMap wrN).length ≤ 1099511627776 := by omega
    have HO := Lib.hid (hF.2 x W' _ _ v _ hgx hlm hM1)
    have hk1 : (k : Int) < 1073741824 := by omega
    have hk0 : (0 : Int) ≤ (k : Int) := by omega
    have eg := hF.1
    subst ha
    unfold evN at HO ⊢
    gi_wp2_with fail
    refine ⟨trivial, ?_⟩
    refine (CallsIn.inRound l (callsIn_wide.2 HO.out)).mono ?_; rintro e w3 ⟨rfl, v3, hM3, hF3⟩
    have hFr := hM1.fr hF3
    have hb03 := hFr.blk hb0 (by omega) (by decide)
    have hb23 := hFr.blk hb2 (by omega) (by decide)
    have hB3 := hB.trans (hFr.below.mono (by omega))
    have c3 := hb23.cell (i := 0) rfl
    have f3 := hb23.frozen 0
    have hKO : KeepsOthers W' w3 := hFr.others hM1.2.1
    clear c0 HO hb0 hb2 hB hM1
    gi_wp2_with fail
    refine ⟨(hKO.trans (KeepsOthers.setCell _ _ _)).from _, ⟨v3, ?_⟩, hb03.other (p := ⟨W.heap.size + 1 + 1, 0, none⟩) (by simp; omega) _, hb23.set 0 _, hB3.setCell (p := ⟨W.heap.size + 1 + 1, 0, none⟩) (by simp; omega) _⟩
    rw [HFT.out]
    exact ⟨Nat.le_refl _, hM3.2.1.other (p := ⟨W.heap.size + 1 + 1, 0, none⟩) (by simp) _, own_setCell hM3.2.2 (own_apart hb23 hM3.2.2 (by decide)) 0 _⟩
  case done =>
    rintro D W' hD ⟨⟨v, hM1⟩, hb0, hb2, hB⟩ hK
    rw [List.take_length] at hM1
    have c2 := hb2.cell (i := 0) rfl
    have hMo : OM W' base p v0 bs := OM.below hM hB
    have hz0 : (zs.length : Int) ≤ 1073741824 := by omega
    go_wp2_with fail
    refine (out_uint W' base p v0 bs zs.length (by omega) (by omega) hMo).mono ?_; rintro e w3 ⟨rfl, v3, hM3, hF3⟩
    have hMb : OM w3 (W.heap.size + 1) (W.heap.size + 1) v ((zs.flatMap wrN)) := hM1.other hF3 (by have := hM.lt; omega) ⟨_, _, hMo⟩ (by
      cases hv : v.ownBlock with
      | none => exact .inl rfl
      | some j =>
        right
        intro e
        have h1 := hM1.ge j hv
        have h2 := own_lt hM.2.2 j e.symm
        omega)
    have hfl := flat_len (wr := wrN) (m := 10) zs (fun z hz' => wrN_len (hgd z hz'))
    have hul := uv_len10 (n := zs.length) (by omega)
    have hs3 : (bs ++ uv zs.length).length ≤ 274877906944 + 10 := by simp; omega
    clear hM1
    obtain ⟨cs, hcs⟩ : ∃ cs, bs ++ uv zs.length = cs := ⟨_, rfl⟩
    obtain ⟨ds, hds⟩ : ∃ ds, zs.flatMap wrN = ds := ⟨_, rfl⟩
    rw [hcs] at hM3 hs3
    rw [hds] at hMb hfl
    have HCS := Lib.hid hcs; clear hcs
    have HDS := Lib.hid hds; clear hds
    obtain ⟨Ab, cb, rfl, hPb, hRb, hlb, hCb, hAb⟩ := hMb.slice
    have hMc := hM3
    have hK3 := ((OM.fr hMo hF3).others hMo.2.1).same _ _ hK rfl
    obtain ⟨Ao, co, rfl, hPo, hRo, hlo, hCo, hAo⟩ := hM3.slice
    have k0 := hPo.cell (i := 0) rfl
    have k1 := hPb.cell (i := 0) rfl
    have hap := own_apart hPo hRo (by decide)
    have hbp := hM.lt
    have hz3 := hF3.size
    have hbz : base ≤ w3.heap.size := by have := hB.size; omega
    go_wp2_with fail
    refine Code.wp_mono (Q := fun e a w => e = .normal ∧ a.defers = [{ target := Target.collected D, args := #[] }] ∧ w.heap[D]? = some (.deferred (some [])) ∧ ∃ v4, OM w base p v4 (cs ++ ds) ∧ RFr p (.slice Ao cs.length co) v4 w3 w) (fun e a w h => ?_) ?_
    · obtain ⟨ta, da⟩ := a
      obtain ⟨rfl, hda, hK4, v4, hM4, hF4⟩ := h
      go_wp2
      refine ⟨by simp, .inl ⟨_, _, rfl, run_takeDeferred hK4, ?_⟩⟩
      refine ⟨_, results_none rfl _ _ _, rfl, v4, ?_, (((RFr.ofBelow p v0 hB).trans (hF3.trans hF4)).putNew (by omega) _)⟩
      rw [← List.append_assoc, HCS.out, HDS.out]
      exact (OM.own base p (fun _ : Unit => v4) (fun _ => cs ++ ds)).putObj (s := ()) _ hM4 hK4 rfl
    go_region_law ((refine step_append_nums (by rfl) _ _ _ (by rfl) base 5 .u8 1 Try.underlying67 infoB (by decide) _ _ _ (by rfl) hRo.drew Ab ds cb (by rfl) (Kd.C_drew hCb) hAb (by omega) hbz ?_; intro A4 c4 w4 hR4 hg4 hat4; have hP4 := hPo.drew.kept hg4 (Ne.symm hap); have d4 := hP4.cell (i := 0) rfl; have e4 := hP4.frozen 0))
    all_goals
      have hF5 := ((((RFr.refl p (.slice Ao cs.length co) w3).drew).trans (RFr.grown p hg4 hat4)).setP 0 (.slice A4 (cs.length + ds.length) c4))
      refine ⟨rfl, rfl, ((OM.fr hMc hF5).others hMc.2.1).same _ _ hK3 rfl, _, OM.store hbp.1 hP4 (by rw [nums_append]; exact hR4), hF5⟩
  case stop =>
    rintro D c W' hD h hK
    exact h.elim

end Go.Proofs.Ytbhpokcnkdgcmaa.Cod
