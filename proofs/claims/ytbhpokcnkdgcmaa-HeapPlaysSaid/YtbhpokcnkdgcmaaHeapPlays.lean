/- HeapPlays: one step. -/
import Derived.Test.YtbhpokcnkdgcmaaHeapRef2
import Derived.Test.YtbhpokcnkdgcmaaHeapAl
import Derived.Test.YtbhpokcnkdgcmaaHeapP14
import Derived.Test.YtbhpokcnkdgcmaaHeapSm
import Derived.Test.YtbhpokcnkdgcmaaHeapSo
import Derived.BigQuiet
import Derived.Deep.RegionHeld3
set_option linter.unusedSimpArgs false
set_option linter.unusedVariables false
namespace Go.Proofs.Ytbhpokcnkdgcmaa.HeapP
open Go.RowKit Go.Shelf Go.Proofs.Ytbhpokcnkdgcmaa.HeapL
attribute [local go_sem] Oper.semAt_some

/-- a slice of things that is read, in a block of such -/
def RdX (W : World) (sv : Value) (zs : List (Int × Int)) : Prop :=
  (∃ a cap, sv = .slice a 0 cap ∧ zs = []) ∨ ∃ b off cap cs fr, sv = .slice (some ⟨b, off, none⟩) zs.length cap ∧ zs.length ≤ cap ∧ W.heap[b]? = some (Obj.cells cs 37 fr) ∧ ∀ j x, zs[j]? = some x → ∀ c v, (cv x)[c]? = some v → W.cell? ⟨b, off + j * 2 + c, none⟩ = some v
theorem RdX.rd {W : World} {sv : Value} {zs : List (Int × Int)} (h : RdX W sv zs) : Rd cv 2 W.heap.size W sv zs := by
  rcases h with h | ⟨b, off, cap, cs, fr, e, _, hb, hc⟩
  · exact .inl h
  · exact .inr ⟨b, off, cap, e, (Array.getElem?_eq_some_iff.1 hb).1, hc⟩
theorem RdX.same {W W' : World} {sv : Value} {zs : List (Int × Int)} (h : RdX W sv zs) (hk : ∀ (b : Nat) (cs : Array Value) (fr : Nat × Nat), W.heap[b]? = some (Obj.cells cs 37 fr) → W'.heap[b]? = W.heap[b]?) : RdX W' sv zs := by
  rcases h with h | ⟨b, off, cap, cs, fr, e, hcp, hb, hc⟩
  · exact .inl h
  · have hk' := hk b cs fr hb
    refine .inr ⟨b, off, cap, cs, fr, e, hcp, hk'.trans hb, fun j x hx c v hv => ?_⟩
    have := hc j x hx c v hv
    unfold World.cell? at this ⊢
    rw [hk']
    exact this
theorem RdX.fr {W W' : World} {hb p : Nat} {t : TypeId} {l : List Value} {sv : Value} {zs : List (Int × Int)} (h : RdX W sv zs) (hf : FrC hb p 123 W W') (hp : Blk W p t l) (ht : t ≠ 37) : RdX W' sv zs :=
  RdX.same h (fun b cs fr hb => by
    rw [hb]
    refine hf.keep b cs _ fr hb (fun e => ?_) (by decide)
    subst e
    unfold Blk at hp
    rw [hp] at hb
    simp at hb
    exact ht hb.2.1)
theorem RdX.below {W W' : World} {sv : Value} {zs : List (Int × Int)} (h : RdX W sv zs) (hb : Below W.heap.size W W') : RdX W' sv zs :=
  RdX.same h (fun b cs fr hb' => hb.block b (Array.getElem?_eq_some_iff.1 hb').1)
theorem RdX.of_own {W : World} {base : Nat} {sv : Value} {zs : List (Int × Int)} (h : W.ownsRow base 37 2 sv zs.length (cellsOf cv zs)) : RdX W sv zs := by
  have hr := Rd.of_own cv_length (0, 0) h
  rcases hr with hr | ⟨b, off, cap, e, hlt, hc⟩
  · exact .inl hr
  · obtain ⟨_, cs, fr, hk⟩ := own_typ h b (by rw [e]; rfl)
    subst e
    refine .inr ⟨b, off, cap, cs, fr, rfl, ?_, hk, hc⟩
    rcases h.2 with ⟨e, h0⟩ | ⟨g, c, cur, e, _, _, hcp, _⟩
    · omega
    · injection e with _ _ e3
      subst e3
      exact hcp
theorem RdX.slice {W : World} {sv : Value} {zs : List (Int × Int)} (h : RdX W sv zs) : ∃ a cap, sv = .slice a zs.length cap := by
  rcases h with ⟨a, cap, e, rfl⟩ | ⟨b, off, cap, cs, fr, e, _, hb, hc⟩
  · exact ⟨a, cap, e⟩
  · exact ⟨_, cap, e⟩
theorem RdX.head {W : World} {sv : Value} {x : Int × Int} {zs : List (Int × Int)} (h : RdX W sv (x :: zs)) : ∃ b off cap, sv = .slice (some ⟨b, off, none⟩) (zs.length + 1) cap ∧ zs.length + 1 ≤ cap := by
  rcases h with ⟨a, cap, _, h⟩ | ⟨b, off, cap, cs, fr, e, hcp, hb, hc⟩
  · cases h
  · exact ⟨b, off, cap, e, hcp⟩
/-- the first cells; the rest -/
theorem RdX.first {W : World} {b off n cap : Nat} {x : Int × Int} {zs : List (Int × Int)} (h : RdX W (.slice (some ⟨b, off, none⟩) n cap) (x :: zs)) : b < W.heap.size ∧ W.cell? ⟨b, off, none⟩ = some (.int .i64 x.1) ∧ W.cell? ⟨b, off + 1, none⟩ = some (.int .i64 x.2) ∧ RdX W (.slice (some ⟨b, off + 2, none⟩) zs.length (cap - 1)) zs := by
  rcases h with ⟨a, cap, _, h⟩ | ⟨b', off', cap', cs, fr, e, hcp, hb, hc⟩
  · cases h
  · injection e with e1 e2 e3
    injection e1 with e1
    injection e1 with e4 e5
    subst e3; subst e4; subst e5
    refine ⟨(Array.getElem?_eq_some_iff.1 hb).1, ?_, ?_, .inr ⟨b, off + 2, cap - 1, cs, fr, rfl, by simp at hcp; omega, hb, fun j y hy c v hv => ?_⟩⟩
    · have := hc 0 x rfl 0 _ rfl; simpa using this
    · have := hc 0 x rfl 1 _ rfl; simpa using this
    · have := hc (j + 1) y (by simpa using hy) c v hv
      rw [show off + 2 + j * 2 + c = off + (j + 1) * 2 + c by omega]
      exact this

theorem HS.setBlk {W : World} {base p : Nat} {lt : (Int × Int) → (Int × Int) → Bool} {F : Nat} {lb : Array Value} {xs : List (Int × Int)} {T : Nat} (h : HS W base p lt F lb xs T) {b : Nat} {t : TypeId} {l : List Value} (hb : Blk W b t l) (h1 : t ≠ 121) (h2 : t ≠ 123) (i : Nat) (u : Value) : HS (W.setCell ⟨b, i, none⟩ u) base p lt F lb xs T := by
  obtain ⟨es, s, ⟨k1, v', k2, k3⟩, r⟩ := h
  refine ⟨es, s, ⟨k1, v', k2.other (fun e => ?_) _, own_setCell k3 (fun e => ?_) i _⟩, r⟩
  · have e' : p = b := e
    subst e'
    exact h1 (hb.inj k2).1
  · exact own_apart hb k3 h2 e
def co (x : Int × Int × Int) : List Value := [.int .i64 x.1, .int .i64 x.2.1, .int .i64 x.2.2]

theorem RdX.cap {W : World} {a : Option Addr} {n c : Nat} {zs : List (Int × Int)} (h : RdX W (.slice a n c) zs) : n ≤ c := by
  rcases h with ⟨a', cap, e, rfl⟩ | ⟨b, off, cap, cs, fr, e, h, hb, hc⟩
  · injection e with _ e _
    omega
  · injection e with _ e1 e2
    omega
theorem i64_and255 (n : Int) : bits .and .i64 n 255 = n % 256 := by
  have h127 : (BitVec.ofInt 64 255).toNat = 2 ^ 8 - 1 := by decide
  have key : (BitVec.ofInt 64 n &&& BitVec.ofInt 64 255).toNat = (n % ((2 ^ 64 : Nat) : Int)).toNat % 2 ^ 8 := by
    rw [BitVec.toNat_and, BitVec.toNat_ofInt, h127, Nat.and_two_pow_sub_one_eq_mod]
  show IntKind.i64.wrap ((BitVec.ofInt 64 n &&& BitVec.ofInt 64 255).toNat : Nat) = n % 256
  rw [key, IntKind.wrap_i64]
  omega
/-- before each step -/
def PI (W : World) (p : Nat) (most : Int) (j : Nat) (psv : Value) (wr : World) : Prop :=
  ∃ (xs : List (Int × Int)) (T : Nat), T ≤ j ∧ xs.length ≤ j ∧ HS wr p p ltP 31 #[] xs T ∧ RdX wr psv xs ∧ Blk wr W.heap.size 3 [.int .i64 most] ∧ Below W.heap.size W wr ∧ W.heap.size < p

set_option maxRecDepth 100000 in
set_option maxHeartbeats 100000000 in
theorem plays_walk (W : World) (sv : Value) (os : List (Int × Int × Int)) (hR : Rd co 3 W.heap.size W sv os) (hL : os.length ≤ maxLen) (_ : ∀ z ∈ os, (Lit.int .i64 z.1).wf = true ∧ (Lit.int .i64 z.2.1).wf = true ∧ (Lit.int .i64 z.2.2).wf = true) (most : Int) (_ : (Lit.int .i64 most).wf = true) :
    Calls Try.prog 6 #[sv, .int .i64 most] W fun e w' => e = .returned (.bool true) ∧ Below W.heap.size W w' := by
  unfold maxLen at hL
  have hR' : ∃ a cap, sv = .slice a os.length cap ∧ ∀ j x, os[j]? = some x → ∃ b off, a = some ⟨b, off, none⟩ ∧ b < W.heap.size ∧ W.cell? ⟨b, off + j * 3, none⟩ = some (.int .i64 x.1) ∧ W.cell? ⟨b, off + j * 3 + 1, none⟩ = some (.int .i64 x.2.1) ∧ W.cell? ⟨b, off + j * 3 + 2, none⟩ = some (.int .i64 x.2.2) := by
    rcases hR with ⟨a, cap, rfl, rfl⟩ | ⟨b, off, cap, rfl, hlt, hc⟩
    · exact ⟨_, _, rfl, fun j x hx => by simp at hx⟩
    · exact ⟨_, _, rfl, fun j x hx => ⟨b, off, rfl, hlt, hc j x hx 0 _ rfl, hc j x hx 1 _ rfl, hc j x hx 2 _ rfl⟩⟩
  clear hR
  obtain ⟨a, cap, rfl, hc⟩ := hR'
  refine (callsIn_wide (n := 4)).1 ?_
  refine callsIn_of_wp_marks Try.func6 rfl trivial ?_ rfl
  refine wpIn_wide.2 ?_
  simp only [Try.ntmps6, List.size_toArray, List.length_cons, List.length_nil, Nat.reduceAdd, Nat.reduceSub, Array.replicate_succ, Array.replicate_zero, List.push_toArray, List.append_toArray, List.nil_append, List.cons_append]
  have b3 := Blk.new W [.int .i64 most] 3
  have hBa : Below W.heap.size W (W.alloc (.cells #[.int .i64 most] 3)) := (Below.refl _ W).alloc (Nat.le_refl _) _
  go_wp2_with fail
  refine (HeapI.alive_any _).mono ?_; rintro e w1 ⟨rfl, hB1⟩
  have b31 := b3.belowS hB1
  have hB1' : Below W.heap.size W w1 := hBa.trans (hB1.mono (by simp))
  have hz1 : W.heap.size < w1.heap.size := b31.lt
  clear b3 hBa hB1
  by_cases hl : os.length ≤ 200
  · have hl' : (os.length : Int) ≤ 200 := by omega
    go_wp2_with fail
    refine (new_hs ltP w1 31 #[]).mono ?_; rintro e w2 ⟨rfl, hS2, hw2⟩
    obtain ⟨p, hp⟩ : ∃ p, w1.heap.size = p := ⟨_, rfl⟩
    have hB2 : Below p w1 w2 := by rw [hw2, ← hp]; exact (Below.refl _ w1).alloc (Nat.le_refl _) _
    have b32 := b31.below hB2 (by omega)
    have hBW2 := hB1'.trans (hB2.mono (by omega))
    rw [hp] at hS2 hz1 ⊢
    clear hw2 hp hB2 b31 hB1'
    go_wp2_with fail
    go_loopw [6, 23] (fun ps i wr => ∃ j : Nat, j ≤ os.length ∧ i = .int .i64 j ∧ PI W p most j ps wr)
      (fun _ i _ => os.length - (intOf i).toNat)
    case atStart =>
      exact ⟨0, Nat.zero_le _, rfl, [], 0, Nat.le_refl _, Nat.le_refl _, hS2.below ((Below.refl _ w2).alloc (Nat.le_refl _) _), .inl ⟨_, _, rfl, rfl⟩, b32.alloc _, hBW2.alloc hBW2.size _, hz1⟩
    case round =>
      obtain ⟨j, hj, rfl, xs, T, hT, hx, hS, hP, hb3, hB, hzp⟩ := hrel
      obtain ⟨psv, hps⟩ : ∃ psv, u6 = psv := ⟨_, rfl⟩
      subst hps
      by_cases hjl : j < os.length
      · obtain ⟨⟨kd, ok, ov⟩, hz⟩ : ∃ z, os[j] = z := ⟨_, rfl⟩
        obtain ⟨b, off, rfl, hlt, z0, z1, z2⟩ := hc j _ (by rw [List.getElem?_eq_getElem hjl, hz])
        clear hc hz
        have y0 := (hB.cell (p := ⟨b, off + j * 3, none⟩) hlt).trans z0
        have y1 := (hB.cell (p := ⟨b, off + j * 3 + 1, none⟩) hlt).trans z1
        have y2 := (hB.cell (p := ⟨b, off + j * 3 + 2, none⟩) hlt).trans z2
        have hlt' : b < wr.heap.size := Nat.lt_of_lt_of_le hlt hB.size
        clear z0 z1 z2
        have j0 : (0 : Int) ≤ (j : Int) := Int.natCast_nonneg _
        have j1 : (j : Int) < (os.length : Int) := by omega
        have j3 : (j : Int) ≤ 9223372036854775807 := by omega
        have nx := Blk.new wr [.int .i64 kd, .int .i64 ok, .int .i64 ov] 41
        have ba := (Below.refl _ wr).alloc (Nat.le_refl _) (.cells #[.int .i64 kd, .int .i64 ok, .int .i64 ov] 41)
        by_cases hk : kd = 0 ∨ kd = 1 ∨ kd = 2
        · rcases hk with rfl | rfl | rfl
          · go_wp2_with fail
            obtain ⟨W2, hW2⟩ : ∃ W2, wr.alloc (.cells #[.int .i64 0, .int .i64 ok, .int .i64 ov] 41) = W2 := ⟨_, rfl⟩
            rw [hW2] at nx ba ⊢
            clear hW2
            have hzw := nx.lt
            have hpw := hS.lt'
            have hS2' := hS.below ba
            have hP2 := RdX.below hP ba
            have hb32 := hb3.belowS ba
            have hBp : Below W.heap.size W W2 := hB.trans (ba.mono hB.size)
            clear hS hP hb3 ba hB y0 y1 y2
            refine (put_hs ltP ltP_ord W2 p p _ #[] xs T ok ov (by omega) (by omega) hS2' (before_bf _ _ _)).mono ?_; rintro e w3 ⟨rfl, hS3, hF3⟩
            have hPb : ∃ l, Blk W2 p 121 l := by obtain ⟨_, _, hM⟩ := hS2'.length; obtain ⟨_, vv, hPb, _⟩ := hM; exact ⟨_, hPb⟩
            obtain ⟨lp, hPb⟩ := hPb
            have hP3 := RdX.fr hP2 hF3.c hPb (by decide)
            have hb33 := hF3.blk hb32 (by omega) (by decide)
            have nx3 := hF3.blk nx (by omega) (by decide)
            have hB3 := hBp.trans (hF3.below.mono (by omega))
            have hz3 := hF3.size
            have g0 := nx3.cell (i := 0) rfl
            have g1 := nx3.cell (i := 1) rfl
            have g2 := nx3.cell (i := 2) rfl
            clear hPb hF3 hS2' hP2 hb32 hBp
            go_wp2_with fail
            refine (put_ref w3 _ xs ok ov (by omega) (RdX.rd hP3)).mono ?_; rintro e w4 ⟨u, rfl, hO4, hB4⟩
            have hS4 := hS3.below hB4
            have hP4 := RdX.of_own hO4
            have hb34 := hb33.belowS hB4
            have hBp4 := hB3.trans (hB4.mono hB3.size)
            obtain ⟨ua, uc, rfl⟩ := own_slice hO4
            rw [insV_length] at hO4 hP4 ⊢
            have hlen := len_hs ltP w4 p p 31 #[] _ _ hS4
            rw [insV_length] at hlen
            have HL := Lib.hid hlen
            clear hlen hS3 hP3 hb33 hB3 hO4 g0 g1 g2 hB4
            go_wp2_with fail
            refine HL.out.mono ?_; rintro e w5 ⟨rfl, rfl⟩
            go_wp2_with fail
            go_roundw
            case rel => exact ⟨j + 1, by omega, by simp, _, T + 1, by omega, by rw [insV_length]; omega, hS4, hP4, hb34, hBp4, hzp⟩
            case measure => simp [intOf]; omega
          · go_wp2_with fail
            obtain ⟨W2, hW2⟩ : ∃ W2, wr.alloc (.cells #[.int .i64 1, .int .i64 ok, .int .i64 ov] 41) = W2 := ⟨_, rfl⟩
            rw [hW2] at nx ba ⊢
            clear hW2
            have hzw := nx.lt
            have hpw := hS.lt'
            have hS2' := hS.below ba
            have hP2 := RdX.below hP ba
            have hb32 := hb3.belowS ba
            have hBp : Below W.heap.size W W2 := hB.trans (ba.mono hB.size)
            clear hS hP hb3 ba hB y0 y1 y2
            refine (put_hs ltP ltP_ord W2 p p _ #[] xs T ok ov (by omega) (by omega) hS2' (before_bf _ _ _)).mono ?_; rintro e w3 ⟨rfl, hS3, hF3⟩
            have hPb : ∃ l, Blk W2 p 121 l := by obtain ⟨_, _, hM⟩ := hS2'.length; obtain ⟨_, vv, hPb, _⟩ := hM; exact ⟨_, hPb⟩
            obtain ⟨lp, hPb⟩ := hPb
            have hP3 := RdX.fr hP2 hF3.c hPb (by decide)
            have hb33 := hF3.blk hb32 (by omega) (by decide)
            have nx3 := hF3.blk nx (by omega) (by decide)
            have hB3 := hBp.trans (hF3.below.mono (by omega))
            have hz3 := hF3.size
            have g0 := nx3.cell (i := 0) rfl
            have g1 := nx3.cell (i := 1) rfl
            have g2 := nx3.cell (i := 2) rfl
            clear hPb hF3 hS2' hP2 hb32 hBp
            go_wp2_with fail
            refine (put_ref w3 _ xs ok ov (by omega) (RdX.rd hP3)).mono ?_; rintro e w4 ⟨u, rfl, hO4, hB4⟩
            have hS4 := hS3.below hB4
            have hP4 := RdX.of_own hO4
            have hb34 := hb33.belowS hB4
            have hBp4 := hB3.trans (hB4.mono hB3.size)
            obtain ⟨ua, uc, rfl⟩ := own_slice hO4
            rw [insV_length] at hO4 hP4 ⊢
            have hlen := len_hs ltP w4 p p 31 #[] _ _ hS4
            rw [insV_length] at hlen
            have HL := Lib.hid hlen
            clear hlen hS3 hP3 hb33 hB3 hO4 g0 g1 g2 hB4
            go_wp2_with fail
            refine HL.out.mono ?_; rintro e w5 ⟨rfl, rfl⟩
            go_wp2_with fail
            go_roundw
            case rel => exact ⟨j + 1, by omega, by simp, _, T + 1, by omega, by rw [insV_length]; omega, hS4, hP4, hb34, hBp4, hzp⟩
            case measure => simp [intOf]; omega
          · go_wp2_with fail
            obtain ⟨W2, hW2⟩ : ∃ W2, wr.alloc (.cells #[.int .i64 2, .int .i64 ok, .int .i64 ov] 41) = W2 := ⟨_, rfl⟩
            rw [hW2] at nx ba ⊢
            clear hW2
            have hzw := nx.lt
            have hpw := hS.lt'
            have hS2' := hS.below ba
            have hP2 := RdX.below hP ba
            have hb32 := hb3.belowS ba
            have hBp : Below W.heap.size W W2 := hB.trans (ba.mono hB.size)
            clear hS hP hb3 ba hB y0 y1 y2
            refine (put_hs ltP ltP_ord W2 p p _ #[] xs T ok ov (by omega) (by omega) hS2' (before_bf _ _ _)).mono ?_; rintro e w3 ⟨rfl, hS3, hF3⟩
            have hPb : ∃ l, Blk W2 p 121 l := by obtain ⟨_, _, hM⟩ := hS2'.length; obtain ⟨_, vv, hPb, _⟩ := hM; exact ⟨_, hPb⟩
            obtain ⟨lp, hPb⟩ := hPb
            have hP3 := RdX.fr hP2 hF3.c hPb (by decide)
            have hb33 := hF3.blk hb32 (by omega) (by decide)
            have nx3 := hF3.blk nx (by omega) (by decide)
            have hB3 := hBp.trans (hF3.below.mono (by omega))
            have hz3 := hF3.size
            have g0 := nx3.cell (i := 0) rfl
            have g1 := nx3.cell (i := 1) rfl
            have g2 := nx3.cell (i := 2) rfl
            clear hPb hF3 hS2' hP2 hb32 hBp
            go_wp2_with fail
            refine (put_ref w3 _ xs ok ov (by omega) (RdX.rd hP3)).mono ?_; rintro e w4 ⟨u, rfl, hO4, hB4⟩
            have hS4 := hS3.below hB4
            have hP4 := RdX.of_own hO4
            have hb34 := hb33.belowS hB4
            have hBp4 := hB3.trans (hB4.mono hB3.size)
            obtain ⟨ua, uc, rfl⟩ := own_slice hO4
            rw [insV_length] at hO4 hP4 ⊢
            have hlen := len_hs ltP w4 p p 31 #[] _ _ hS4
            rw [insV_length] at hlen
            have HL := Lib.hid hlen
            clear hlen hS3 hP3 hb33 hB3 hO4 g0 g1 g2 hB4
            go_wp2_with fail
            refine HL.out.mono ?_; rintro e w5 ⟨rfl, rfl⟩
            go_wp2_with fail
            go_roundw
            case rel => exact ⟨j + 1, by omega, by simp, _, T + 1, by omega, by rw [insV_length]; omega, hS4, hP4, hb34, hBp4, hzp⟩
            case measure => simp [intOf]; omega
        · have n0 : (kd == 0) = false := beq_eq_false_iff_ne.2 (by omega)
          have n1 : (kd == 1) = false := beq_eq_false_iff_ne.2 (by omega)
          have n2 : (kd == 2) = false := beq_eq_false_iff_ne.2 (by omega)
          by_cases hk3 : kd = 3 ∨ kd = 4
          · rcases hk3 with rfl | rfl
            · cases xs with
              | nil =>
                obtain ⟨sa, sc, rfl⟩ := RdX.slice hP
                go_wp2_with fail
                obtain ⟨W2, hW2⟩ : ∃ W2, wr.alloc (.cells #[.int .i64 3, .int .i64 ok, .int .i64 ov] 41) = W2 := ⟨_, rfl⟩
                rw [hW2] at nx ba ⊢
                clear hW2
                have hzw := nx.lt
                have hpw := hS.lt'
                have hS2' := hS.below ba
                have hP2 := RdX.below hP ba
                have hb32 := hb3.belowS ba
                have hBp : Below W.heap.size W W2 := hB.trans (ba.mono hB.size)
                clear hS hP hb3 ba hB y0 y1 y2
                refine (top_hs ltP ltP_ord W2 p p _ #[] _ T hS2').mono ?_; rintro e w3 ⟨rfl, hb23⟩
                rw [show headV ([] : List (Int × Int)) = (0, 0) from rfl]
                unfold ev
                have hS3 := hS2'.below hb23
                have hP3 := RdX.below hP2 hb23
                have hb33 := hb32.belowS hb23
                have nx3 := nx.belowS hb23
                have hB3 := hBp.trans (hb23.mono hBp.size)
                have hz3 := hb23.size
                have hzw3 : wr.heap.size < w3.heap.size := by omega
                have g0 := nx3.cell (i := 0) rfl
                have g1 := nx3.cell (i := 1) rfl
                have g2 := nx3.cell (i := 2) rfl
                clear hS2' hP2 hb32 hBp nx hb23
                go_wp2_with fail
                obtain ⟨W4, hW4⟩ : ∃ W4, w3.alloc (.cells #[.int .i64 0, .int .i64 0] 37) = W4 := ⟨_, rfl⟩
                have ba4 : Below w3.heap.size w3 W4 := by rw [← hW4]; exact (Below.refl _ w3).alloc (Nat.le_refl _) _
                have nx4 : Blk W4 w3.heap.size 37 [.int .i64 0, .int .i64 0] := by rw [← hW4]; exact Blk.new w3 [.int .i64 0, .int .i64 0] _
                rw [hW4]
                clear hW4
                have hS4 := hS3.below ba4
                have hP4 := RdX.below hP3 ba4
                have hb34 := hb33.belowS ba4
                have hB4 := hB3.trans (ba4.mono hB3.size)
                have nx5 := nx3.belowS ba4
                have c0 := nx4.cell (i := 0) rfl
                have c1 := nx4.cell (i := 1) rfl
                have f0 := nx5.cell (i := 0) rfl
                have hz4 := nx4.lt
                have hz5 : wr.heap.size < W4.heap.size := by omega
                clear hS3 hb33 g0 g1 g2 nx3
                refine (pop_hs_nil ltP W4 p p _ #[] T hS4).mono ?_; rintro e w5 ⟨rfl, hb5⟩
                have hS5 := hS4.below hb5
                have hk5 : ∀ (b : Nat) (cs : Array Value) (fr : Nat × Nat), W4.heap[b]? = some (Obj.cells cs 37 fr) → w5.heap[b]? = W4.heap[b]? := fun b cs fr hb => hb5.block b (Array.getElem?_eq_some_iff.1 hb).1
                have hb35 := hb34.belowS hb5
                have nx6 := nx5.belowS hb5
                have nx7 := nx4.belowS hb5
                have hB5 := hB4.trans (hb5.mono hB4.size)
                have hz6 := hb5.size
                clear hb5
                unfold ev
                have f6 := nx6.cell (i := 0) rfl
                have d0 := nx7.cell (i := 0) rfl
                have d1 := nx7.cell (i := 1) rfl
                have e0 := nx7.frozen 0
                have e1 := nx7.frozen 1
                have hz7 : wr.heap.size < w5.heap.size := by omega
                have hz8 : w3.heap.size < w5.heap.size := by omega
                clear c0 c1 f0 nx5 nx4 hS4 hP4 hb34 hB4
                go_wp2_with fail
                obtain ⟨W6, hW6⟩ : ∃ W6, (w5.setCell ⟨w3.heap.size, 0, none⟩ (.int .i64 0)).setCell ⟨w3.heap.size, 1, none⟩ (.int .i64 0) = W6 := ⟨_, rfl⟩
                have hz9 : w5.heap.size ≤ W6.heap.size := by rw [← hW6]; simp [World.setCell]
                have hk6 : ∀ b, b ≠ w3.heap.size → W6.heap[b]? = w5.heap[b]? := fun b hb => by rw [← hW6]; exact (Below.heap_setCell _ ⟨w3.heap.size, 1, none⟩ _ b hb).trans (Below.heap_setCell _ ⟨w3.heap.size, 0, none⟩ _ b hb)
                have hS6 := HS.setBlk (HS.setBlk hS5 nx7 (by decide) (by decide) 0 (.int .i64 0)) (nx7.set 0 (.int .i64 0)) (by decide) (by decide) 1 (.int .i64 0)
                have nx8 : Blk W6 w3.heap.size 37 [.int .i64 0, .int .i64 0] := by rw [← hW6]; exact (nx7.set 0 (.int .i64 0)).set 1 (.int .i64 0)
                have nx9 : Blk W6 wr.heap.size 41 [.int .i64 3, .int .i64 ok, .int .i64 ov] := (hk6 _ (by omega)).trans nx6
                have hb36 : Blk W6 W.heap.size 3 [.int .i64 most] := (hk6 _ (by have := hB3.size; omega)).trans hb35
                have hB6 : Below W.heap.size W W6 := by rw [← hW6]; exact (hB5.setCell (p := ⟨w3.heap.size, 0, none⟩) hB3.size _).setCell (p := ⟨w3.heap.size, 1, none⟩) hB3.size _
                have hP6 := RdX.same hP3 (W' := W6) (fun b cs fr hb => by
                  have hb1 := (Array.getElem?_eq_some_iff.1 hb).1
                  exact (hk6 b (by omega)).trans ((hk5 b cs fr ((ba4.block b hb1).trans hb)).trans (ba4.block b hb1)))
                rw [hW6] at hS6 ⊢
                clear hW6 hk6 hk5 d0 d1 e0 e1 f6 nx7 nx6 hb35 hB5 hB3 hP3 hS5 ba4
                have f6 := nx9.cell (i := 0) rfl
                have d0 := nx8.cell (i := 0) rfl
                have d1 := nx8.cell (i := 1) rfl
                have hz10 : wr.heap.size < W6.heap.size := by omega
                have hz11 : w3.heap.size < W6.heap.size := by omega
                go_region
                go_wp2_with fail
                refine (len_hs ltP W6.drew p p _ #[] ([] : List (Int × Int)) T hS6).mono ?_; rintro e w7 ⟨rfl, rfl⟩
                go_wp2_with fail
                go_roundw
                case rel => exact ⟨j + 1, by omega, by simp, _, T, by omega, Nat.zero_le _, hS6, hP6, hb36, hB6.drew, hzp⟩
                case measure => simp [intOf]; omega
              | cons x xs =>
                obtain ⟨xk, xv⟩ := x
                obtain ⟨sb, so, sc, rfl, hsc⟩ := RdX.head hP
                have hsc2 : (xs.length : Int) + 1 ≤ (sc : Int) := by omega
                simp only [List.length_cons] at hx
                go_wp2_with fail
                obtain ⟨W2, hW2⟩ : ∃ W2, wr.alloc (.cells #[.int .i64 3, .int .i64 ok, .int .i64 ov] 41) = W2 := ⟨_, rfl⟩
                rw [hW2] at nx ba ⊢
                clear hW2
                have hzw := nx.lt
                have hpw := hS.lt'
                have hS2' := hS.below ba
                have hP2 := RdX.below hP ba
                have hb32 := hb3.belowS ba
                have hBp : Below W.heap.size W W2 := hB.trans (ba.mono hB.size)
                clear hS hP hb3 ba hB y0 y1 y2
                refine (top_hs ltP ltP_ord W2 p p _ #[] _ T hS2').mono ?_; rintro e w3 ⟨rfl, hb23⟩
                rw [show headV ((xk, xv) :: xs) = (xk, xv) from rfl]
                unfold ev
                have hS3 := hS2'.below hb23
                have hP3 := RdX.below hP2 hb23
                have hb33 := hb32.belowS hb23
                have nx3 := nx.belowS hb23
                have hB3 := hBp.trans (hb23.mono hBp.size)
                have hz3 := hb23.size
                have hzw3 : wr.heap.size < w3.heap.size := by omega
                have g0 := nx3.cell (i := 0) rfl
                have g1 := nx3.cell (i := 1) rfl
                have g2 := nx3.cell (i := 2) rfl
                clear hS2' hP2 hb32 hBp nx hb23
                go_wp2_with fail
                obtain ⟨W4, hW4⟩ : ∃ W4, w3.alloc (.cells #[.int .i64 xk, .int .i64 xv] 37) = W4 := ⟨_, rfl⟩
                have ba4 : Below w3.heap.size w3 W4 := by rw [← hW4]; exact (Below.refl _ w3).alloc (Nat.le_refl _) _
                have nx4 : Blk W4 w3.heap.size 37 [.int .i64 xk, .int .i64 xv] := by rw [← hW4]; exact Blk.new w3 [.int .i64 xk, .int .i64 xv] _
                rw [hW4]
                clear hW4
                have hS4 := hS3.below ba4
                have hP4 := RdX.below hP3 ba4
                have hb34 := hb33.belowS ba4
                have hB4 := hB3.trans (ba4.mono hB3.size)
                have nx5 := nx3.belowS ba4
                have c0 := nx4.cell (i := 0) rfl
                have c1 := nx4.cell (i := 1) rfl
                have f0 := nx5.cell (i := 0) rfl
                have hz4 := nx4.lt
                have hz5 : wr.heap.size < W4.heap.size := by omega
                clear hS3 hb33 g0 g1 g2 nx3
                have hPp : ∃ l, Blk W4 p 121 l := by obtain ⟨_, _, hM⟩ := hS4.length; obtain ⟨_, vv, hPb, _⟩ := hM; exact ⟨_, hPb⟩
                obtain ⟨lp, hPp⟩ := hPp
                refine (pop_hs_cons ltP ltP_ord W4 p p _ #[] (xk, xv) xs T (by omega) hS4 (before_bf _ _ _)).mono ?_; rintro e w5 ⟨rfl, hS5, hF5⟩
                have hk5 : ∀ (b : Nat) (cs : Array Value) (fr : Nat × Nat), W4.heap[b]? = some (Obj.cells cs 37 fr) → w5.heap[b]? = W4.heap[b]? := fun b cs fr hb => by
                  rw [hb]
                  refine hF5.c.keep b cs _ fr hb (fun e => ?_) (by decide)
                  subst e
                  unfold Blk at hPp
                  rw [hPp] at hb
                  simp at hb
                have hb35 := hF5.blk hb34 (by omega) (by decide)
                have nx6 := hF5.blk nx5 (by omega) (by decide)
                have nx7 := hF5.blk nx4 (by omega) (by decide)
                have hB5 := hB4.trans (hF5.below.mono (by omega))
                have hz6 := hF5.size
                clear hF5 hPp
                unfold ev
                have f6 := nx6.cell (i := 0) rfl
                have d0 := nx7.cell (i := 0) rfl
                have d1 := nx7.cell (i := 1) rfl
                have e0 := nx7.frozen 0
                have e1 := nx7.frozen 1
                have hz7 : wr.heap.size < w5.heap.size := by omega
                have hz8 : w3.heap.size < w5.heap.size := by omega
                clear c0 c1 f0 nx5 nx4 hS4 hP4 hb34 hB4
                go_wp2_with fail
                obtain ⟨W6, hW6⟩ : ∃ W6, (w5.setCell ⟨w3.heap.size, 0, none⟩ (.int .i64 xk)).setCell ⟨w3.heap.size, 1, none⟩ (.int .i64 xv) = W6 := ⟨_, rfl⟩
                have hz9 : w5.heap.size ≤ W6.heap.size := by rw [← hW6]; simp [World.setCell]
                have hk6 : ∀ b, b ≠ w3.heap.size → W6.heap[b]? = w5.heap[b]? := fun b hb => by rw [← hW6]; exact (Below.heap_setCell _ ⟨w3.heap.size, 1, none⟩ _ b hb).trans (Below.heap_setCell _ ⟨w3.heap.size, 0, none⟩ _ b hb)
                have hS6 := HS.setBlk (HS.setBlk hS5 nx7 (by decide) (by decide) 0 (.int .i64 xk)) (nx7.set 0 (.int .i64 xk)) (by decide) (by decide) 1 (.int .i64 xv)
                have nx8 : Blk W6 w3.heap.size 37 [.int .i64 xk, .int .i64 xv] := by rw [← hW6]; exact (nx7.set 0 (.int .i64 xk)).set 1 (.int .i64 xv)
                have nx9 : Blk W6 wr.heap.size 41 [.int .i64 3, .int .i64 ok, .int .i64 ov] := (hk6 _ (by omega)).trans nx6
                have hb36 : Blk W6 W.heap.size 3 [.int .i64 most] := (hk6 _ (by have := hB3.size; omega)).trans hb35
                have hB6 : Below W.heap.size W W6 := by rw [← hW6]; exact (hB5.setCell (p := ⟨w3.heap.size, 0, none⟩) hB3.size _).setCell (p := ⟨w3.heap.size, 1, none⟩) hB3.size _
                have hP6 := RdX.same hP3 (W' := W6) (fun b cs fr hb => by
                  have hb1 := (Array.getElem?_eq_some_iff.1 hb).1
                  exact (hk6 b (by omega)).trans ((hk5 b cs fr ((ba4.block b hb1).trans hb)).trans (ba4.block b hb1)))
                rw [hW6] at hS6 ⊢
                clear hW6 hk6 hk5 d0 d1 e0 e1 f6 nx7 nx6 hb35 hB5 hB3 hP3 hS5 ba4
                have f6 := nx9.cell (i := 0) rfl
                have d0 := nx8.cell (i := 0) rfl
                have d1 := nx8.cell (i := 1) rfl
                have hz10 : wr.heap.size < W6.heap.size := by omega
                have hz11 : w3.heap.size < W6.heap.size := by omega
                obtain ⟨hsb, s0, s1, hP7⟩ := RdX.first hP6
                have hz12 : (1 : Int) ≤ (xs.length : Int) + 1 := by omega
                go_region
                go_wp2_with fail
                · obtain rfl : xs = [] := List.eq_nil_of_length_eq_zero (by omega)
                  refine (len_hs ltP W6.drew p p _ #[] [] T hS6).mono ?_; rintro e w7 ⟨rfl, rfl⟩
                  go_wp2_with fail
                  go_roundw
                  case rel => exact ⟨j + 1, by omega, by simp, _, T, by omega, Nat.zero_le _, hS6, .inl ⟨_, _, rfl, rfl⟩, hb36, hB6.drew, hzp⟩
                  case measure => simp [intOf]; omega
                · refine (len_hs ltP W6.drew p p _ #[] xs T hS6).mono ?_; rintro e w7 ⟨rfl, rfl⟩
                  go_wp2_with fail
                  go_roundw
                  case rel => exact ⟨j + 1, by omega, by simp, _, T, by omega, by omega, hS6, hP7, hb36, hB6.drew, hzp⟩
                  case measure => simp [intOf]; omega
            · cases xs with
              | nil =>
                obtain ⟨sa, sc, rfl⟩ := RdX.slice hP
                go_wp2_with fail
                obtain ⟨W2, hW2⟩ : ∃ W2, wr.alloc (.cells #[.int .i64 4, .int .i64 ok, .int .i64 ov] 41) = W2 := ⟨_, rfl⟩
                rw [hW2] at nx ba ⊢
                clear hW2
                have hzw := nx.lt
                have hpw := hS.lt'
                have hS2' := hS.below ba
                have hP2 := RdX.below hP ba
                have hb32 := hb3.belowS ba
                have hBp : Below W.heap.size W W2 := hB.trans (ba.mono hB.size)
                clear hS hP hb3 ba hB y0 y1 y2
                refine (top_hs ltP ltP_ord W2 p p _ #[] _ T hS2').mono ?_; rintro e w3 ⟨rfl, hb23⟩
                rw [show headV ([] : List (Int × Int)) = (0, 0) from rfl]
                unfold ev
                have hS3 := hS2'.below hb23
                have hP3 := RdX.below hP2 hb23
                have hb33 := hb32.belowS hb23
                have nx3 := nx.belowS hb23
                have hB3 := hBp.trans (hb23.mono hBp.size)
                have hz3 := hb23.size
                have hzw3 : wr.heap.size < w3.heap.size := by omega
                have g0 := nx3.cell (i := 0) rfl
                have g1 := nx3.cell (i := 1) rfl
                have g2 := nx3.cell (i := 2) rfl
                clear hS2' hP2 hb32 hBp nx hb23
                go_wp2_with fail
                obtain ⟨W4, hW4⟩ : ∃ W4, w3.alloc (.cells #[.int .i64 0, .int .i64 0] 37) = W4 := ⟨_, rfl⟩
                have ba4 : Below w3.heap.size w3 W4 := by rw [← hW4]; exact (Below.refl _ w3).alloc (Nat.le_refl _) _
                have nx4 : Blk W4 w3.heap.size 37 [.int .i64 0, .int .i64 0] := by rw [← hW4]; exact Blk.new w3 [.int .i64 0, .int .i64 0] _
                rw [hW4]
                clear hW4
                have hS4 := hS3.below ba4
                have hP4 := RdX.below hP3 ba4
                have hb34 := hb33.belowS ba4
                have hB4 := hB3.trans (ba4.mono hB3.size)
                have nx5 := nx3.belowS ba4
                have c0 := nx4.cell (i := 0) rfl
                have c1 := nx4.cell (i := 1) rfl
                have f0 := nx5.cell (i := 0) rfl
                have hz4 := nx4.lt
                have hz5 : wr.heap.size < W4.heap.size := by omega
                clear hS3 hb33 g0 g1 g2 nx3
                refine (pop_hs_nil ltP W4 p p _ #[] T hS4).mono ?_; rintro e w5 ⟨rfl, hb5⟩
                have hS5 := hS4.below hb5
                have hk5 : ∀ (b : Nat) (cs : Array Value) (fr : Nat × Nat), W4.heap[b]? = some (Obj.cells cs 37 fr) → w5.heap[b]? = W4.heap[b]? := fun b cs fr hb => hb5.block b (Array.getElem?_eq_some_iff.1 hb).1
                have hb35 := hb34.belowS hb5
                have nx6 := nx5.belowS hb5
                have nx7 := nx4.belowS hb5
                have hB5 := hB4.trans (hb5.mono hB4.size)
                have hz6 := hb5.size
                clear hb5
                unfold ev
                have f6 := nx6.cell (i := 0) rfl
                have d0 := nx7.cell (i := 0) rfl
                have d1 := nx7.cell (i := 1) rfl
                have e0 := nx7.frozen 0
                have e1 := nx7.frozen 1
                have hz7 : wr.heap.size < w5.heap.size := by omega
                have hz8 : w3.heap.size < w5.heap.size := by omega
                clear c0 c1 f0 nx5 nx4 hS4 hP4 hb34 hB4
                go_wp2_with fail
                obtain ⟨W6, hW6⟩ : ∃ W6, (w5.setCell ⟨w3.heap.size, 0, none⟩ (.int .i64 0)).setCell ⟨w3.heap.size, 1, none⟩ (.int .i64 0) = W6 := ⟨_, rfl⟩
                have hz9 : w5.heap.size ≤ W6.heap.size := by rw [← hW6]; simp [World.setCell]
                have hk6 : ∀ b, b ≠ w3.heap.size → W6.heap[b]? = w5.heap[b]? := fun b hb => by rw [← hW6]; exact (Below.heap_setCell _ ⟨w3.heap.size, 1, none⟩ _ b hb).trans (Below.heap_setCell _ ⟨w3.heap.size, 0, none⟩ _ b hb)
                have hS6 := HS.setBlk (HS.setBlk hS5 nx7 (by decide) (by decide) 0 (.int .i64 0)) (nx7.set 0 (.int .i64 0)) (by decide) (by decide) 1 (.int .i64 0)
                have nx8 : Blk W6 w3.heap.size 37 [.int .i64 0, .int .i64 0] := by rw [← hW6]; exact (nx7.set 0 (.int .i64 0)).set 1 (.int .i64 0)
                have nx9 : Blk W6 wr.heap.size 41 [.int .i64 4, .int .i64 ok, .int .i64 ov] := (hk6 _ (by omega)).trans nx6
                have hb36 : Blk W6 W.heap.size 3 [.int .i64 most] := (hk6 _ (by have := hB3.size; omega)).trans hb35
                have hB6 : Below W.heap.size W W6 := by rw [← hW6]; exact (hB5.setCell (p := ⟨w3.heap.size, 0, none⟩) hB3.size _).setCell (p := ⟨w3.heap.size, 1, none⟩) hB3.size _
                have hP6 := RdX.same hP3 (W' := W6) (fun b cs fr hb => by
                  have hb1 := (Array.getElem?_eq_some_iff.1 hb).1
                  exact (hk6 b (by omega)).trans ((hk5 b cs fr ((ba4.block b hb1).trans hb)).trans (ba4.block b hb1)))
                rw [hW6] at hS6 ⊢
                clear hW6 hk6 hk5 d0 d1 e0 e1 f6 nx7 nx6 hb35 hB5 hB3 hP3 hS5 ba4
                have f6 := nx9.cell (i := 0) rfl
                have d0 := nx8.cell (i := 0) rfl
                have d1 := nx8.cell (i := 1) rfl
                have hz10 : wr.heap.size < W6.heap.size := by omega
                have hz11 : w3.heap.size < W6.heap.size := by omega
                go_region
                go_wp2_with fail
                refine (len_hs ltP W6.drew p p _ #[] ([] : List (Int × Int)) T hS6).mono ?_; rintro e w7 ⟨rfl, rfl⟩
                go_wp2_with fail
                go_roundw
                case rel => exact ⟨j + 1, by omega, by simp, _, T, by omega, Nat.zero_le _, hS6, hP6, hb36, hB6.drew, hzp⟩
                case measure => simp [intOf]; omega
              | cons x xs =>
                obtain ⟨xk, xv⟩ := x
                obtain ⟨sb, so, sc, rfl, hsc⟩ := RdX.head hP
                have hsc2 : (xs.length : Int) + 1 ≤ (sc : Int) := by omega
                simp only [List.length_cons] at hx
                go_wp2_with fail
                obtain ⟨W2, hW2⟩ : ∃ W2, wr.alloc (.cells #[.int .i64 4, .int .i64 ok, .int .i64 ov] 41) = W2 := ⟨_, rfl⟩
                rw [hW2] at nx ba ⊢
                clear hW2
                have hzw := nx.lt
                have hpw := hS.lt'
                have hS2' := hS.below ba
                have hP2 := RdX.below hP ba
                have hb32 := hb3.belowS ba
                have hBp : Below W.heap.size W W2 := hB.trans (ba.mono hB.size)
                clear hS hP hb3 ba hB y0 y1 y2
                refine (top_hs ltP ltP_ord W2 p p _ #[] _ T hS2').mono ?_; rintro e w3 ⟨rfl, hb23⟩
                rw [show headV ((xk, xv) :: xs) = (xk, xv) from rfl]
                unfold ev
                have hS3 := hS2'.below hb23
                have hP3 := RdX.below hP2 hb23
                have hb33 := hb32.belowS hb23
                have nx3 := nx.belowS hb23
                have hB3 := hBp.trans (hb23.mono hBp.size)
                have hz3 := hb23.size
                have hzw3 : wr.heap.size < w3.heap.size := by omega
                have g0 := nx3.cell (i := 0) rfl
                have g1 := nx3.cell (i := 1) rfl
                have g2 := nx3.cell (i := 2) rfl
                clear hS2' hP2 hb32 hBp nx hb23
                go_wp2_with fail
                obtain ⟨W4, hW4⟩ : ∃ W4, w3.alloc (.cells #[.int .i64 xk, .int .i64 xv] 37) = W4 := ⟨_, rfl⟩
                have ba4 : Below w3.heap.size w3 W4 := by rw [← hW4]; exact (Below.refl _ w3).alloc (Nat.le_refl _) _
                have nx4 : Blk W4 w3.heap.size 37 [.int .i64 xk, .int .i64 xv] := by rw [← hW4]; exact Blk.new w3 [.int .i64 xk, .int .i64 xv] _
                rw [hW4]
                clear hW4
                have hS4 := hS3.below ba4
                have hP4 := RdX.below hP3 ba4
                have hb34 := hb33.belowS ba4
                have hB4 := hB3.trans (ba4.mono hB3.size)
                have nx5 := nx3.belowS ba4
                have c0 := nx4.cell (i := 0) rfl
                have c1 := nx4.cell (i := 1) rfl
                have f0 := nx5.cell (i := 0) rfl
                have hz4 := nx4.lt
                have hz5 : wr.heap.size < W4.heap.size := by omega
                clear hS3 hb33 g0 g1 g2 nx3
                have hPp : ∃ l, Blk W4 p 121 l := by obtain ⟨_, _, hM⟩ := hS4.length; obtain ⟨_, vv, hPb, _⟩ := hM; exact ⟨_, hPb⟩
                obtain ⟨lp, hPp⟩ := hPp
                refine (pop_hs_cons ltP ltP_ord W4 p p _ #[] (xk, xv) xs T (by omega) hS4 (before_bf _ _ _)).mono ?_; rintro e w5 ⟨rfl, hS5, hF5⟩
                have hk5 : ∀ (b : Nat) (cs : Array Value) (fr : Nat × Nat), W4.heap[b]? = some (Obj.cells cs 37 fr) → w5.heap[b]? = W4.heap[b]? := fun b cs fr hb => by
                  rw [hb]
                  refine hF5.c.keep b cs _ fr hb (fun e => ?_) (by decide)
                  subst e
                  unfold Blk at hPp
                  rw [hPp] at hb
                  simp at hb
                have hb35 := hF5.blk hb34 (by omega) (by decide)
                have nx6 := hF5.blk nx5 (by omega) (by decide)
                have nx7 := hF5.blk nx4 (by omega) (by decide)
                have hB5 := hB4.trans (hF5.below.mono (by omega))
                have hz6 := hF5.size
                clear hF5 hPp
                unfold ev
                have f6 := nx6.cell (i := 0) rfl
                have d0 := nx7.cell (i := 0) rfl
                have d1 := nx7.cell (i := 1) rfl
                have e0 := nx7.frozen 0
                have e1 := nx7.frozen 1
                have hz7 : wr.heap.size < w5.heap.size := by omega
                have hz8 : w3.heap.size < w5.heap.size := by omega
                clear c0 c1 f0 nx5 nx4 hS4 hP4 hb34 hB4
                go_wp2_with fail
                obtain ⟨W6, hW6⟩ : ∃ W6, (w5.setCell ⟨w3.heap.size, 0, none⟩ (.int .i64 xk)).setCell ⟨w3.heap.size, 1, none⟩ (.int .i64 xv) = W6 := ⟨_, rfl⟩
                have hz9 : w5.heap.size ≤ W6.heap.size := by rw [← hW6]; simp [World.setCell]
                have hk6 : ∀ b, b ≠ w3.heap.size → W6.heap[b]? = w5.heap[b]? := fun b hb => by rw [← hW6]; exact (Below.heap_setCell _ ⟨w3.heap.size, 1, none⟩ _ b hb).trans (Below.heap_setCell _ ⟨w3.heap.size, 0, none⟩ _ b hb)
                have hS6 := HS.setBlk (HS.setBlk hS5 nx7 (by decide) (by decide) 0 (.int .i64 xk)) (nx7.set 0 (.int .i64 xk)) (by decide) (by decide) 1 (.int .i64 xv)
                have nx8 : Blk W6 w3.heap.size 37 [.int .i64 xk, .int .i64 xv] := by rw [← hW6]; exact (nx7.set 0 (.int .i64 xk)).set 1 (.int .i64 xv)
                have nx9 : Blk W6 wr.heap.size 41 [.int .i64 4, .int .i64 ok, .int .i64 ov] := (hk6 _ (by omega)).trans nx6
                have hb36 : Blk W6 W.heap.size 3 [.int .i64 most] := (hk6 _ (by have := hB3.size; omega)).trans hb35
                have hB6 : Below W.heap.size W W6 := by rw [← hW6]; exact (hB5.setCell (p := ⟨w3.heap.size, 0, none⟩) hB3.size _).setCell (p := ⟨w3.heap.size, 1, none⟩) hB3.size _
                have hP6 := RdX.same hP3 (W' := W6) (fun b cs fr hb => by
                  have hb1 := (Array.getElem?_eq_some_iff.1 hb).1
                  exact (hk6 b (by omega)).trans ((hk5 b cs fr ((ba4.block b hb1).trans hb)).trans (ba4.block b hb1)))
                rw [hW6] at hS6 ⊢
                clear hW6 hk6 hk5 d0 d1 e0 e1 f6 nx7 nx6 hb35 hB5 hB3 hP3 hS5 ba4
                have f6 := nx9.cell (i := 0) rfl
                have d0 := nx8.cell (i := 0) rfl
                have d1 := nx8.cell (i := 1) rfl
                have hz10 : wr.heap.size < W6.heap.size := by omega
                have hz11 : w3.heap.size < W6.heap.size := by omega
                obtain ⟨hsb, s0, s1, hP7⟩ := RdX.first hP6
                have hz12 : (1 : Int) ≤ (xs.length : Int) + 1 := by omega
                go_region
                go_wp2_with fail
                · obtain rfl : xs = [] := List.eq_nil_of_length_eq_zero (by omega)
                  refine (len_hs ltP W6.drew p p _ #[] [] T hS6).mono ?_; rintro e w7 ⟨rfl, rfl⟩
                  go_wp2_with fail
                  go_roundw
                  case rel => exact ⟨j + 1, by omega, by simp, _, T, by omega, Nat.zero_le _, hS6, .inl ⟨_, _, rfl, rfl⟩, hb36, hB6.drew, hzp⟩
                  case measure => simp [intOf]; omega
                · refine (len_hs ltP W6.drew p p _ #[] xs T hS6).mono ?_; rintro e w7 ⟨rfl, rfl⟩
                  go_wp2_with fail
                  go_roundw
                  case rel => exact ⟨j + 1, by omega, by simp, _, T, by omega, by omega, hS6, hP7, hb36, hB6.drew, hzp⟩
                  case measure => simp [intOf]; omega
          · have n3 : (kd == 3) = false := beq_eq_false_iff_ne.2 (by omega)
            have n4 : (kd == 4) = false := beq_eq_false_iff_ne.2 (by omega)
            cases xs with
            | nil =>
              obtain ⟨sa, sc, rfl⟩ := RdX.slice hP
              go_wp2_with fail
              obtain ⟨W2, hW2⟩ : ∃ W2, wr.alloc (.cells #[.int .i64 kd, .int .i64 ok, .int .i64 ov] 41) = W2 := ⟨_, rfl⟩
              rw [hW2] at nx ba ⊢
              clear hW2
              have hzw := nx.lt
              have hpw := hS.lt'
              have hS2' := hS.below ba
              have hP2 := RdX.below hP ba
              have hb32 := hb3.belowS ba
              have hBp : Below W.heap.size W W2 := hB.trans (ba.mono hB.size)
              clear hS hP hb3 ba hB y0 y1 y2
              refine (top_hs ltP ltP_ord W2 p p _ #[] _ T hS2').mono ?_; rintro e w3 ⟨rfl, hb23⟩
              rw [show headV ([] : List (Int × Int)) = (0, 0) from rfl]
              unfold ev
              have hS3 := hS2'.below hb23
              have hP3 := RdX.below hP2 hb23
              have hb33 := hb32.belowS hb23
              have nx3 := nx.belowS hb23
              have hB3 := hBp.trans (hb23.mono hBp.size)
              have hz3 := hb23.size
              have hzw3 : wr.heap.size < w3.heap.size := by omega
              have g0 := nx3.cell (i := 0) rfl
              have g1 := nx3.cell (i := 1) rfl
              have g2 := nx3.cell (i := 2) rfl
              clear hS2' hP2 hb32 hBp nx hb23
              go_wp2_with fail
              obtain ⟨W4, hW4⟩ : ∃ W4, w3.alloc (.cells #[.int .i64 0, .int .i64 0] 37) = W4 := ⟨_, rfl⟩
              have ba4 : Below w3.heap.size w3 W4 := by rw [← hW4]; exact (Below.refl _ w3).alloc (Nat.le_refl _) _
              have nx4 : Blk W4 w3.heap.size 37 [.int .i64 0, .int .i64 0] := by rw [← hW4]; exact Blk.new w3 [.int .i64 0, .int .i64 0] _
              rw [hW4]
              clear hW4
              have hS4 := hS3.below ba4
              have hP4 := RdX.below hP3 ba4
              have hb34 := hb33.belowS ba4
              have hB4 := hB3.trans (ba4.mono hB3.size)
              have nx5 := nx3.belowS ba4
              have c0 := nx4.cell (i := 0) rfl
              have c1 := nx4.cell (i := 1) rfl
              have f0 := nx5.cell (i := 0) rfl
              have hz4 := nx4.lt
              have hz5 : wr.heap.size < W4.heap.size := by omega
              clear hS3 hP3 hb33 hB3 g0 g1 g2 nx3
              go_region
              go_wp2_with fail
              refine (len_hs ltP W4.drew p p _ #[] ([] : List (Int × Int)) T hS4).mono ?_; rintro e w5 ⟨rfl, rfl⟩
              go_wp2_with fail
              go_roundw
              case rel => exact ⟨j + 1, by omega, by simp, _, T, by omega, Nat.zero_le _, hS4, hP4, hb34, hB4.drew, hzp⟩
              case measure => simp [intOf]; omega
            | cons x xs =>
              obtain ⟨xk, xv⟩ := x
              obtain ⟨sb, so, sc, rfl, hsc⟩ := RdX.head hP
              have hsc2 : (xs.length : Int) + 1 ≤ (sc : Int) := by omega
              simp only [List.length_cons] at hx
              go_wp2_with fail
              obtain ⟨W2, hW2⟩ : ∃ W2, wr.alloc (.cells #[.int .i64 kd, .int .i64 ok, .int .i64 ov] 41) = W2 := ⟨_, rfl⟩
              rw [hW2] at nx ba ⊢
              clear hW2
              have hzw := nx.lt
              have hpw := hS.lt'
              have hS2' := hS.below ba
              have hP2 := RdX.below hP ba
              have hb32 := hb3.belowS ba
              have hBp : Below W.heap.size W W2 := hB.trans (ba.mono hB.size)
              clear hS hP hb3 ba hB y0 y1 y2
              refine (top_hs ltP ltP_ord W2 p p _ #[] _ T hS2').mono ?_; rintro e w3 ⟨rfl, hb23⟩
              rw [show headV ((xk, xv) :: xs) = (xk, xv) from rfl]
              unfold ev
              have hS3 := hS2'.below hb23
              have hP3 := RdX.below hP2 hb23
              have hb33 := hb32.belowS hb23
              have nx3 := nx.belowS hb23
              have hB3 := hBp.trans (hb23.mono hBp.size)
              have hz3 := hb23.size
              have hzw3 : wr.heap.size < w3.heap.size := by omega
              have g0 := nx3.cell (i := 0) rfl
              have g1 := nx3.cell (i := 1) rfl
              have g2 := nx3.cell (i := 2) rfl
              clear hS2' hP2 hb32 hBp nx hb23
              go_wp2_with fail
              obtain ⟨W4, hW4⟩ : ∃ W4, w3.alloc (.cells #[.int .i64 xk, .int .i64 xv] 37) = W4 := ⟨_, rfl⟩
              have ba4 : Below w3.heap.size w3 W4 := by rw [← hW4]; exact (Below.refl _ w3).alloc (Nat.le_refl _) _
              have nx4 : Blk W4 w3.heap.size 37 [.int .i64 xk, .int .i64 xv] := by rw [← hW4]; exact Blk.new w3 [.int .i64 xk, .int .i64 xv] _
              rw [hW4]
              clear hW4
              have hS4 := hS3.below ba4
              have hP4 := RdX.below hP3 ba4
              have hb34 := hb33.belowS ba4
              have hB4 := hB3.trans (ba4.mono hB3.size)
              have nx5 := nx3.belowS ba4
              have c0 := nx4.cell (i := 0) rfl
              have c1 := nx4.cell (i := 1) rfl
              have f0 := nx5.cell (i := 0) rfl
              have hz4 := nx4.lt
              have hz5 : wr.heap.size < W4.heap.size := by omega
              clear hS3 hP3 hb33 hB3 g0 g1 g2 nx3
              obtain ⟨hsb, s0, s1, -⟩ := RdX.first hP4
              go_region
              go_wp2_with fail
              refine (len_hs ltP W4.drew p p _ #[] ((xk, xv) :: xs) T hS4).mono ?_; rintro e w5 ⟨rfl, rfl⟩
              go_wp2_with fail
              go_roundw
              case rel => exact ⟨j + 1, by omega, by simp, _, T, by omega, by simp only [List.length_cons]; omega, hS4, hP4, hb34, hB4.drew, hzp⟩
              case measure => simp [intOf]; omega
      · obtain rfl : j = os.length := by omega
        obtain ⟨sa, sc, rfl⟩ := RdX.slice hP
        have c3 := hb3.cell (i := 0) rfl
        have e3 := hb3.frozen 0
        have hz3 := hb3.lt
        have j3 : (os.length : Int) ≤ 9223372036854775807 := by omega
        clear hc
        obtain ⟨M, hM⟩ : ∃ M : Int, wrap64 (1 + bits BinOp.and IntKind.i64 most 255) = M := ⟨_, rfl⟩
        have hM1 : 1 ≤ M ∧ M ≤ 256 := by rw [← hM, i64_and255]; unfold wrap64; omega
        go_wp2_with fail
        rw [hM]
        have hzs : (wr.setCell ⟨W.heap.size, 0, none⟩ (.int .i64 M)).heap.size = wr.heap.size := by simp [World.setCell]
        obtain ⟨wS, hwS⟩ : ∃ wS, wr.setCell ⟨W.heap.size, 0, none⟩ (.int .i64 M) = wS := ⟨_, rfl⟩
        have hSS := HS.setBlk hS hb3 (by decide) (by decide) 0 (.int .i64 M)
        have hPS : RdX (wr.setCell ⟨W.heap.size, 0, none⟩ (.int .i64 M)) (.slice sa xs.length sc) xs := RdX.same hP (fun b cs fr hb => Below.heap_setCell _ _ _ b (fun e => by
          have e' : b = W.heap.size := e
          subst e'
          unfold Blk at hb3
          rw [hb3] at hb
          simp at hb))
        have hbS := hb3.set 0 (.int .i64 M)
        have hBS : Below W.heap.size W (wr.setCell ⟨W.heap.size, 0, none⟩ (.int .i64 M)) := hB.setCell (p := ⟨W.heap.size, 0, none⟩) (Nat.le_refl _) _
        rw [hwS] at hzs hSS hPS hbS hBS ⊢
        obtain ⟨z, hz⟩ : ∃ z, wr.heap.size = z := ⟨_, rfl⟩
        rw [hz] at hzs hz3 ⊢
        clear hz
        have HZ := Lib.hid hzs
        clear hzs
        clear hwS hS hP hb3 hB c3 e3
        refine (drain_any _ _).mono ?_; rintro e w4 ⟨rfl, hw4⟩
        rw [World.size_alloc, World.size_alloc, show wS.heap.size = z from HZ.out]
        have HZ2 : wS.heap.size = z := HZ.out
        have b11 : Boxed w4 (z + 1) 39 (.slice (some ⟨z, 0, none⟩) 0 0) := by
          rw [hw4]; have := Boxed.new (wS.alloc (.cells #[] 37)) 39 (.slice (some ⟨z, 0, none⟩) 0 0); rw [World.size_alloc, HZ2] at this; exact this.alloc _
        have bBx : Boxed w4 (z + 1 + 1) 34 (.pointer (some ⟨p, 0, none⟩)) := by
          rw [hw4]; have := Boxed.new ((wS.alloc (.cells #[] 37)).alloc (.cells #[.slice (some ⟨z, 0, none⟩) 0 0] 39)) 34 (.pointer (some ⟨p, 0, none⟩)); rw [World.size_alloc, World.size_alloc, HZ2] at this; exact this
        have rO : w4.ownsRow z 37 2 (.slice (some ⟨z, 0, none⟩) 0 0) 0 [] := by
          rw [hw4]; have := ((World.ownsRow_lit (base := wS.heap.size) (e := 37) (size := 2) wS #[] 0 (Nat.le_refl _) (by decide) rfl).alloc (.cells #[.slice (some ⟨z, 0, none⟩) 0 0] 39)).alloc (.cells #[.pointer (some ⟨p, 0, none⟩)] 34); rw [HZ2] at this; exact this
        have hBw4 : Below wS.heap.size wS w4 := by rw [hw4]; exact (bel_alloc2 wS _ _).alloc (by simp; omega) _
        have hz4 : w4.heap.size = z + 3 := by rw [hw4]; simp [HZ2]
        have HZ4 := Lib.hid hz4
        clear HZ2 hz4
        clear hw4
        go_wp2_with fail
        have hz4 := HZ4.out
        have hSx : HS w4 p p ltP 31 #[] xs T := hSS.below (hBw4.mono (Nat.le_of_eq rfl))
        have hF4 : FrC p p 123 wS w4 := frc_below0 (FrC.refl _ _ _ _) hBw4 (by have := hSS.lt'; omega)
        have hwz : wS.heap.size = z := HZ.out
        have hpz : p < wS.heap.size := hSS.lt'.2
        have hxl : xs.length ≤ 200 := by omega
        have hSI0 : SJ ltP xs wS p p 31 #[] (z + 1 + 1) (z + 1) T xs xs w4 ∧ xs.length < xs.length + M.toNat := ⟨⟨⟨[], rfl, _, b11, by rw [hwz]; exact rO⟩, hSx, bBx, hF4⟩, by omega⟩
        have hsO : ∀ rem xs', OwnFrom w4.heap.size (fun (_ : Unit) W' => SJ ltP xs wS p p 31 #[] (z + 1 + 1) (z + 1) T rem xs' W') := fun rem xs' => SJ.ownF _ _ _ _ _ _ _ _ _ _ _ _ (by omega) (by omega)
        have hit := drain_iter ltP ltP_ord p p 31 (z + 1 + 1) #[] 3 (fun m xs' W' => m = xs'.length ∧ xs.length < xs'.length + M.toNat ∧ SJ ltP xs wS p p 31 #[] (z + 1 + 1) (z + 1) T xs' xs' W')
          (fun g W' => g.1 = g.2.2.length + 1 ∧ xs.length < g.2.2.length + 1 + M.toNat ∧ SJ ltP xs wS p p 31 #[] (z + 1 + 1) (z + 1) T (g.2.1 :: g.2.2) g.2.2 W')
          (fun W' => Out W' wS.heap.size (z + 1) xs ∧ xs.length < M.toNat ∧ HS W' p p ltP 31 #[] [] T ∧ FrC p p 123 wS W')
          (fun m xs' W' h => ⟨⟨_, h.2.2.2.1⟩, before_bf _ _ _, by
            obtain ⟨pre, e, _⟩ := h.2.2.1
            have := congrArg List.length e
            rw [List.length_append] at this
            omega, h.2.2.2.2.1⟩)
          (fun m x xs' W' W'' h hf hs => ⟨by rw [h.1]; rfl, by have := h.2.1; simp only [List.length_cons] at this; exact this, by
            obtain ⟨_, _, ⟨pre, e, hO⟩, hS, hb, hB⟩ := h
            obtain ⟨es0, _, ⟨_, vv, hPb, _⟩⟩ := hS.length
            refine ⟨⟨pre, e, hO.fr hf hPb (by decide) (by decide) (by decide) (by decide)⟩, hs _ hS, hf.boxed hb (fun e => ?_) (by decide), hB.trans hf.c⟩
            subst e
            unfold Boxed at hb
            unfold Blk at hPb
            rw [hb] at hPb
            simp at hPb⟩)
          (fun m W' W'' h hb => by
            obtain ⟨_, hM, ⟨pre, e, hO⟩, hS, hbx, hB⟩ := h
            rw [List.append_nil] at e
            subst e
            exact ⟨hO.below hb, by simpa using hM, hS.below hb, frc_below0 hB (hb.mono hB.below.size) (by omega)⟩)
        refine wpIn_wide.1 (range_gen (F := Fence.wide) (n := 4) rfl (by omega) (gf := 96) (lb := #[.pointer (some ⟨z + 1 + 1, 0, none⟩)]) rfl trivial (enters_of Try.func96 (by kernel_rfl) rfl) (encs := fun g : Gh => #[ev g.2.1]) (fun _ => rfl)
          (fun W' => ∃ m xs', m = xs'.length ∧ xs.length < xs'.length + M.toNat ∧ SJ ltP xs wS p p 31 #[] (z + 1 + 1) (z + 1) T xs' xs' W')
          (fun g W' => g.1 = g.2.2.length + 1 ∧ xs.length < g.2.2.length + 1 + M.toNat ∧ SJ ltP xs wS p p 31 #[] (z + 1 + 1) (z + 1) T (g.2.1 :: g.2.2) g.2.2 W')
          (fun g W' => ∃ m' xs', m' < g.1 ∧ m' = xs'.length ∧ xs.length < xs'.length + M.toNat ∧ SJ ltP xs wS p p 31 #[] (z + 1 + 1) (z + 1) T xs' xs' W')
          (fun c W' => c = .exit 3 ∧ M.toNat ≤ xs.length ∧ Out W' wS.heap.size (z + 1) (xs.take M.toNat) ∧ HS W' p p ltP 31 #[] (xs.drop M.toNat) T ∧ FrC p p 123 wS W')
          (fun W' => Out W' wS.heap.size (z + 1) xs ∧ xs.length < M.toNat ∧ HS W' p p ltP 31 #[] [] T ∧ FrC p p 123 wS W')
          (fun g a' W' => (∃ Bx, Blk W' Bx 37 (cv g.2.1) ∧ a' = { tmps := #[Value.slice a os.length cap, Value.int IntKind.i64 most, undef, Value.pointer (some ⟨W.heap.size, 0, none⟩), u4, Value.pointer (some ⟨p, 0, none⟩), Value.slice sa xs.length sc, undef, u8, u9, u10, Value.pointer (some ⟨z + 1, 0, none⟩), .pointer (some ⟨Bx, 0, none⟩), undef, Value.bool true, Value.bool false, Value.slice a os.length cap, Value.int IntKind.i64 (os.length : Int), Value.bool (decide ((200 : Int) < (os.length : Int))), Value.pointer (some ⟨p, 0, none⟩), Value.slice (some ⟨w2.heap.size, 0, none⟩) 0 0, Value.slice a os.length cap, Value.int IntKind.i64 (os.length : Int), Value.int IntKind.i64 (os.length : Int), Value.bool false, u25, u26, u27, u28, u29, u30, u31, u32, u33, u34, u35, u36, u37, u38, u39, u40, u41, u42, u43, u44, u45, u46, u47, u48, u49, u50, u51, u52, u53, u54, u55, u56, u57, u58, u59, u60, u61, u62, u63, u64, u65, u66, u67, u68, u69, u70, u71, u72, u73, u74, u75, u76, u77, u78, u79, u80, u81, u82, u83, u84, u85, u86, u87, u88, u89, u90, u91, u92, u93, u94, u95, u96, u97, u98, u99, u100, u101, u102, u103, u104, u105, u106, u107, Value.int IntKind.i64 most, Value.int IntKind.i64 (bits BinOp.and IntKind.i64 most 255), Value.int IntKind.i64 M, Value.slice (some ⟨z, 0, none⟩) 0 0, Value.pointer (some ⟨p, 0, none⟩), Value.func (.func 96) #[] #[.pointer (some ⟨z + 1 + 1, 0, none⟩)], ev g.2.1, undef, undef, undef, undef, undef, undef, undef, undef, undef, undef, undef, undef, undef, undef, undef, undef, undef, undef, undef, undef, undef, undef, undef, undef, undef, undef], defers := [] }) ∧ g.1 = g.2.2.length + 1 ∧ xs.length < g.2.2.length + 1 + M.toNat ∧ SJ ltP xs wS p p 31 #[] (z + 1 + 1) (z + 1) T (g.2.1 :: g.2.2) g.2.2 W')
          (fun s A A' row hs hg hr => by obtain ⟨m, xs', e, e1, h⟩ := hs; exact ⟨m, xs', e, e1, hsO _ _ () A A' row h hg hr⟩)
          (fun g s A A' row hs hg hr => by obtain ⟨m, xs', e, e2, e1, h⟩ := hs; exact ⟨m, xs', e, e2, e1, hsO _ _ () A A' row h hg hr⟩)
          (fun c => OwnFrom.and (fun _ _ _ _ hs _ _ => hs) (OwnFrom.and (fun _ _ _ _ hs _ _ => hs) (OwnFrom.and (Own.from (Out.ownF _ _ (fun _ => _)) _) (OwnFrom.and (Own.from (HS.own p p ltP 31 #[] (fun _ => _) (fun _ => T)) _) (frc_own (by omega) (by omega))))))
          (OwnFrom.and (Own.from (Out.ownF _ _ (fun _ => xs)) _) (OwnFrom.and (fun _ _ _ _ hs _ _ => hs) (OwnFrom.and (Own.from (HS.own p p ltP 31 #[] (fun _ => []) (fun _ => T)) _) (frc_own (by omega) (by omega)))))
          (fun g a' => OwnFrom.and (fun s A B row hs hg hr => by obtain ⟨Bx, h1, h2⟩ := hs; exact ⟨Bx, Own.from (blk_own Bx 37 (fun _ : Unit => _)) _ () A B row h1 hg hr, h2⟩) (OwnFrom.and (fun _ _ _ _ hs _ _ => hs) (OwnFrom.and (fun _ _ _ _ hs _ _ => hs) (hsO _ _))))
          ⟨_, xs, rfl, hSI0.2, hSI0.1⟩ hit ?assign ?body ?done ?stop)
        case assign =>
          rintro l ⟨m, x, xs'⟩ W' K ⟨hm, hmm, hSI⟩ hK
          obtain ⟨⟨k, v⟩, rfl⟩ : ∃ y, y = x := ⟨_, rfl⟩
          dsimp only [ev] at hK hm hmm hSI ⊢
          have nx := Blk.new W' [.int .i64 k, .int .i64 v] 37
          gi_wp2
          exact hK _ _ ((KeepsOthers.alloc _ _).from _) ⟨⟨W'.heap.size, nx, rfl⟩, hm, hmm, hSI.1.elim (fun pre h => ⟨⟨pre, h.1, h.2.below ((Below.refl _ W').alloc (Nat.le_refl _) _)⟩, hSI.2.1.below ((Below.refl _ W').alloc (Nat.le_refl _) _), hSI.2.2.1.alloc _, frc_below0 hSI.2.2.2 (((Below.refl _ W').alloc (Nat.le_refl _) _).mono hSI.2.2.2.below.size) (by omega)⟩)⟩
        case body =>
          obtain ⟨i0, hi0, hiz0, hiz1, hiz2⟩ := info_parts infoX
          rintro l ⟨m, x, xs'⟩ a' W' hl hr ⟨ha, hm, hmm, hSI⟩
          obtain ⟨⟨k, v⟩, rfl⟩ : ∃ y, y = x := ⟨_, rfl⟩
          dsimp only [ev] at ha hm hmm hSI ⊢
          obtain ⟨⟨pre, epre, v0, hv, hrow⟩, hS, hb, hB⟩ := hSI
          have hlen := congrArg List.length epre
          rw [List.length_append, List.length_cons] at hlen
          have hc := hv.cell
          have EP := Lib.hid epre; clear epre
          obtain ⟨Bx, nx, rfl⟩ := ha
          have nx' : Blk W' Bx 37 [.int .i64 k, .int .i64 v] := nx
          have c00 := nx'.cell (i := 0) rfl
          have c01 := nx'.cell (i := 1) rfl
          have bM : Blk W' W.heap.size 3 [.int .i64 M] := hB.blk hbS (by omega) (by decide)
          have cM := bM.cell (i := 0) rfl
          have hzl : W.heap.size < wS.heap.size := by omega
          have hps : p ≤ wS.heap.size := by omega
          have hzb : wS.heap.size ≤ z + 1 := by omega
          have hne : W.heap.size ≠ z + 1 := by omega
          clear nx nx' hz4 hwz hit hsO hSI0
          by_cases hE : (pre.length : Int) + 1 = M
          · have hE' : ((pre.length : Int) + 1 == M) = true := by rw [hE]; exact beq_self_eq_true M
            gi_wp2_with (gi_at_builtin; refine wpListIn_append_own _ rfl _ _ 39 rfl wS.heap.size 37 i0 _ 2 16 Try.underlying39 hi0 hiz0 hiz1 hiz2 rfl (by decide) _ _ _ rfl (hrow.alloc _) ⟨W'.heap.size, 0, none⟩ 1 1 [.int .i64 k, .int .i64 v] rfl rfl (news_blk (Blk.new W' [.int .i64 k, .int .i64 v] 37)) (by simp [Value.oneCell']) (by unfold maxLen; omega) (by omega) (by have := hB.below.size; simp; omega) ?_; intro v' w3 hown' hgrow _; obtain ⟨g', cap', rfl⟩ := ownsRow_succ hown'; obtain ⟨hv1, hv2, hr2, hk2, hb2⟩ := hv.appended (by decide) hrow hB.below.size hzb hown' hgrow; have hc1 := hv1.cell; have hf1 := hv1.frozen; have cM3 := (cell_app (b := W.heap.size) 0 bM.lt hrow hzl rfl (by first | exact hgrow | exact undrew hgrow)).trans cM)
            have epx : xs = pre ++ ((k, v) :: xs') := EP.out.symm
            have htk : xs.take M.toNat = pre ++ [(k, v)] := by
              rw [epx, show M.toNat = (pre ++ [(k, v)]).length from by simp; omega, show pre ++ (k, v) :: xs' = (pre ++ [(k, v)]) ++ xs' from by simp, List.take_left]
            have hdk : xs.drop M.toNat = xs' := by
              rw [epx, show M.toNat = (pre ++ [(k, v)]).length from by simp; omega, show pre ++ (k, v) :: xs' = (pre ++ [(k, v)]) ++ xs' from by simp, List.drop_left]
            rw [htk, hdk]
            refine ⟨hk2.from _, rfl, by omega, ⟨_, hv2, ?_⟩, ?_, frc_below0 hB hb2 (by omega)⟩
            · rw [List.length_append, cellsOf_append, cellsOf_one]
              exact hr2
            · exact HS.setOther (HS.keptT (hS.below ((Below.refl _ W').alloc (Nat.le_refl _) (.cells #[.int .i64 k, .int .i64 v] 37))) hgrow (fun r hr => (own_typ (hrow.alloc (.cells #[.int .i64 k, .int .i64 v] 37)) r hr).2)) hv1 (by decide) (by decide) _
          · have hE' : ((pre.length : Int) + 1 == M) = false := beq_eq_false_iff_ne.2 hE
            gi_wp2_with (gi_at_builtin; refine wpListIn_append_own _ rfl _ _ 39 rfl wS.heap.size 37 i0 _ 2 16 Try.underlying39 hi0 hiz0 hiz1 hiz2 rfl (by decide) _ _ _ rfl (hrow.alloc _) ⟨W'.heap.size, 0, none⟩ 1 1 [.int .i64 k, .int .i64 v] rfl rfl (news_blk (Blk.new W' [.int .i64 k, .int .i64 v] 37)) (by simp [Value.oneCell']) (by unfold maxLen; omega) (by omega) (by have := hB.below.size; simp; omega) ?_; intro v' w3 hown' hgrow _; obtain ⟨g', cap', rfl⟩ := ownsRow_succ hown'; obtain ⟨hv1, hv2, hr2, hk2, hb2⟩ := hv.appended (by decide) hrow hB.below.size hzb hown' hgrow; have hc1 := hv1.cell; have hf1 := hv1.frozen; have cM3 := (cell_app (b := W.heap.size) 0 bM.lt hrow hzl rfl (by first | exact hgrow | exact undrew hgrow)).trans cM)
            refine ⟨hk2.from _, xs'.length, xs', by omega, rfl, by omega, ⟨pre ++ [(k, v)], by rw [List.append_assoc]; exact EP.out, _, hv2, ?_⟩, ?_, ?_, frc_below0 hB hb2 (by omega)⟩
            · rw [List.length_append, cellsOf_append, cellsOf_one]
              exact hr2
            · exact HS.setOther (HS.keptT (hS.below ((Below.refl _ W').alloc (Nat.le_refl _) (.cells #[.int .i64 k, .int .i64 v] 37))) hgrow (fun r hr => (own_typ (hrow.alloc (.cells #[.int .i64 k, .int .i64 v] 37)) r hr).2)) hv1 (by decide) (by decide) _
            · exact ((hb.alloc _).kept hgrow (hb.not_row (by decide) hrow)).other (fun e => by have e' : z + 1 + 1 = z + 1 := e; omega) _
        case done =>
          rintro D W' hD ⟨⟨v, hv, hrow⟩, hlt, hS, hB⟩ hK
          have hc := hv.cell
          have bM : Blk W' W.heap.size 3 [.int .i64 M] := hB.blk hbS (by omega) (by decide)
          have cM := bM.cell (i := 0) rfl
          have hPp : ∃ l, Blk wS p 121 l := by obtain ⟨_, _, hM⟩ := hSS.length; obtain ⟨_, vv, hPb, _⟩ := hM; exact ⟨_, hPb⟩
          obtain ⟨lp, hPp⟩ := hPp
          have hP' := RdX.fr hPS hB hPp (by decide)
          have hRg := Rd.of_own cv_length (0, 0) hrow
          have hml : (xs.length : Int) < M := by omega
          have hz4b : W.heap.size ≤ w4.heap.size := by omega
          have hBf : Below W.heap.size W W' := hBS.trans (hB.below.mono (by omega))
          have hcp := RdX.cap hP'
          have hcp2 : (xs.length : Int) ≤ (sc : Int) := by omega
          clear hz4 hwz hit hsO hSI0
          have hRq : ∀ n, Rd cv 2 (W'.drewN n).heap.size (W'.drewN n) v xs := fun n => hRg
          have hPq : ∀ n, Rd cv 2 (W'.drewN n).heap.size (W'.drewN n) (.slice sa xs.length sc) xs := fun n => RdX.rd hP'
          have hSq : ∀ n, Calls Try.prog 36 #[.pointer (some ⟨p, 0, none⟩)] (W'.drewN n) fun e w' => e = .returned (.int .i64 (([] : List (Int × Int)).length : Int)) ∧ w' = W'.drewN n := fun n => (len_hs ltP (W'.drewN n) p p 31 #[] [] T hS).mono (fun e w h => ⟨h.1, h.2.symm⟩)
          have hxq : xs.length < 1099511627776 := by omega
          have HRQ := Lib.hid hRq; have HPQ := Lib.hid hPq; have HSQ := Lib.hid hSq
          clear hRq hPq hSq
          go_wp2_with fail
          go_quiet (first | (go_at_call 38; exact Calls.quiet_of (same_q _ _ _ xs hxq (HRQ.out _) (HPQ.out _))) | (go_at_call 36; exact Calls.quiet_of_same (HSQ.out _)))
          go_wp2_with fail
          refine ⟨by simp, .inl ⟨_, _, rfl, run_takeDeferred (by exact hK), ?_⟩⟩
          refine ⟨_, results_tmp rfl _ _ _, rfl, ?_⟩
          exact Below.trans (show Below W.heap.size W (W'.drewN _) from ⟨hBf.os, hBf.tape, hBf.output, hBf.size, hBf.block⟩) (belowK_b (w := w4) hz4b (W'.drewN _) D _ _ hD hK rfl rfl)
        case stop =>
          rintro D c W' hD ⟨rfl, hml, ⟨v, hv, hrow⟩, hS, hB⟩ hK
          obtain ⟨mn, hmn⟩ : ∃ mn : Nat, M = (mn : Int) := ⟨M.toNat, by omega⟩
          subst hmn
          rw [Int.toNat_natCast] at hml hrow hS
          have hc := hv.cell
          have bM : Blk W' W.heap.size 3 [.int .i64 (mn : Int)] := hB.blk hbS (by omega) (by decide)
          have cM := bM.cell (i := 0) rfl
          have hPp : ∃ l, Blk wS p 121 l := by obtain ⟨_, _, hM⟩ := hSS.length; obtain ⟨_, vv, hPb, _⟩ := hM; exact ⟨_, hPb⟩
          obtain ⟨lp, hPp⟩ := hPp
          have hP' := RdX.fr hPS hB hPp (by decide)
          have hRg := Rd.of_own cv_length (0, 0) hrow
          have hml2 : (mn : Int) ≤ (xs.length : Int) := by omega
          have hcp := RdX.cap hP'
          have hcp2 : (mn : Int) ≤ (sc : Int) := by omega
          have hcp3 : mn ≤ sc := by omega
          have hz4b : W.heap.size ≤ w4.heap.size := by omega
          have hBf : Below W.heap.size W W' := hBS.trans (hB.below.mono (by omega))
          have hRq : ∀ n, Rd cv 2 (W'.drewN n).heap.size (W'.drewN n) v (xs.take mn) := fun n => hRg
          have hPq : ∀ n, Rd cv 2 (W'.drewN n).heap.size (W'.drewN n) (.slice sa mn sc) (xs.take mn) := fun n => Rd.take (RdX.rd hP') hml
          have hSq : ∀ n, Calls Try.prog 36 #[.pointer (some ⟨p, 0, none⟩)] (W'.drewN n) fun e w' => e = .returned (.int .i64 ((xs.length : Int) - (mn : Int))) ∧ w' = W'.drewN n := fun n => (len_hs ltP (W'.drewN n) p p 31 #[] (xs.drop mn) T hS).mono (fun e w h => ⟨by rw [h.1, List.length_drop, Int.ofNat_sub hml], h.2.symm⟩)
          have hxq : (xs.take mn).length < 1099511627776 := by rw [List.length_take]; omega
          have HRQ := Lib.hid hRq; have HPQ := Lib.hid hPq; have HSQ := Lib.hid hSq
          clear hRq hPq hSq hz4 hwz hit hsO hSI0
          refine wpIn_wide.2 ?_
          go_wp2_with fail
          go_quiet (first | (go_at_call 38; exact Calls.quiet_of (same_q _ _ _ (xs.take mn) hxq (HRQ.out _) (HPQ.out _))) | (go_at_call 36; exact Calls.quiet_of_same (HSQ.out _)))
          go_wp2_with fail
          refine ⟨by simp, .inl ⟨_, _, rfl, run_takeDeferred (by exact hK), ?_⟩⟩
          refine ⟨_, results_tmp rfl _ _ _, rfl, ?_⟩
          exact Below.trans (show Below W.heap.size W (W'.drewN _) from ⟨hBf.os, hBf.tape, hBf.output, hBf.size, hBf.block⟩) (belowK_b (w := w4) hz4b (W'.drewN _) D _ _ hD hK rfl rfl)
  · have hl' : (200 : Int) < (os.length : Int) := by omega
    go_wp2_with fail
    refine ⟨_, results_tmp rfl _ _ _, rfl, hB1'⟩

end Go.Proofs.Ytbhpokcnkdgcmaa.HeapP
