/- TableTexts. -/
import Derived.Test.YtgoomogpcfpekaaTabAl
import Derived.Test.YtgoomogpcfpekaaTabT9
import Derived.Test.YtgoomogpcfpekaaTabTp
import Derived.Test.YtgoomogpcfpekaaKd
import Derived.Deep.RegionHeld3
set_option linter.unusedSimpArgs false
set_option linter.unusedVariables false
namespace Go.Proofs.Ytgoomogpcfpekaa.TabT
open Go.RowKit Go.Proofs.Ytgoomogpcfpekaa.TabL
attribute [local go_sem] Oper.semAt_some

def cS (x : ByteArray) : List Value := [.string x]
theorem own_tm (p : Nat) (xs : List Pr) : Own (fun (_ : Unit) W => TMx W p xs) := fun s A B row hs hg hr => by
  have hk : ∀ t, KT t A B := fun t => KT.grown hg (fun r e => by
    obtain ⟨o, ho, hc⟩ := hr r e
    refine ⟨o, ho, fun cs fr e2 => ?_⟩
    subst e2
    simp [Obj.isCells] at hc)
  exact hs.kept (hk _) (hk _)
theorem cell_own {b : Nat} (a : Addr) (v : Value) : OwnFrom b (fun (_ : Unit) W => W.cell? a = some v) := fun s A B row h3' hg hr => by
  have h3 : A.cell? a = some v := h3'
  show B.cell? a = some v
  rw [← h3]
  refine World.cell?_of_block (hg.block _ (World.block_lt_of_cell? _ _ h3) (fun e => ?_))
  obtain ⟨_, o, ho, hno⟩ := hr _ e.symm
  unfold World.cell? at h3
  rw [ho] at h3
  cases o <;> simp [Obj.isCells] at hno h3
theorem kt_own {b : Nat} {t : TypeId} (w0 : World) : OwnFrom b (fun (_ : Unit) W => KT t w0 W) := fun s A B row h hg hr =>
  h.trans (KT.grown hg (fun r e => by
    obtain ⟨_, o, ho, hno⟩ := hr r e
    refine ⟨o, ho, fun cs fr e2 => ?_⟩
    subst e2
    simp [Obj.isCells] at hno))
theorem rd_at {W : World} {n₀ : Nat} {sv : Value} {ks : List ByteArray} {j : Nat} {o : ByteArray} (hR : Rd cS 1 n₀ W sv ks) (hj : ks[j]? = some o) : ∃ b off c, sv = .slice (some ⟨b, off, none⟩) ks.length c ∧ b < n₀ ∧ W.cell? ⟨b, off + j, none⟩ = some (.string o) := by
  rcases hR with ⟨a, cap, rfl, rfl⟩ | ⟨b, off, cap, rfl, hlt, hc⟩
  · simp at hj
  · have := hc j _ hj 0 _ rfl
    rw [Nat.mul_one, Nat.add_zero] at this
    exact ⟨b, off, cap, rfl, hlt, this⟩
theorem rd_of_cs {w : World} {A : Option Addr} {c : Nat} {xs : List ByteArray} (h : Go.Proofs.YtgoomogpcfpekaaW.PrintWords.Kd.string.C w A xs.length xs) : Rd cS 1 w.heap.size w (.slice A xs.length c) xs := by
  by_cases hn : 0 < xs.length
  · obtain ⟨b, off, hA, hlt⟩ := C_spot h hn Nat.one_pos
    refine .inr ⟨b, off, c, by rw [hA], hlt, fun j x hx i v hv => ?_⟩
    obtain ⟨ad, hA', hc⟩ := h.2.2 hn
    rw [hA] at hA'
    obtain rfl := Option.some.inj hA'
    obtain ⟨cs, hl, hk, hcell⟩ := hc j x hx
    have hk' : cs = [.string x] := hk
    subst hk'
    have := hcell i v hv
    rw [addr_add] at this
    rw [show off + j * 1 + i = off + (j * (Go.Proofs.YtgoomogpcfpekaaW.PrintWords.Kd.string).sz + i) from by show off + j * 1 + i = off + (j * 1 + i); omega]
    exact this
  · have : xs = [] := List.eq_nil_of_length_eq_zero (by omega)
    subst this
    exact .inl ⟨A, c, rfl, rfl⟩
/-- the text that came last, behind k of them -/
def lastS (xs : List Pr) (k : Nat) : ByteArray := if k = 0 then ByteArray.empty else (xs.getD (k - 1) d0).1
/-- the memory between two rounds of the range -/
structure MX (W wX : World) (p g6 g7 : Nat) (sl : Value) (xs : List Pr) (k : Nat) (W' : World) : Prop where
  kt : KT 94 wX W'
  b1 : Blk W' W.heap.size 52 [sl]
  b2 : ∃ v, Blk W' (W.heap.size + 1) 4 [v]
  b6 : Blk W' g6 9 [.string (lastS xs k)]
  b7 : Blk W' g7 3 [.int .i64 (k : Int)]
  t : TMx W' p xs
  b : Below W.heap.size W W'
theorem MX.own (W wX : World) (p g6 g7 : Nat) (sl : Value) (xs : List Pr) (k : Nat) {b : Nat} (hb : W.heap.size ≤ b) : OwnFrom b (fun (_ : Unit) W' => MX W wX p g6 g7 sl xs k W') := fun s A B row h hg hr => by
  have q : ∀ {c : Nat} {t : TypeId} {l : List Value}, Blk A c t l → Blk B c t l := fun hc => Own.from (blk_own _ _ (fun _ : Unit => _)) b () A B row hc hg hr
  exact ⟨kt_own wX () A B row h.kt hg hr, q h.b1, (by obtain ⟨v, hv⟩ := h.b2; exact ⟨v, q hv⟩), q h.b6, q h.b7, Own.from (own_tm _ _) b () A B row h.t hg hr, ownFrom_below (Nat.le_refl _) hb () A B row h.b hg hr⟩
theorem MX.drewN {W wX : World} {p g6 g7 : Nat} {sl : Value} {xs : List Pr} {k : Nat} {A : World} (h : MX W wX p g6 g7 sl xs k A) (n : Nat) : MX W wX p g6 g7 sl xs k (A.drewN n) :=
  have hb : Below A.heap.size A (A.drewN n) := ⟨rfl, rfl, rfl, Nat.le_refl _, fun _ _ => rfl⟩
  ⟨h.kt.trans (kt_drewN A n), h.b1, h.b2, h.b6, h.b7, h.t.below hb, h.b.trans (hb.mono h.b.size)⟩
theorem MX.step {W wX : World} {p g6 g7 : Nat} {sl : Value} {xs : List Pr} {k : Nat} {A : World} (h : MX W wX p g6 g7 sl xs k A) (x : ByteArray) (y : Int) (hx : xs.getD k d0 = (x, y)) (hp : W.heap.size + 1 < p) (h6 : p < g6) (h7 : g7 = g6 + 1) :
    MX W wX p g6 g7 sl xs (k + 1) ((A.setCell ⟨g6, 0, none⟩ (.string x)).setCell ⟨g7, 0, none⟩ (.int .i64 ((k : Int) + 1))) := by
  subst h7
  have hg1 := grownBy_setAt A g6 0 (.string x)
  have b7' : Blk (A.setCell ⟨g6, 0, none⟩ (.string x)) (g6 + 1) 3 [.int .i64 (k : Int)] := h.b7.other (by simp) _
  have hg2 := grownBy_setAt (A.setCell ⟨g6, 0, none⟩ (.string x)) (g6 + 1) 0 (.int .i64 ((k : Int) + 1))
  have hl : lastS xs (k + 1) = x := by unfold lastS; rw [if_neg (by omega), Nat.add_sub_cancel, hx]
  refine ⟨(h.kt.trans (KT.setOther h.b6 (by decide))).trans (KT.setOther b7' (by decide)), (h.b1.other (by simp; omega) _).other (by simp; omega) _, ?_, ?_, ?_, (h.t.other hg1 h.b6 (by omega) (by decide)).other hg2 b7' (by omega) (by decide), ?_⟩
  · obtain ⟨v, hv⟩ := h.b2
    exact ⟨v, (hv.other (by simp; omega) _).other (by simp; omega) _⟩
  · rw [hl]
    exact (h.b6.set 0 (.string x)).other (by simp) _
  · exact b7'.set 0 _
  · exact (h.b.setCell (p := ⟨g6, 0, none⟩) (by simp; omega) _).setCell (p := ⟨g6 + 1, 0, none⟩) (by simp; omega) _

set_option maxRecDepth 100000 in
set_option maxHeartbeats 8000000 in
theorem texts_walk (W : World) (ks : List ByteArray) (A : Option Addr) (c : Nat) (hcap : ks.length ≤ c) (_ : A = none → c = 0) (hC : Go.Proofs.YtgoomogpcfpekaaW.PrintWords.Kd.string.C W A ks.length ks) (hL : ks.length ≤ maxLen) (hwf : ∀ z ∈ ks, z.size ≤ maxLen) :
    Calls Try.prog 6 #[.slice A ks.length c] W fun e w' => e = .returned (.bool true) ∧ Below W.heap.size W w' := by
  have hR := rd_of_cs (c := c) hC
  clear hC
  unfold maxLen at hL hwf
  have HR := Lib.hid hR
  clear hR
  refine (callsIn_wide (n := 4)).1 ?_
  refine callsIn_of_wp_marks Try.func6 rfl trivial ?_ rfl
  refine wpIn_wide.2 ?_
  simp only [Try.ntmps6, List.size_toArray, List.length_cons, List.length_nil, Nat.reduceAdd, Nat.reduceSub, Array.replicate_succ, Array.replicate_zero, List.push_toArray, List.append_toArray, List.nil_append, List.cons_append]
  have b1 := (Blk.new W [.slice A ks.length c] 52).alloc (.cells #[.bool false] 4)
  have b2 := Blk.new2 W (.cells #[.slice A ks.length c] 52) [.bool false] 4
  have hBa := TabN.bel_alloc2 W (.cells #[.slice A ks.length c] 52) (.cells #[.bool false] 4)
  go_wp2_with fail
  refine (TabN.alive_any _).mono ?_; rintro e w1 ⟨rfl, hb1⟩
  have hz1 := hb1.size
  rw [World.size_alloc, World.size_alloc] at hz1
  have b11 := b1.belowS hb1
  have b21 := b2.belowS hb1
  have hB1 : Below W.heap.size W w1 := hBa.trans (hb1.mono (by rw [World.size_alloc, World.size_alloc]; omega))
  clear b1 b2 hBa hb1
  have c11 := b11.cell (i := 0) rfl
  have e21 := b21.frozen 0
  have c21 := b21.cell (i := 0) rfl
  by_cases hl : ks.length ≤ 60
  · have hal : Below w1.heap.size w1 (w1.alloc (.cells #[.pointer none] 55)) := (Below.refl _ w1).alloc (Nat.le_refl _) _
    have hT0 : TMx (w1.alloc (.cells #[.pointer none] 55)) w1.heap.size [] := ⟨none, .leaf, Blk.new w1 [.pointer none] _, rfl, rfl⟩
    have b12 := b11.belowS hal
    have b22 := b21.belowS hal
    have hB2 := hB1.trans (hal.mono hB1.size)
    have c12 := b12.cell (i := 0) rfl
    obtain ⟨w2, hw2⟩ : ∃ w2, w1.alloc (.cells #[.pointer none] 55) = w2 := ⟨_, rfl⟩
    rw [hw2] at hT0 b12 b22 hB2
    have HW2 := Lib.hid hw2
    clear hal hw2
    have hz2 : W.heap.size + 1 + 1 ≤ w1.heap.size := hz1
    go_wp2_with fail
    rw [HW2.out]
    obtain ⟨p, hp⟩ : ∃ p, w1.heap.size = p := ⟨_, rfl⟩
    rw [hp] at hT0 hz2 ⊢
    clear HW2 hp c12 hz1 b11 b21 c11 e21 c21 hB1
    have HT0 := Lib.hid hT0; have HB2 := Lib.hid hB2; have HB12 := Lib.hid b12; have HB22 := Lib.hid b22
    clear hT0 hB2 b12 b22
    go_loopw [23] (fun i wr => ∃ k : Nat, i = .int .i64 k ∧ k ≤ ks.length ∧ TMx wr p (textsN ks k) ∧ Blk wr W.heap.size 52 [.slice A ks.length c] ∧ Blk wr (W.heap.size + 1) 4 [.bool false] ∧ Below W.heap.size W wr)
      (fun i _ => ks.length - (match i with | .int _ n => n.toNat | _ => 0))
    case atStart => exact ⟨0, rfl, Nat.zero_le _, HT0.out, HB12.out, HB22.out, HB2.out⟩
    case round =>
      clear HT0 HB2 HB12 HB22
      obtain ⟨k, rfl, hk, hT, b1, b2, hB⟩ := hrel
      by_cases hlt : k < ks.length
      · obtain ⟨x, hget⟩ : ∃ o, ks[k]? = some o := ⟨_, List.getElem?_eq_getElem hlt⟩
        obtain ⟨b, off, c1, e1, hlb, q0⟩ := rd_at (HR.out.below hB) hget
        obtain ⟨rfl, rfl⟩ : A = some ⟨b, off, none⟩ ∧ c = c1 := by injection e1 with e1 e2 e3; exact ⟨e1, e3⟩
        have hgd : ks.getD k ByteArray.empty = x := by rw [List.getD_eq_getElem?_getD, hget]; rfl
        have hsx := hwf x (List.mem_of_getElem? hget)
        by_cases h40 : x.size ≤ 40
        · have hP := TabT.putM_any wr p (textsN ks k) x (k : Int) hT (textsN_sd ks k) (by have := textsN_len ks k; omega)
          rw [← hgd, ← textsN_succ, hgd] at hP
          have HP := Lib.hid hP; have HT := Lib.hid hT; have HB := Lib.hid hB; have H1 := Lib.hid b1; have H2 := Lib.hid b2
          clear hP hT hB b1 b2 e1 hgd hget
          go_wp2_with fail
          refine HP.out.mono ?_; rintro e w4 ⟨rfl, hT4, hg4⟩
          have b14 := H1.out.kept hg4 (by simp; omega)
          have b24 := H2.out.kept hg4 (by simp; omega)
          have hB4 := HB.out.grown hg4 HB.out.size (fun r e => by cases e; omega)
          have HS := Lib.hid (show TMx w4 p (textsN ks (k + 1)) ∧ Blk w4 W.heap.size 52 [.slice (some ⟨b, off, none⟩) ks.length c] ∧ Blk w4 (W.heap.size + 1) 4 [.bool false] ∧ Below W.heap.size W w4 from ⟨hT4, b14, b24, hB4⟩)
          clear HP HT HB H1 H2 hT4 hg4 b14 b24 hB4
          go_wp2_with fail
          go_roundw
          case rel => exact ⟨k + 1, by congr 1, by omega, HS.out⟩
          case measure => simp; omega
        · have h41 : (40 : Int) < (x.size : Int) := by omega
          have e2 := b2.frozen 0
          have c2 := b2.cell (i := 0) rfl
          have q2 := b2.set 0 (.bool true)
          have q2c := q2.cell (i := 0) rfl
          clear e1 hgd hget
          go_wp2_with fail
          refine ⟨.bool true, by simp [results, Try.f6, go_sem, q2c], rfl, hB.setCell (p := ⟨W.heap.size + 1, 0, none⟩) (by simp) _⟩
      · obtain rfl : k = ks.length := by omega
        have hxm := textsN_mem ks ks.length
        have hxg := textsN_get ks ks.length
        have hxs := textsN_sd ks ks.length
        have hxl := textsN_len ks ks.length
        obtain ⟨xs, hxx⟩ : ∃ xs, textsN ks ks.length = xs := ⟨_, rfl⟩
        rw [hxx] at hT hxm hxg hxs hxl
        have hpz := hT.lt
        have hal := TabN.bel_alloc2 wr (.cells #[.string ⟨#[]⟩] 9) (.cells #[.int .i64 0] 3)
        have b6 := (Blk.new wr [.string ⟨#[]⟩] 9).alloc (.cells #[.int .i64 0] 3)
        have b7 := Blk.new2 wr (.cells #[.string ⟨#[]⟩] 9) [.int .i64 0] 3
        obtain ⟨w5, hw5⟩ : ∃ w5, (wr.alloc (.cells #[.string ⟨#[]⟩] 9)).alloc (.cells #[.int .i64 0] 3) = w5 := ⟨_, rfl⟩
        rw [hw5] at hal b6 b7
        have hT5 := hT.below hal
        have b15 := b1.belowS hal
        have b25 := b2.belowS hal
        have hB5 := hB.trans (hal.mono hB.size)
        have HW5 := Lib.hid hw5
        clear hw5 hal hT b1 b2 hB hxx
        go_wp2_with fail
        rw [HW5.out]
        obtain ⟨g6, hg6⟩ : ∃ g6, wr.heap.size = g6 := ⟨_, rfl⟩
        rw [hg6] at b6 b7 hpz ⊢
        clear HW5 hg6
        refine (TabT.all_any w5 _).mono ?_; rintro e w6 ⟨rfl, hw6⟩
        have hal : Below w5.heap.size w5 w6 := by rw [hw6]; exact (Below.refl _ w5).alloc (Nat.le_refl _) _
        have bB6 : Blk w6 w5.heap.size 89 [.pointer (some ⟨p, 0, none⟩)] := by rw [hw6]; exact Blk.new w5 [.pointer (some ⟨p, 0, none⟩)] _
        have hMX : MX W w6 p g6 (g6 + 1) (.slice A ks.length c) xs 0 w6 := ⟨KT.refl _ _, b15.belowS hal, ⟨_, b25.belowS hal⟩, b6.belowS hal, b7.belowS hal, hT5.below hal, hB5.trans (hal.mono hB5.size)⟩
        obtain ⟨B, hB⟩ : ∃ B, w5.heap.size = B := ⟨_, rfl⟩
        rw [hB] at bB6 ⊢
        clear hal hw6 hB hT5 b15 b25 b6 b7 hB5
        go_wp2_with fail
        obtain ⟨q, T0, hbm, hTm, hzs⟩ := hMX.t
        have cB := bB6.cell (i := 0) rfl
        have cm := hbm.cell (i := 0) rfl
        have hG := TabT.all_gives w6 B p q T0 hTm
        rw [hzs] at hG
        have hW6 := hMX.b.size
        have hz6 := hMX.b7.lt
        have hsO : ∀ k, OwnFrom w6.heap.size (fun (_ : Unit) W' => MX W w6 p g6 (g6 + 1) (.slice A ks.length c) xs k W') := fun k => MX.own W w6 p g6 (g6 + 1) _ xs k hW6
        clear hzs hbm hTm bB6
        refine wpIn_wide.1 (range_gen (F := Fence.wide) (n := 4) rfl (by omega) (gf := 58) (lb := #[.pointer (some ⟨B, 0, none⟩)]) rfl trivial hG.1 (encs := fun k : Nat => #[ek (xs.getD k d0).1, ev (xs.getD k d0).2]) (fun _ => rfl)
          (fun W' => (W'.cell? ⟨B, 0, none⟩ = some (.pointer (some ⟨p, 0, none⟩)) ∧ W'.cell? ⟨p, 0, none⟩ = some (.pointer q)) ∧ MX W w6 p g6 (g6 + 1) (.slice A ks.length c) xs 0 W')
          (fun k W' => k < xs.length ∧ MX W w6 p g6 (g6 + 1) (.slice A ks.length c) xs k W')
          (fun k W' => MX W w6 p g6 (g6 + 1) (.slice A ks.length c) xs (k + 1) W')
          (fun _ _ => False)
          (fun W' => MX W w6 p g6 (g6 + 1) (.slice A ks.length c) xs xs.length W')
          (fun k a' W' => a' = { tmps := #[.slice A ks.length c, .pointer (some ⟨W.heap.size, 0, none⟩), .pointer (some ⟨W.heap.size + 1, 0, none⟩), .pointer (some ⟨p, 0, none⟩), u4, u5, .pointer (some ⟨g6, 0, none⟩), .pointer (some ⟨g6 + 1, 0, none⟩), ek (xs.getD k d0).1, ev (xs.getD k d0).2, undef, undef, undef, undef, undef, undef, .bool true, .bool false, .slice A ks.length c, .int .i64 (ks.length : Int), .bool (decide ((60 : Int) < (ks.length : Int))), .slice A ks.length c, .int .i64 (ks.length : Int), .int .i64 (ks.length : Int), .bool false, u25, u26, u27, u28, u29, u30, u31, u32, u33, u34, .func (.func 58) #[] #[.pointer (some ⟨B, 0, none⟩)], ek (xs.getD k d0).1, ev (xs.getD k d0).2, undef, undef, undef, undef, undef, undef, undef, undef, undef, undef, undef, undef, undef, undef, undef, undef, undef, undef, undef, undef, undef, undef, undef, undef, undef, undef, undef, undef, undef, undef, undef, undef, undef, undef, undef, undef, undef, undef, undef, undef, undef, undef, undef, undef, undef, undef, undef, undef, undef, undef, undef, undef, undef, undef, undef, undef, undef, undef], defers := [] } ∧ k < xs.length ∧ MX W w6 p g6 (g6 + 1) (.slice A ks.length c) xs k W')
          (OwnFrom.and (OwnFrom.and (cell_own _ _) (cell_own _ _)) (hsO 0))
          (fun k => hsO (k + 1))
          (fun _ _ _ _ _ hs _ _ => hs)
          (hsO _)
          (fun k a' => OwnFrom.and (fun _ _ _ _ hs _ _ => hs) (OwnFrom.and (fun _ _ _ _ hs _ _ => hs) (hsO k)))
          ⟨⟨cB, cm⟩, hMX⟩ (hG.2 3 (fun k W' => MX W w6 p g6 (g6 + 1) (.slice A ks.length c) xs k W') (fun k W' h => h.kt) (fun k W' m h => h.drewN m)) ?assign ?body ?done ?stop)
        case assign =>
          rintro l k W' K ⟨hk, hP⟩ hK
          obtain ⟨⟨x, y⟩, hx⟩ : ∃ x, xs.getD k d0 = x := ⟨_, rfl⟩
          rw [hx] at hK ⊢
          unfold ek ev at hK ⊢
          gi_wp2
          exact hK _ _ (KeepsFrom.refl _ _) ⟨rfl, hk, hP⟩
        case body =>
          rintro l k a' W' hl2 hr ⟨rfl, hk, hS⟩
          have hstep := fun x y hx => hS.step x y hx (by omega) hpz rfl
          obtain ⟨⟨x, y⟩, hx⟩ : ∃ x, xs.getD k d0 = x := ⟨_, rfl⟩
          have hxk : xs[k]? = some (x, y) := by rw [List.getElem?_eq_getElem hk]; rw [List.getD_eq_getElem?_getD, List.getElem?_eq_getElem hk] at hx; exact congrArg some hx
          have hxmem := List.mem_of_getElem? hxk
          obtain ⟨i, hyi, hin, hxi, hlater⟩ := hxm _ hxmem
          dsimp only at hyi hxi hlater
          subst hyi
          have hki : ks[i]? = some x := by rw [hxi, List.getD_eq_getElem?_getD, List.getElem?_eq_getElem hin]; rfl
          have hRW := HR.out.below hS.b
          obtain ⟨b, off, c1, e1, hlb, q0⟩ := rd_at hRW hki
          obtain ⟨rfl, rfl⟩ : A = some ⟨b, off, none⟩ ∧ c = c1 := by injection e1 with e1 e2 e3; exact ⟨e1, e3⟩
          rw [hx]
          unfold ek ev
          have HSTEP := Lib.hid (hstep x i hx)
          have c1' := hS.b1.cell (i := 0) rfl
          have c6 := hS.b6.cell (i := 0) rfl
          have c7 := hS.b7.cell (i := 0) rfl
          have f6 := hS.b6.frozen 0
          have f7 := hS.b7.frozen 0
          obtain ⟨ls, hls⟩ : ∃ ls, lastS xs k = ls := ⟨_, rfl⟩
          rw [hls] at c6
          have hini : (i : Int) < (ks.length : Int) := by omega
          have hlx : 0 < k → Op.bytesLess x.toList ls.toList = false ∧ (x.toList == ls.toList) = false := fun h0 => by
            have hlt : ltS ls x = true := by
              have hp := List.pairwise_iff_getElem.1 hxs (k - 1) k (by omega) hk (by omega)
              have e1 : (xs[k - 1]'(by omega)).1 = ls := by rw [← hls]; unfold lastS; rw [if_neg (by omega), List.getD_eq_getElem?_getD, List.getElem?_eq_getElem (show k - 1 < xs.length by omega)]; rfl
              have e2 : (xs[k]'hk).1 = x := by rw [List.getElem?_eq_getElem hk] at hxk; rw [Option.some.inj hxk]
              rw [e1, e2] at hp
              exact hp
            refine ⟨lin.asym hlt, ?_⟩
            rw [beq_eq_false_iff_ne]
            intro e
            rw [ba_ext e, lin.irr] at hlt
            cases hlt
          have HLAT := Lib.hid hlater; have HRW := Lib.hid hRW
          clear hS hsO hG hMX cB cm hx e1 hxm hxg hxs hstep hxk hxmem hxi hls hlater hRW
          have hk1 : k = 0 ∨ ((0 : Int) < (k : Int) ∧ Op.bytesLess x.toList ls.toList = false ∧ (x.toList == ls.toList) = false) := by
            rcases Nat.eq_zero_or_pos k with h | h
            · exact .inl h
            · exact .inr ⟨by omega, hlx h⟩
          clear hlx
          by_cases hci : c = i + 1
          · have hn0 : ks.length = i + 1 := by omega
            rcases hk1 with rfl | ⟨hk1, hl1, hl3⟩
            all_goals
              gi_wp2_with fail
              gi_loopw [68] (fun idx wr => idx = .int .i64 0 ∧ W' = wr) (fun _ _ => 0)
              case atStart => exact ⟨rfl, rfl⟩
              case round =>
                obtain ⟨rfl, rfl⟩ := hrel
                gi_wp2_with fail
                exact ⟨((KeepsOthers.setCell _ _ _).trans (KeepsOthers.setCell _ _ _)).from _, HSTEP.out⟩
          · rcases hk1 with rfl | ⟨hk1, hl1, hl3⟩
            all_goals
              gi_wp2_with fail
              gi_loopw [68] (fun idx wr => ∃ j : Nat, idx = .int .i64 (j : Int) ∧ j ≤ ks.length - (i + 1) ∧ W' = wr) (fun idx _ => ks.length - (match idx with | .int _ n => n.toNat | _ => 0))
              case atStart => exact ⟨0, rfl, Nat.zero_le _, rfl⟩
              case round =>
                obtain ⟨j, rfl, hj, rfl⟩ := hrel
                by_cases hjl : j < ks.length - (i + 1)
                · obtain ⟨z, hz⟩ : ∃ z, ks[i + 1 + j]? = some z := ⟨_, List.getElem?_eq_getElem (by omega)⟩
                  obtain ⟨b', off', c', e3, hlb', q1⟩ := rd_at HRW.out hz
                  obtain ⟨rfl, rfl⟩ : b = b' ∧ off = off' := by injection e3 with e4 _ _; injection e4 with e5; injection e5 with e6 e7 _; exact ⟨e6, e7⟩
                  rw [← Nat.add_assoc] at q1
                  have hzx : (z.toList == x.toList) = false := by
                    rw [beq_eq_false_iff_ne]
                    intro e
                    refine HLAT.out (i + 1 + j) (by omega) (by omega) ?_
                    rw [List.getD_eq_getElem?_getD, hz]
                    exact ba_ext e
                  have hj3 : (j : Int) < ((ks.length - (i + 1) : Nat) : Int) := by omega
                  clear e3 hz
                  gi_wp2_with fail
                  go_roundw
                  case rel => exact ⟨j + 1, by congr 1, by omega, by first | trivial | rfl⟩
                  case measure => simp; omega
                · obtain rfl : j = ks.length - (i + 1) := by omega
                  gi_wp2_with fail
                  exact ⟨((KeepsOthers.setCell _ _ _).trans (KeepsOthers.setCell _ _ _)).from _, HSTEP.out⟩
        case done =>
          rintro D W' hD hS hK
          have c1 := hS.b1.cell (i := 0) rfl
          have HS := Lib.hid hS; have HK := Lib.hid hK
          clear hS hK hsO hG hMX cB cm hxm
          go_wp2_with fail
          go_loopw [81] (fun idx wr => ∃ j : Nat, idx = .int .i64 (j : Int) ∧ j ≤ ks.length ∧ W' = wr) (fun idx _ => ks.length - (match idx with | .int _ n => n.toNat | _ => 0))
          case atStart => exact ⟨0, rfl, Nat.zero_le _, rfl⟩
          case round =>
            obtain ⟨j, rfl, hj, rfl⟩ := hrel
            by_cases hjl : j < ks.length
            · obtain ⟨z, hz⟩ : ∃ z, ks[j]? = some z := ⟨_, List.getElem?_eq_getElem hjl⟩
              obtain ⟨b, off, c', e1, hlb, q1⟩ := rd_at (HR.out.below HS.out.b) hz
              obtain ⟨rfl, rfl⟩ : A = some ⟨b, off, none⟩ ∧ c = c' := by injection e1 with e1 e2 e3; exact ⟨e1, e3⟩
              have hG2 := TabT.get_any W' p xs z HS.out.t hxs
              have hgz := hxg j hjl
              rw [List.getD_eq_getElem?_getD, hz] at hgz
              rw [show (getL ltS xs z).isSome = true from hgz] at hG2
              have HG := Lib.hid hG2
              have hj3 : (j : Int) < (ks.length : Int) := by omega
              clear hG2 e1 hz hgz
              go_wp2_with fail
              refine HG.out.mono ?_; rintro e w8 ⟨rfl, rfl⟩
              go_wp2_with fail
              go_roundw
              case rel => exact ⟨j + 1, by congr 1, by omega, by first | trivial | rfl⟩
              case measure => simp; omega
            · obtain rfl : j = ks.length := by omega
              have hS := HS.out
              obtain ⟨v2, hv2⟩ := hS.b2
              have c7 := hS.b7.cell (i := 0) rfl
              have c7d : W'.drew.cell? ⟨g6 + 1, 0, none⟩ = some (.int .i64 (xs.length : Int)) := c7
              have c2 := hv2.cell (i := 0) rfl
              have e2 := hv2.frozen 0
              have c7s : (W'.setCell ⟨W.heap.size + 1, 0, none⟩ (.bool true)).drew.cell? ⟨g6 + 1, 0, none⟩ = some (.int .i64 (xs.length : Int)) := (hS.b7.other (p := ⟨W.heap.size + 1, 0, none⟩) (by simp; omega) (.bool true)).cell (i := 0) rfl
              have q2 := hv2.set 0 (.bool true)
              have LEN := Lib.hid (TabT.len_any W'.drew p xs (hS.t.below (Below.refl _ W').drew))
              clear hS hv2
              go_wp2_with fail
              go_region_held3 (fun w' => w'.cell? ⟨g6 + 1, 0, none⟩ = some (.int .i64 (xs.length : Int))) (first | exact c7 | exact c7d | exact c7s) ((go_at_call 32; refine LEN.out.mono ?_; rintro e w ⟨rfl, rfl⟩))
              go_wp2_with fail
              have hD2 : D ≠ W.heap.size + 1 := by omega
              have hK2 : (W'.setCell ⟨W.heap.size + 1, 0, none⟩ (.bool true)).heap[D]? = some (.deferred (some [])) := (Below.heap_setCell W' ⟨W.heap.size + 1, 0, none⟩ _ D hD2).trans HK.out
              refine ⟨by simp, .inl ⟨_, _, rfl, run_takeDeferred (by exact hK2), ?_⟩⟩
              have q2c : ∀ o, ((W'.setCell ⟨W.heap.size + 1, 0, none⟩ (.bool true)).drew.putObj D o).cell? ⟨W.heap.size + 1, 0, none⟩ = some (.bool true) := fun o => by
                have q3 : Blk ((W'.setCell ⟨W.heap.size + 1, 0, none⟩ (.bool true)).drew.putObj D o) (W.heap.size + 1) 4 [.bool true] := (World.putObj_heap_other (by omega)).trans q2
                exact q3.cell (i := 0) rfl
              refine ⟨.bool true, by simp [results, Try.f6, go_sem, q2c], rfl, ?_⟩
              exact (HS.out.b.setCell (p := ⟨W.heap.size + 1, 0, none⟩) (by simp) _).drew.trans (belowK_b (w := w6) hW6 (W'.setCell ⟨W.heap.size + 1, 0, none⟩ (.bool true)).drew D _ _ hD hK2 rfl rfl)
        case stop =>
          rintro D c W' hD h hK
          exact h.elim
  · have h1 : (60 : Int) < (ks.length : Int) := by omega
    have q2 := b21.set 0 (.bool true)
    have q2c := q2.cell (i := 0) rfl
    go_wp2_with fail
    refine ⟨.bool true, by simp [results, Try.f6, go_sem, q2c], rfl, hB1.setCell (p := ⟨W.heap.size + 1, 0, none⟩) (by simp) _⟩

end Go.Proofs.Ytgoomogpcfpekaa.TabT
