/- Hrd, DelE, DelT, laid together. -/
import Derived.Test.YtnlhgnioedalpaaGr09
import Derived.Deep.RegionHeld3
import Derived.OrdersIn
import Derived.Test.YtnlhgnioedalpaaGr12
import Derived.Maps.OwnIn

/- a region that draws, within a round: the walk under a condition on the world. -/
set_option linter.unusedSimpArgs false
set_option linter.unusedVariables false
namespace Go.Proofs.Ytnlhgnioedalpaa

section
variable {F : Fence} {n : Nat} {P : Program} {ops : Array Oper} {Q : Exit → Act → World → Prop} {md : Region.Mode}
def noDefer (ops : Array Oper) : Bool := ops.all (fun o => match o.op with | .defer _ => false | _ => true)
theorem wpOpIn_inRound (l : Nat) (hro : F.round = none) (hnd : noDefer ops = true) {i : Nat} {K : Act → World → Prop} {a : Act} {w : World} (h : wpOpIn F n P ops Q i K a w) : wpOpIn (F.inRound l) n P ops Q i K a w := by
  unfold wpOpIn at *
  cases ho : ops[i]? with
  | none => simpa [ho] using h
  | some o =>
    have hd : ∀ c, o.op ≠ .defer c := fun c e => by
      have h1 := Array.all_eq_true.1 hnd i (Array.getElem?_eq_some_iff.1 ho).1
      rw [(Array.getElem?_eq_some_iff.1 ho).2, e] at h1
      simp at h1
    simp only [ho] at h ⊢
    split
    · rename_i hw
      rw [if_pos hw] at h
      unfold Oper.wpIn at *
      rw [hro, Oper.semAt_none] at h
      rw [show (F.inRound l).round = some l from rfl, Oper.semAt_some l _ _ hd]
      exact h
    · rename_i hw
      rw [if_neg hw] at h
      exact h
/-- a region within a round goes as anywhere -/
theorem wpAnyIn_inRound (l : Nat) (hro : F.round = none) (hnd : noDefer ops = true) : ∀ {fuel : Nat} {listed : Array Bool} {a : Act} {w : World}, wpAnyIn F n P md ops Q fuel listed a w → wpAnyIn (F.inRound l) n P md ops Q fuel listed a w
  | 0, _, _, _, h => h
  | fuel + 1, _, _, _, h => ⟨h.1, fun i hi => wpOpIn_inRound l hro hnd (wpOpIn_mono (fun a w => wpAnyIn_inRound l hro hnd) (h.2 i hi))⟩
theorem rows_wide {m : Nat} {row : String} {args : Array Value} {w : World} {R : Value → World → Prop} (h : Rows P row args w R) : RowsIn Fence.wide m P row args w R := fun c cs _ => by
  obtain ⟨v, w', r, s⟩ := h c cs
  exact ⟨v, w', r, stepsIn_wide.2 s⟩
theorem oper_wide {o : Oper} {a : Act} {w : World} {K : Act → World → Prop} (h : o.wp P a w K Q) : o.wpIn Fence.wide n P a w K Q := by
  unfold Oper.wp at h
  unfold Oper.wpIn
  refine ⟨fun _ _ => trivial, ?_⟩
  rw [show Fence.wide.round = none from rfl, Oper.semAt_none]
  generalize (execOp a.eval o).run P w = r at *
  cases r with
  | ok x w' =>
    cases x <;> simp only [Oper.upon, Oper.uponIn] at h ⊢ <;>
      first
        | exact h
        | exact ⟨fun e => (by cases e), callsIn_wide.2 h⟩
        | exact ⟨fun e => (by cases e), rows_wide h⟩
  | halt x w' => cases x <;> simp only [Oper.upon, Oper.uponIn] at h ⊢ <;> exact h
theorem wpOp_wide (hq : ¬ LetsOut Q) {i : Nat} {K : Act → World → Prop} {a : Act} {w : World} (h : wpOp P ops Q i K a w) : wpOpIn Fence.wide n P ops Q i K a w := by
  unfold wpOp at h
  unfold wpOpIn
  cases ho : ops[i]? with
  | none => simpa [ho] using h
  | some o =>
    simp only [ho] at h ⊢
    split
    · rename_i hw
      rw [if_pos hw] at h
      rcases h with h | h
      · exact oper_wide h
      · exact absurd h.2 hq
    · rename_i hw
      rw [if_neg hw] at h
      exact ⟨fun _ _ => trivial, h⟩
theorem wpAny_wide (hq : ¬ LetsOut Q) : ∀ {fuel : Nat} {listed : Array Bool} {a : Act} {w : World}, wpAny P md ops Q fuel listed a w → wpAnyIn Fence.wide n P md ops Q fuel listed a w
  | 0, _, _, _, h => h
  | fuel + 1, _, _, _, h => ⟨h.1, fun i hi => wpOpIn_mono (fun a w => wpAny_wide hq) (wpOp_wide hq (h.2 i hi))⟩
/-- a region that draws, within a round, under a condition on the world -/
theorem wpIn_held_round {S : World → Prop} (l : Nat) {id : Nat} {a : Act} {w : World} (hm : P.follows .mixedOrders = true) (hnd : noDefer ops = true) (hq : ¬ LetsOut Q) (hS : S w.drew)
    (h : S w.drew → wpAnyH P .any ops Q S ops.size (Array.replicate ops.size false) a w.drew) : (Code.region id ops true).wpIn (Fence.wide.inRound l) n P Q a w :=
  wpIn_region_any hm (wpAnyIn_inRound l rfl hnd (wpAny_wide hq (wpAny_of_held _ _ _ _ (h hS))))
end
end Go.Proofs.Ytnlhgnioedalpaa

/- delta: Diff. -/
set_option linter.unusedSimpArgs false
set_option linter.unusedVariables false
namespace Go.Proofs.Ytnlhgnioedalpaa.Pri
open Go.RowKit Go.Proofs.YtnlhgnioedalpaaW.PrintWords Go.Proofs.Ytnlhgnioedalpaa.PPricePlays Go.Maps
open Go.Proofs.Ytnlhgnioedalpaa.Cod (PC cP3 cP3_length pc_own infoC)
attribute [local go_sem] Oper.semAt_some

theorem filter_take (zs : List Ch) (P : Ch → Bool) {k : Nat} (hk : k < zs.length) : (zs.take (k + 1)).filter P = if P (zs.getD k dC) = true then (zs.take k).filter P ++ [zs.getD k dC] else (zs.take k).filter P := by
  rw [List.take_succ_eq_append_getElem hk, List.filter_append]
  have e : zs.getD k dC = zs[k] := by simp [List.getD, hk]
  rw [e]
  by_cases h : P zs[k] = true
  · rw [if_pos h, List.filter_cons_of_pos h]; rfl
  · rw [if_neg h, List.filter_cons_of_neg h]; simp
set_option maxRecDepth 100000 in
set_option maxHeartbeats 8000000 in
theorem diff_any (W : World) (v u : Value) (was now : List (List En)) (h : PEE W v was) (k : PEE W u now) (hU : ∀ l ∈ was, UE l) (kU : ∀ l ∈ now, UE l) (hl : was.length ≤ 1000) (kl : now.length ≤ 1000) (hl2 : ∀ l ∈ was, l.length ≤ 1000) (kl2 : ∀ l ∈ now, l.length ≤ 1000) :
    Calls Try.prog 45 #[v, u] W fun e w' => ∃ o, e = .returned o ∧ w'.ownsRow W.heap.size tC 3 o (diffL was now).length (cellsOf cP3 (diffL was now)) ∧ Below W.heap.size W w' := by
  have H := Lib.hid h; have K := Lib.hid k
  obtain ⟨A1, c1, rfl, -⟩ := h
  obtain ⟨A2, c2, rfl, -⟩ := k
  obtain ⟨i0, hi0, hiz0, hiz1, hiz2⟩ := info_parts infoC
  refine (callsIn_wide (n := 4)).1 ?_
  refine callsIn_of_wp_marks Try.func45 rfl trivial ?_ rfl
  refine wpIn_wide.2 ?_
  simp only [Try.ntmps45, List.size_toArray, List.length_cons, List.length_nil, Nat.reduceAdd, Nat.reduceSub, Array.replicate_succ, Array.replicate_zero, List.push_toArray, List.append_toArray, List.nil_append, List.cons_append]
  go_wp2_with fail
  refine (open_any W _ was H.out hU (by omega) (fun l hl' => by have := hl2 l hl'; omega)).mono ?_; rintro e w1 ⟨o1, ps1, rfl, hK1, hb1⟩
  obtain ⟨Ao1, co1, rfl⟩ := own_sl hK1.own
  rw [List.length_map] at *
  have HK1 := Lib.hid hK1; have HB1 := Lib.hid hb1
  clear hK1 hb1
  go_wp2_with fail
  have hal : Below w1.heap.size w1 ((w1.alloc (.cells #[.slice Ao1 was.length co1] tBk)).alloc (.cells #[.slice none 0 0] tCs)) := ((Below.refl _ w1).alloc (Nat.le_refl _) _).alloc (by simp) _
  have b5 : Blk ((w1.alloc (.cells #[.slice Ao1 was.length co1] tBk)).alloc (.cells #[.slice none 0 0] tCs)) w1.heap.size tBk [.slice Ao1 was.length co1] := (Blk.new w1 [.slice Ao1 was.length co1] tBk).alloc _
  have b6 : Blk ((w1.alloc (.cells #[.slice Ao1 was.length co1] tBk)).alloc (.cells #[.slice none 0 0] tCs)) (w1.heap.size + 1) tCs [.slice none 0 0] := Blk.new2 w1 (.cells #[.slice Ao1 was.length co1] tBk) [.slice none 0 0] tCs
  refine (open_any _ _ now (K.out.below (HB1.out.trans (hal.mono HB1.out.size))) kU (by omega) (fun l hl' => by have := kl2 l hl'; omega)).mono ?_; rintro e w2 ⟨o2, ps2, rfl, hK2, hb2⟩
  obtain ⟨Ao2, co2, rfl⟩ := own_sl hK2.own
  have HK2 := Lib.hid hK2; have HB2 := Lib.hid (HB1.out.trans ((hal.trans (hb2.mono hal.size)).mono HB1.out.size))
  have HD := Lib.hid (And.intro (b5.belowS hb2) (And.intro (b6.belowS hb2) ((HK1.out.below hal).below hb2)))
  clear hK2 hb2 hal b5 b6
  rw [List.length_map] at *
  go_wp2_with fail
  refine (ball_any w2 _ _ _).mono ?_; rintro e w3 ⟨rfl, hw3⟩
  have hal3 : Below w2.heap.size w2 w3 := by rw [hw3]; exact (Below.refl _ _).alloc (Nat.le_refl _) _
  have b12 : Blk w3 w2.heap.size tBk [.slice Ao2 now.length co2] := by rw [hw3]; exact Blk.new w2 [.slice Ao2 now.length co2] tBk
  obtain ⟨vs2, hBV⟩ := (HK2.out.below hal3).bv
  have hz3 : w3.heap.size = w2.heap.size + 1 := by rw [hw3]; simp
  have h6w : w1.heap.size + 1 < w2.heap.size := HD.out.2.1.lt
  have hn1W : W.heap.size ≤ w1.heap.size := HB1.out.size
  obtain ⟨n1, hn1⟩ : ∃ n, w1.heap.size = n := ⟨_, rfl⟩
  obtain ⟨n2, hn2⟩ : ∃ n, w2.heap.size = n := ⟨_, rfl⟩
  have B5 := HD.out.1.belowS hal3
  have B6 := HD.out.2.1.belowS hal3
  have K1 := HD.out.2.2.below hal3
  have K2 := HK2.out.below hal3
  have HW3 := Lib.hid (HB2.out.trans (hal3.mono HB2.out.size))
  rw [hn1] at B5 B6 h6w hn1W
  rw [hn2] at b12 hz3 h6w
  simp only [hn1, hn2]
  clear hw3 hal3 HD HK1 HK2 HB1 HB2 hn1 hn2 H K
  obtain ⟨ls, hls⟩ : ∃ ls, now.map ofL = ls := ⟨_, rfl⟩
  have hll : ls.length = now.length := by rw [← hls, List.length_map]
  have hle : ∀ l ∈ ls, l.length ≤ 100000 := fun l hl' => by
    rw [← hls, List.mem_map] at hl'
    obtain ⟨l0, h0, rfl⟩ := hl'
    have := kl2 l0 h0
    have := ofL_len l0
    omega
  obtain ⟨P, hP⟩ : ∃ P : Ch → Bool, (fun c => decide (askL (lsAt (was.map ofL) c.1) c.2.1 < c.2.2)) = P := ⟨_, rfl⟩
  have hIO : ∀ k b, w3.heap.size ≤ b → OwnFrom b (fun (_ : Unit) W' => ∃ A c, DI w3 (n1 + 1) (((chT ls ls.length).take k).filter P) A c W') := fun k b hb s X Y row ⟨A, c, hd⟩ hg hr => ⟨A, c, hd.row hg (fun r e => ⟨by have := (hr r e).1; omega, (hr r e).2⟩)⟩
  have IT := all_iter 3 n2 w3.heap.size ps2 vs2 ls (.slice Ao2 now.length co2) (by omega) hle (fun k W' => ∃ A c, DI w3 (n1 + 1) (((chT ls ls.length).take k).filter P) A c W')
    (fun k W' ⟨A, c, hd⟩ => ⟨(hd.blk b12 (by omega)).cell rfl, by rw [← hls]; exact hBV.wrote K2 B6 (by decide) (by decide) hd.g⟩) hIO (fun k X Y ⟨A, c, hd⟩ hb => ⟨A, c, hd.below hb⟩)
  have hI0 : ∃ A c, DI w3 (n1 + 1) (((chT ls ls.length).take 0).filter P) A c w3 := ⟨none, 0, DI.start B6⟩
  have hdl : diffL was now = (chT ls ls.length).filter P := by unfold diffL; rw [hls, hP, hll]
  obtain ⟨zs, hzs⟩ : ∃ zs, chT ls ls.length = zs := ⟨_, rfl⟩
  have hbd : zs.length ≤ 1000000 := by
    have h1 := ch_len (ls := ls) (m := 1000) (fun l hl' => by
      rw [← hls, List.mem_map] at hl'
      obtain ⟨l0, h0, rfl⟩ := hl'
      have := kl2 l0 h0
      have := ofL_len l0
      omega) ls.length
    rw [hzs] at h1
    omega
  have huz : ∀ q ∈ zs, U q.2.1 := fun q hq => by rw [← hzs, ← hls] at hq; exact ch_u kU hq
  rw [hzs] at IT hI0 hIO hdl
  have HDL := Lib.hid hdl; have HPD := Lib.hid hP; have HK1 := Lib.hid K1; have HB5 := Lib.hid B5; have HB6 := Lib.hid B6
  clear hdl hzs hP K1 K2 B5 B6 b12 hBV hls
  go_wp2_with fail
  refine wpIn_wide.1 (range_gen3 (F := Fence.wide) (n := 4) rfl (by omega) (gf := 105) (lb := #[.pointer (some ⟨n2, 0, none⟩)]) rfl trivial (enters_of Try.func105 (by kernel_rfl) rfl) (encs := fun k : Nat => #[.agg #[.int .i64 (zs.getD k dC).1, .int .u64 (zs.getD k dC).2.1, .int .i64 (zs.getD k dC).2.2]]) (fun _ => rfl) AllTs
    (fun W' => w3.heap.size ≤ W'.heap.size ∧ ∃ A c, DI w3 (n1 + 1) ((zs.take 0).filter P) A c W') (fun k W' => k < zs.length ∧ ∃ A c, DI w3 (n1 + 1) ((zs.take k).filter P) A c W') (fun k W' => ∃ A c, DI w3 (n1 + 1) ((zs.take (k + 1)).filter P) A c W') (fun _ _ => False) (fun W' => ∃ A c, DI w3 (n1 + 1) ((zs.take zs.length).filter P) A c W')
    (fun k a' W' => ∃ b7, a' = { tmps := #[.slice A1 was.length c1, .slice A2 now.length c2, undef, undef, .slice none 0 0, .pointer (some ⟨n1, 0, none⟩), .pointer (some ⟨n1 + 1, 0, none⟩), .pointer (some ⟨b7, 0, none⟩), .slice A1 was.length c1, .slice Ao1 was.length co1, .slice A2 now.length c2, .slice Ao2 now.length co2, .func (.func 105) #[] #[.pointer (some ⟨n2, 0, none⟩)], .agg #[.int .i64 (zs.getD k dC).1, .int .u64 (zs.getD k dC).2.1, .int .i64 (zs.getD k dC).2.2], undef, undef, undef, undef, undef, undef, undef, undef, undef, undef, undef, undef, undef, undef, undef, undef, undef], defers := [] } ∧ k < zs.length ∧ Blk W' b7 tC [.int .i64 (zs.getD k dC).1, .int .u64 (zs.getD k dC).2.1, .int .i64 (zs.getD k dC).2.2] ∧ ∃ A c, DI w3 (n1 + 1) ((zs.take k).filter P) A c W')
    (fun s X Y row hs hg hr => ⟨Nat.le_trans hs.1 hg.size, hIO 0 _ (Nat.le_refl _) () X Y row hs.2 hg hr⟩) (fun k => hIO (k + 1) _ (Nat.le_refl _)) (fun _ _ _ _ _ hs _ _ => hs) (hIO zs.length _ (Nat.le_refl _))
    (fun k a' s X Y row hs hg hr => by
      obtain ⟨b7, h1, h2, h3, h4⟩ := hs
      exact ⟨b7, h1, h2, Own.from (blk_own _ _ (fun _ : Unit => _)) _ () X Y row h3 hg hr, hIO k _ (Nat.le_refl _) () X Y row h4 hg hr⟩)
    ⟨Nat.le_refl _, hI0⟩ IT ?assign ?body ?done ?stop)
  case assign =>
    clear IT
    rintro l k W' K ⟨hk, A, c, hI⟩ hK
    obtain ⟨⟨x, y, yz⟩, hx⟩ : ∃ x, zs.getD k dC = x := ⟨_, rfl⟩
    rw [hx] at hK ⊢
    have HK := Lib.hid (fun a' ha' => hK a' (W'.alloc (.cells #[.int .i64 x, .int .u64 y, .int .i64 yz] tC)) (KeepsFrom.of_grownBy (World.grownBy_alloc W' _ none) (fun j e => by cases e)) (fun t _ => KTy.below ((Below.refl _ W').alloc (Nat.le_refl _) _)) ⟨W'.heap.size, ha', hk, Blk.new W' _ _, A, c, hI.below ((Below.refl _ W').alloc (Nat.le_refl _) _)⟩)
    clear hK hI
    gi_wp2
    exact HK.out _ rfl
  case body =>
    clear IT hIO
    rintro l k a' W' hl hr ⟨b7, rfl, hk, h7, A, c, hI⟩
    have hmem : zs.getD k dC ∈ zs := by rw [List.getD_eq_getElem?_getD, List.getElem?_eq_getElem hk]; exact List.getElem_mem hk
    have huy := huz _ hmem
    have hft := filter_take zs P hk
    obtain ⟨L, hL⟩ : ∃ L, (zs.take k).filter P = L := ⟨_, rfl⟩
    have hLl : L.length ≤ 1000000 := by
      have h1 := List.length_filter_le P (zs.take k)
      rw [hL, List.length_take] at h1
      omega
    rw [hL] at hI hft
    obtain ⟨⟨x, y, yz⟩, hx⟩ : ∃ x, zs.getD k dC = x := ⟨_, rfl⟩
    rw [hx] at h7 hft huy ⊢
    dsimp only at huy h7
    obtain ⟨m, hm⟩ : ∃ m, askL (lsAt (was.map ofL) x) y = m := ⟨_, rfl⟩
    have hPx : P (x, y, yz) = decide (m < yz) := by rw [← HPD.out, ← hm]
    rw [hPx] at hft
    have hK1 := HK1.out.wrote HB6.out (by decide) (by decide) hI.g
    have d5 := (hI.blk HB5.out (by omega)).cell (i := 0) rfl
    have m0 := h7.cell (i := 0) rfl
    have m1 := h7.cell (i := 1) rfl
    have m2 := h7.cell (i := 2) rfl
    have lb7 : b7 < W'.heap.size := h7.lt
    have ln1 : n1 < W'.heap.size := (cell_spot d5).2
    have hat := at_any W'.drew _ _ _ _ (hK1.below ((Below.refl _ _).drew)) x (by rw [List.length_map]; omega)
    have HAT := Lib.hid hat; have HM := Lib.hid hm; have HI := Lib.hid hI; have HFT := Lib.hid hft; have H7 := Lib.hid h7
    clear hat hm hI hft h7 hK1 hPx hx hL hmem
    by_cases hlt : m < yz
    · gi_wp2_with fail
      refine wpIn_held_round (S := fun w' => w'.cell? ⟨n1, 0, none⟩ = some (.slice Ao1 was.length co1) ∧ w'.cell? ⟨b7, 0, none⟩ = some (.int .i64 x) ∧ w'.cell? ⟨b7, 1, none⟩ = some (.int .u64 y) ∧ w'.cell? ⟨b7, 2, none⟩ = some (.int .i64 yz)) l (by kernel_rfl) (by kernel_rfl) (by rintro ⟨a, w, h⟩; exact h) ⟨d5, m0, m1, m2⟩ (fun hHeld => ?_)
      refine wpAnyH_take (i := 0) (v := ?_) rfl (by kernel_rfl) (by kernel_rfl) (by kernel_rfl) (fun _ _ _ h => h) (Or.inl ⟨by rfl, ?_⟩) (by assumption) ?_
      rotate_left
      · (intro w hSw; (try dsimp only at hSw); go_simp) <;> with_reducible rfl
      try simp only [Act.put, List.setIfInBounds_toArray, List.set_cons_zero, List.set_cons_succ]
      refine wpAnyH_take (i := 1) (v := ?_) rfl (by kernel_rfl) (by kernel_rfl) (by kernel_rfl) (fun _ _ _ h => h) (Or.inl ⟨by rfl, ?_⟩) (by assumption) ?_
      rotate_left
      · (intro w hSw; (try dsimp only at hSw); go_simp) <;> with_reducible rfl
      try simp only [Act.put, List.setIfInBounds_toArray, List.set_cons_zero, List.set_cons_succ]
      refine wpAnyH_take (i := 2) (v := ?_) rfl (by kernel_rfl) (by kernel_rfl) (by kernel_rfl) (fun _ _ _ h => h) (Or.inl ⟨by rfl, ?_⟩) (by assumption) ?_
      rotate_left
      · (intro w hSw; (try dsimp only at hSw); go_simp) <;> with_reducible rfl
      try simp only [Act.put, List.setIfInBounds_toArray, List.set_cons_zero, List.set_cons_succ]
      refine wpAnyH_take (i := 3) (v := ?_) rfl (by kernel_rfl) (by kernel_rfl) (by kernel_rfl) (fun _ _ _ h => h) (Or.inl ⟨by rfl, ?_⟩) (by assumption) ?_
      rotate_left
      · (intro w hSw; (try dsimp only at hSw); go_simp) <;> with_reducible rfl
      try simp only [Act.put, List.setIfInBounds_toArray, List.set_cons_zero, List.set_cons_succ]
      refine wpAnyH_take (i := 4) (v := ?_) rfl (by kernel_rfl) (by kernel_rfl) (by kernel_rfl) (fun _ _ _ h => h) (Or.inl ⟨by rfl, ?_⟩) (by assumption) ?_
      rotate_left
      · (intro w hSw; (try dsimp only at hSw); go_simp) <;> with_reducible rfl
      try simp only [Act.put, List.setIfInBounds_toArray, List.set_cons_zero, List.set_cons_succ]
      refine wpAnyH_take (i := 5) (v := ?_) rfl (by kernel_rfl) (by kernel_rfl) (by kernel_rfl) (fun _ _ _ h => h) (Or.inl ⟨by rfl, ?_⟩) (by assumption) ?_
      rotate_left
      · (intro w hSw; (try dsimp only at hSw); go_simp) <;> with_reducible rfl
      try simp only [Act.put, List.setIfInBounds_toArray, List.set_cons_zero, List.set_cons_succ]
      refine wpAnyH_take (i := 7) (v := ?_) rfl (by kernel_rfl) (by kernel_rfl) (by kernel_rfl) (fun _ _ _ h => h) (Or.inl ⟨by rfl, ?_⟩) (by assumption) ?_
      rotate_left
      · (intro w hSw; (try dsimp only at hSw); go_simp) <;> with_reducible rfl
      try simp only [Act.put, List.setIfInBounds_toArray, List.set_cons_zero, List.set_cons_succ]
      refine wpAnyH_take (i := 8) (v := ?_) rfl (by kernel_rfl) (by kernel_rfl) (by kernel_rfl) (fun _ _ _ h => h) (Or.inl ⟨by rfl, ?_⟩) (by assumption) ?_
      rotate_left
      · (intro w hSw; (try dsimp only at hSw); go_simp) <;> with_reducible rfl
      try simp only [Act.put, List.setIfInBounds_toArray, List.set_cons_zero, List.set_cons_succ]
      refine wpAnyH_take (i := 9) (v := ?_) rfl (by kernel_rfl) (by kernel_rfl) (by kernel_rfl) (fun _ _ _ h => h) (Or.inl ⟨by rfl, ?_⟩) (by assumption) ?_
      rotate_left
      · (intro w hSw; (try dsimp only at hSw); go_simp) <;> with_reducible rfl
      try simp only [Act.put, List.setIfInBounds_toArray, List.set_cons_zero, List.set_cons_succ]
      refine wpAnyH_ready (rs := [6]) (by kernel_rfl) (by simp) ?_
      refine AllReadyH.cons rfl (fun K hK => ?_) AllReadyH.nil
      go_simp
      go_at_call 80; refine HAT.out.mono ?_; rintro e w5 ⟨p, rfl, hS5, hb5⟩; have s0 := (hb5.cell (p := ⟨b7, 0, none⟩) lb7).trans m0; have s1 := (hb5.cell (p := ⟨b7, 1, none⟩) lb7).trans m1; have s2 := (hb5.cell (p := ⟨b7, 2, none⟩) lb7).trans m2; have s5 := (hb5.cell (p := ⟨n1, 0, none⟩) ln1).trans d5
      go_wp2_with fail
      refine hK.out _ _ ⟨s5, s0, s1, s2⟩ (fun hHeld => ?_)
      clear hK K
      try simp only [Act.put, List.setIfInBounds_toArray, List.set_cons_zero, List.set_cons_succ]
      refine wpAnyH_ready (rs := [10]) (by kernel_rfl) (by simp) ?_
      refine AllReadyH.cons rfl (fun K hK => ?_) AllReadyH.nil
      go_simp
      go_at_call 21; refine (ask_c _ _ _ _ m hS5 huy HM.out).mono ?_; rintro e w6 ⟨rfl, hb6⟩; have t0 := (hb6.cell (p := ⟨b7, 0, none⟩) (cell_spot s0).2).trans s0; have t1 := (hb6.cell (p := ⟨b7, 1, none⟩) (cell_spot s0).2).trans s1; have t2 := (hb6.cell (p := ⟨b7, 2, none⟩) (cell_spot s0).2).trans s2; have t5 := (hb6.cell (p := ⟨n1, 0, none⟩) (cell_spot s5).2).trans s5
      go_wp2_with fail
      refine hK.out _ _ ⟨t5, t0, t1, t2⟩ (fun hHeld => ?_)
      clear hK K
      try simp only [Act.put, List.setIfInBounds_toArray, List.set_cons_zero, List.set_cons_succ]
      refine wpAnyH_take (i := 11) (v := ?_) rfl (by kernel_rfl) (by kernel_rfl) (by kernel_rfl) (fun _ _ _ h => h) (Or.inl ⟨by rfl, ?_⟩) (by assumption) ?_
      rotate_left
      · (intro w hSw; (try dsimp only at hSw); go_simp) <;> with_reducible rfl
      try simp only [Act.put, List.setIfInBounds_toArray, List.set_cons_zero, List.set_cons_succ]
      refine wpAnyH_done (by kernel_rfl) ?_ _
      have hB6 : Below W'.heap.size W' w6 := ((Below.refl _ _).drew.trans (hb5.mono (Nat.le_refl _))).trans (hb6.mono hb5.size)
      have hal : Below w6.heap.size w6 (w6.alloc (.cells #[.int .i64 x, .int .u64 y, .int .i64 yz] tC)) := (Below.refl _ w6).alloc (Nat.le_refl _) _
      have hB7 := hB6.trans (hal.mono hB6.size)
      have hI7 := HI.out.below hB7
      have d6 := (HI.out.below hB6).b.cell (i := 0) rfl
      have HNB := Lib.hid (news_blk (Blk.new w6 [.int .i64 x, .int .u64 y, .int .i64 yz] tC))
      have HI7 := Lib.hid hI7; have HB7 := Lib.hid hB7
      have hbz : w3.heap.size ≤ (w6.alloc (.cells #[.int .i64 x, .int .u64 y, .int .i64 yz] tC)).heap.size := hI7.g.size
      have HBZ := Lib.hid hbz
      clear s0 s1 s2 s5 t5 hS5 hb5 hb6 hB6 hal hB7 hI7 hbz m0 m1 m2 d5
      gi_wp2_with (first | (gi_at_builtin; refine wpListIn_append_own_at _ rfl _ _ tCs rfl w3.heap.size tC i0 _ 3 24 Try.underlying80 hi0 hiz0 hiz1 hiz2 rfl (by decide) _ L.length _ rfl HI7.out.own ⟨w6.heap.size, 0, none⟩ 1 1 [.int .i64 x, .int .u64 y, .int .i64 yz] rfl rfl HNB.out (by simp [Value.oneCell']) (by unfold maxLen; omega) (by omega) HBZ.out ?_; intro v9 w9 hown9 hgrow9 hnil9 hloc9; obtain ⟨A9, c9, rfl⟩ := own_sl hown9; have hb9 := HI7.out.b.kept hgrow9 (Ne.symm (own_apart HI7.out.b HI7.out.own (by decide))); have d9 := hb9.cell (i := 0) rfl; have e9 := hb9.frozen 0) | fail)
      obtain ⟨hD9, hKO, hKT⟩ := HI7.out.push (q := (x, y, yz)) hown9 hgrow9
      refine ⟨((belowOthers HB7.out).trans hKO).from _, fun t ht => (KTy.below HB7.out).trans (hKT t ht), ?_⟩
      rw [HFT.out, if_pos (by simpa using hlt)]
      exact hD9
    · gi_wp2_with fail
      refine wpIn_held_round (S := fun w' => w'.cell? ⟨n1, 0, none⟩ = some (.slice Ao1 was.length co1) ∧ w'.cell? ⟨b7, 0, none⟩ = some (.int .i64 x) ∧ w'.cell? ⟨b7, 1, none⟩ = some (.int .u64 y) ∧ w'.cell? ⟨b7, 2, none⟩ = some (.int .i64 yz)) l (by kernel_rfl) (by kernel_rfl) (by rintro ⟨a, w, h⟩; exact h) ⟨d5, m0, m1, m2⟩ (fun hHeld => ?_)
      refine wpAnyH_take (i := 0) (v := ?_) rfl (by kernel_rfl) (by kernel_rfl) (by kernel_rfl) (fun _ _ _ h => h) (Or.inl ⟨by rfl, ?_⟩) (by assumption) ?_
      rotate_left
      · (intro w hSw; (try dsimp only at hSw); go_simp) <;> with_reducible rfl
      try simp only [Act.put, List.setIfInBounds_toArray, List.set_cons_zero, List.set_cons_succ]
      refine wpAnyH_take (i := 1) (v := ?_) rfl (by kernel_rfl) (by kernel_rfl) (by kernel_rfl) (fun _ _ _ h => h) (Or.inl ⟨by rfl, ?_⟩) (by assumption) ?_
      rotate_left
      · (intro w hSw; (try dsimp only at hSw); go_simp) <;> with_reducible rfl
      try simp only [Act.put, List.setIfInBounds_toArray, List.set_cons_zero, List.set_cons_succ]
      refine wpAnyH_take (i := 2) (v := ?_) rfl (by kernel_rfl) (by kernel_rfl) (by kernel_rfl) (fun _ _ _ h => h) (Or.inl ⟨by rfl, ?_⟩) (by assumption) ?_
      rotate_left
      · (intro w hSw; (try dsimp only at hSw); go_simp) <;> with_reducible rfl
      try simp only [Act.put, List.setIfInBounds_toArray, List.set_cons_zero, List.set_cons_succ]
      refine wpAnyH_take (i := 3) (v := ?_) rfl (by kernel_rfl) (by kernel_rfl) (by kernel_rfl) (fun _ _ _ h => h) (Or.inl ⟨by rfl, ?_⟩) (by assumption) ?_
      rotate_left
      · (intro w hSw; (try dsimp only at hSw); go_simp) <;> with_reducible rfl
      try simp only [Act.put, List.setIfInBounds_toArray, List.set_cons_zero, List.set_cons_succ]
      refine wpAnyH_take (i := 4) (v := ?_) rfl (by kernel_rfl) (by kernel_rfl) (by kernel_rfl) (fun _ _ _ h => h) (Or.inl ⟨by rfl, ?_⟩) (by assumption) ?_
      rotate_left
      · (intro w hSw; (try dsimp only at hSw); go_simp) <;> with_reducible rfl
      try simp only [Act.put, List.setIfInBounds_toArray, List.set_cons_zero, List.set_cons_succ]
      refine wpAnyH_take (i := 5) (v := ?_) rfl (by kernel_rfl) (by kernel_rfl) (by kernel_rfl) (fun _ _ _ h => h) (Or.inl ⟨by rfl, ?_⟩) (by assumption) ?_
      rotate_left
      · (intro w hSw; (try dsimp only at hSw); go_simp) <;> with_reducible rfl
      try simp only [Act.put, List.setIfInBounds_toArray, List.set_cons_zero, List.set_cons_succ]
      refine wpAnyH_take (i := 7) (v := ?_) rfl (by kernel_rfl) (by kernel_rfl) (by kernel_rfl) (fun _ _ _ h => h) (Or.inl ⟨by rfl, ?_⟩) (by assumption) ?_
      rotate_left
      · (intro w hSw; (try dsimp only at hSw); go_simp) <;> with_reducible rfl
      try simp only [Act.put, List.setIfInBounds_toArray, List.set_cons_zero, List.set_cons_succ]
      refine wpAnyH_take (i := 8) (v := ?_) rfl (by kernel_rfl) (by kernel_rfl) (by kernel_rfl) (fun _ _ _ h => h) (Or.inl ⟨by rfl, ?_⟩) (by assumption) ?_
      rotate_left
      · (intro w hSw; (try dsimp only at hSw); go_simp) <;> with_reducible rfl
      try simp only [Act.put, List.setIfInBounds_toArray, List.set_cons_zero, List.set_cons_succ]
      refine wpAnyH_take (i := 9) (v := ?_) rfl (by kernel_rfl) (by kernel_rfl) (by kernel_rfl) (fun _ _ _ h => h) (Or.inl ⟨by rfl, ?_⟩) (by assumption) ?_
      rotate_left
      · (intro w hSw; (try dsimp only at hSw); go_simp) <;> with_reducible rfl
      try simp only [Act.put, List.setIfInBounds_toArray, List.set_cons_zero, List.set_cons_succ]
      refine wpAnyH_ready (rs := [6]) (by kernel_rfl) (by simp) ?_
      refine AllReadyH.cons rfl (fun K hK => ?_) AllReadyH.nil
      go_simp
      go_at_call 80; refine HAT.out.mono ?_; rintro e w5 ⟨p, rfl, hS5, hb5⟩; have s0 := (hb5.cell (p := ⟨b7, 0, none⟩) lb7).trans m0; have s1 := (hb5.cell (p := ⟨b7, 1, none⟩) lb7).trans m1; have s2 := (hb5.cell (p := ⟨b7, 2, none⟩) lb7).trans m2; have s5 := (hb5.cell (p := ⟨n1, 0, none⟩) ln1).trans d5
      go_wp2_with fail
      refine hK.out _ _ ⟨s5, s0, s1, s2⟩ (fun hHeld => ?_)
      clear hK K
      try simp only [Act.put, List.setIfInBounds_toArray, List.set_cons_zero, List.set_cons_succ]
      refine wpAnyH_ready (rs := [10]) (by kernel_rfl) (by simp) ?_
      refine AllReadyH.cons rfl (fun K hK => ?_) AllReadyH.nil
      go_simp
      go_at_call 21; refine (ask_c _ _ _ _ m hS5 huy HM.out).mono ?_; rintro e w6 ⟨rfl, hb6⟩; have t0 := (hb6.cell (p := ⟨b7, 0, none⟩) (cell_spot s0).2).trans s0; have t1 := (hb6.cell (p := ⟨b7, 1, none⟩) (cell_spot s0).2).trans s1; have t2 := (hb6.cell (p := ⟨b7, 2, none⟩) (cell_spot s0).2).trans s2; have t5 := (hb6.cell (p := ⟨n1, 0, none⟩) (cell_spot s5).2).trans s5
      go_wp2_with fail
      refine hK.out _ _ ⟨t5, t0, t1, t2⟩ (fun hHeld => ?_)
      clear hK K
      try simp only [Act.put, List.setIfInBounds_toArray, List.set_cons_zero, List.set_cons_succ]
      refine wpAnyH_take (i := 11) (v := ?_) rfl (by kernel_rfl) (by kernel_rfl) (by kernel_rfl) (fun _ _ _ h => h) (Or.inl ⟨by rfl, ?_⟩) (by assumption) ?_
      rotate_left
      · (intro w hSw; (try dsimp only at hSw); go_simp) <;> with_reducible rfl
      try simp only [Act.put, List.setIfInBounds_toArray, List.set_cons_zero, List.set_cons_succ]
      refine wpAnyH_done (by kernel_rfl) ?_ _
      have hB6 : Below W'.heap.size W' w6 := ((Below.refl _ _).drew.trans (hb5.mono (Nat.le_refl _))).trans (hb6.mono hb5.size)
      have hI6 := HI.out.below hB6
      clear s0 s1 s2 s5 t0 t1 t2 t5 hS5 hb5 hb6 m0 m1 m2 d5
      gi_wp2_with fail
      refine ⟨(belowOthers hB6).from _, fun t ht => KTy.below hB6, ?_⟩
      rw [HFT.out, if_neg (by simpa using hlt)]
      exact ⟨_, _, hI6⟩
  case done =>
    clear IT hIO
    rintro D W' hD ⟨A, c, hI⟩ hK
    rw [List.take_length, ← HDL.out] at hI
    have c6 := hI.b.cell (i := 0) rfl
    go_wp2
    refine ⟨by simp, .inl ⟨_, _, rfl, run_takeDeferred hK, ?_⟩⟩
    refine ⟨_, results_tmp rfl _ _ _, _, rfl, ?_, ?_⟩
    · exact own_weaken ((own_row hI.own (grownBy_putObj' W' D _) (fun r e => by cases e; exact ⟨_, hK, rfl⟩))) HW3.out.size
    · exact (HW3.out.grown hI.g HW3.out.size (fun r e => by cases e; omega)).trans (belowK_b (w := w3) HW3.out.size W' D _ _ hD hK rfl rfl)
  case stop =>
    rintro D c W' hD hF hK
    exact hF.elim
end Go.Proofs.Ytnlhgnioedalpaa.Pri

/- delta: Sum, Rose. -/
set_option linter.unusedSimpArgs false
set_option linter.unusedVariables false
namespace Go.Proofs.Ytnlhgnioedalpaa.Pri
open Go.RowKit Go.Proofs.YtnlhgnioedalpaaW.PrintWords Go.Proofs.Ytnlhgnioedalpaa.PPricePlays Go.Maps
open Go.Proofs.Ytnlhgnioedalpaa.Cod (PC cP3 cP3_length pc_own infoC grown_own KTy.setOther)
attribute [local go_sem] Oper.semAt_some

def sumF (o : Int) (c : Ch) : Int := min (o + min c.2.2 1099511627776) 140737488355328
/-- all asks added up -/
def sumL (now : List (List En)) : Int := (chT (now.map ofL) now.length).foldl sumF 0
theorem sum_take (zs : List Ch) {k : Nat} (hk : k < zs.length) : (zs.take (k + 1)).foldl sumF 0 = sumF ((zs.take k).foldl sumF 0) (zs.getD k dC) := by
  rw [List.take_succ_eq_append_getElem hk, List.foldl_append]
  have e : zs.getD k dC = zs[k] := by simp [List.getD, hk]
  rw [e]
  rfl
theorem sum_rng : ∀ (zs : List Ch) (o : Int), (∀ q ∈ zs, 1 ≤ q.2.2) → 0 ≤ o → o ≤ 140737488355328 → 0 ≤ zs.foldl sumF o ∧ zs.foldl sumF o ≤ 140737488355328
  | [], o, _, h0, h1 => ⟨h0, h1⟩
  | q :: zs, o, h, h0, h1 => by
    rw [List.foldl_cons]
    have hq := h q List.mem_cons_self
    refine sum_rng zs _ (fun x hx => h x (List.mem_cons_of_mem _ hx)) ?_ ?_ <;> unfold sumF <;> omega
theorem ch_ask {now : List (List En)} (hU : ∀ l ∈ now, UE l) {k : Nat} {q : Ch} (h : q ∈ chT (now.map ofL) k) : 1 ≤ q.2.2 ∧ q.2.2 ≤ 2199023255552 := by
  obtain ⟨i, _, e, he, rfl⟩ := ch_mem.1 h
  rw [at_map] at he
  have := (tight_ofL (at_ue hU i)).ok e he
  exact ⟨this.2.2.1, this.2.2.2⟩
/-- a number behind a cell of the walk's own; nothing else is written -/
structure NI (w3 : World) (b3 : Nat) (m : Int) (W' : World) : Prop where
  b : Blk W' b3 2 [.int .i64 m]
  g : w3.grownBy W' (some b3)
theorem NI.row {w3 : World} {b3 : Nat} {m : Int} {X Y : World} {row : Option Nat} (h : NI w3 b3 m X) (hg : X.grownBy Y row) (hr : ∀ r, row = some r → w3.heap.size ≤ r ∧ ∃ o : Obj, X.heap[r]? = some o ∧ o.isCells = false) : NI w3 b3 m Y :=
  ⟨blk_row1 h.b hg (fun r e => (hr r e).2), grown_own h.g hg (fun r e => (hr r e).1)⟩
theorem NI.below {w3 : World} {b3 : Nat} {m : Int} {X Y : World} (h : NI w3 b3 m X) (hb : Below X.heap.size X Y) : NI w3 b3 m Y := h.row (gb_none hb) (fun r e => by cases e)
theorem NI.set {w3 : World} {b3 : Nat} {m : Int} {X : World} (h : NI w3 b3 m X) (m' : Int) : NI w3 b3 m' (X.setCell ⟨b3, 0, none⟩ (.int .i64 m')) := ⟨h.b.set 0 _, gb_trans h.g (grownBy_setAt X b3 0 _)⟩
set_option maxRecDepth 100000 in
set_option maxHeartbeats 8000000 in
theorem sum_any (W : World) (u : Value) (now : List (List En)) (k : PEE W u now) (kU : ∀ l ∈ now, UE l) (kl : now.length ≤ 1000) (kl2 : ∀ l ∈ now, l.length ≤ 1000) :
    Calls Try.prog 48 #[u] W fun e w' => e = .returned (.int .i64 (sumL now)) ∧ Below W.heap.size W w' := by
  have K := Lib.hid k
  obtain ⟨A2, c2, rfl, -⟩ := k
  refine (callsIn_wide (n := 4)).1 ?_
  refine callsIn_of_wp_marks Try.func48 rfl trivial ?_ rfl
  refine wpIn_wide.2 ?_
  simp only [Try.ntmps48, List.size_toArray, List.length_cons, List.length_nil, Nat.reduceAdd, Nat.reduceSub, Array.replicate_succ, Array.replicate_zero, List.push_toArray, List.append_toArray, List.nil_append, List.cons_append]
  go_wp2_with fail
  have hal : Below W.heap.size W (W.alloc (.cells #[.int .i64 0] 2)) := (Below.refl _ W).alloc (Nat.le_refl _) _
  have b3 := Blk.new W [.int .i64 0] 2
  refine (open_any _ _ now (K.out.below hal) kU (by omega) (fun l hl' => by have := kl2 l hl'; omega)).mono ?_; rintro e w2 ⟨o2, ps2, rfl, hK2, hb2⟩
  obtain ⟨Ao2, co2, rfl⟩ := own_sl hK2.own
  have HK2 := Lib.hid hK2; have HB2 := Lib.hid (hal.trans (hb2.mono hal.size))
  have HD := Lib.hid (b3.belowS hb2)
  clear hK2 hb2 hal b3
  rw [List.length_map] at *
  go_wp2_with fail
  refine (ball_any w2 _ _ _).mono ?_; rintro e w3 ⟨rfl, hw3⟩
  have hal3 : Below w2.heap.size w2 w3 := by rw [hw3]; exact (Below.refl _ _).alloc (Nat.le_refl _) _
  have b12 : Blk w3 w2.heap.size tBk [.slice Ao2 now.length co2] := by rw [hw3]; exact Blk.new w2 [.slice Ao2 now.length co2] tBk
  obtain ⟨vs2, hBV⟩ := (HK2.out.below hal3).bv
  have hz3 : w3.heap.size = w2.heap.size + 1 := by rw [hw3]; simp
  have h6w : W.heap.size < w2.heap.size := HD.out.lt
  obtain ⟨n1, hn1⟩ : ∃ n, W.heap.size = n := ⟨_, rfl⟩
  obtain ⟨n2, hn2⟩ : ∃ n, w2.heap.size = n := ⟨_, rfl⟩
  have B3 := HD.out.belowS hal3
  have K2 := HK2.out.below hal3
  have HW3 := Lib.hid (HB2.out.trans (hal3.mono HB2.out.size))
  rw [hn1] at B3 h6w
  rw [hn2] at b12 hz3 h6w
  simp only [hn1, hn2]
  clear hw3 hal3 HD HK2 HB2 hn2 K
  obtain ⟨ls, hls⟩ : ∃ ls, now.map ofL = ls := ⟨_, rfl⟩
  have hll : ls.length = now.length := by rw [← hls, List.length_map]
  have hle : ∀ l ∈ ls, l.length ≤ 100000 := fun l hl' => by
    rw [← hls, List.mem_map] at hl'
    obtain ⟨l0, h0, rfl⟩ := hl'
    have := kl2 l0 h0
    have := ofL_len l0
    omega
  have hIO : ∀ k b, w3.heap.size ≤ b → OwnFrom b (fun (_ : Unit) W' => NI w3 n1 (((chT ls ls.length).take k).foldl sumF 0) W') := fun k b hb s X Y row hd hg hr => hd.row hg (fun r e => ⟨by have := (hr r e).1; omega, (hr r e).2⟩)
  have IT := all_iter 3 n2 w3.heap.size ps2 vs2 ls (.slice Ao2 now.length co2) (by omega) hle (fun k W' => NI w3 n1 (((chT ls ls.length).take k).foldl sumF 0) W')
    (fun k W' hd => ⟨(b12.kept hd.g (by simp; omega)).cell rfl, by rw [← hls]; exact hBV.one K2 B3 (by decide) (by decide) (by simp) hd.g⟩) hIO (fun k X Y hd hb => hd.below hb)
  have hI0 : NI w3 n1 (((chT ls ls.length).take 0).foldl sumF 0) w3 := ⟨B3, below_gb (Below.refl _ w3)⟩
  have hdl : sumL now = (chT ls ls.length).foldl sumF 0 := by unfold sumL; rw [hls, hll]
  obtain ⟨zs, hzs⟩ : ∃ zs, chT ls ls.length = zs := ⟨_, rfl⟩
  have haz : ∀ q ∈ zs, 1 ≤ q.2.2 ∧ q.2.2 ≤ 2199023255552 := fun q hq => by rw [← hzs, ← hls] at hq; exact ch_ask kU hq
  rw [hzs] at IT hI0 hIO hdl
  have HDL := Lib.hid hdl; have HN1 := Lib.hid hn1
  clear hdl hzs K2 B3 b12 hBV hls hn1
  go_wp2_with fail
  refine wpIn_wide.1 (range_gen3 (F := Fence.wide) (n := 4) rfl (by omega) (gf := 105) (lb := #[.pointer (some ⟨n2, 0, none⟩)]) rfl trivial (enters_of Try.func105 (by kernel_rfl) rfl) (encs := fun k : Nat => #[.agg #[.int .i64 (zs.getD k dC).1, .int .u64 (zs.getD k dC).2.1, .int .i64 (zs.getD k dC).2.2]]) (fun _ => rfl) AllTs
    (fun W' => w3.heap.size ≤ W'.heap.size ∧ NI w3 n1 ((zs.take 0).foldl sumF 0) W') (fun k W' => k < zs.length ∧ NI w3 n1 ((zs.take k).foldl sumF 0) W') (fun k W' => NI w3 n1 ((zs.take (k + 1)).foldl sumF 0) W') (fun _ _ => False) (fun W' => NI w3 n1 ((zs.take zs.length).foldl sumF 0) W')
    (fun k a' W' => ∃ b4, a' = { tmps := #[.slice A2 now.length c2, undef, .int .i64 0, .pointer (some ⟨n1, 0, none⟩), .pointer (some ⟨b4, 0, none⟩), .slice A2 now.length c2, .slice Ao2 now.length co2, .func (.func 105) #[] #[.pointer (some ⟨n2, 0, none⟩)], .agg #[.int .i64 (zs.getD k dC).1, .int .u64 (zs.getD k dC).2.1, .int .i64 (zs.getD k dC).2.2], undef, undef, undef, undef, undef, undef, undef, undef], defers := [] } ∧ k < zs.length ∧ Blk W' b4 tC [.int .i64 (zs.getD k dC).1, .int .u64 (zs.getD k dC).2.1, .int .i64 (zs.getD k dC).2.2] ∧ NI w3 n1 ((zs.take k).foldl sumF 0) W')
    (fun s X Y row hs hg hr => ⟨Nat.le_trans hs.1 hg.size, hIO 0 _ (Nat.le_refl _) () X Y row hs.2 hg hr⟩) (fun k => hIO (k + 1) _ (Nat.le_refl _)) (fun _ _ _ _ _ hs _ _ => hs) (hIO zs.length _ (Nat.le_refl _))
    (fun k a' s X Y row hs hg hr => by
      obtain ⟨b7, h1, h2, h3, h4⟩ := hs
      exact ⟨b7, h1, h2, Own.from (blk_own _ _ (fun _ : Unit => _)) _ () X Y row h3 hg hr, hIO k _ (Nat.le_refl _) () X Y row h4 hg hr⟩)
    ⟨Nat.le_refl _, hI0⟩ IT ?assign ?body ?done ?stop)
  case assign =>
    clear IT
    rintro l k W' K ⟨hk, hI⟩ hK
    obtain ⟨⟨x, y, yz⟩, hx⟩ : ∃ x, zs.getD k dC = x := ⟨_, rfl⟩
    rw [hx] at hK ⊢
    have HK := Lib.hid (fun a' ha' => hK a' (W'.alloc (.cells #[.int .i64 x, .int .u64 y, .int .i64 yz] tC)) (KeepsFrom.of_grownBy (World.grownBy_alloc W' _ none) (fun j e => by cases e)) (fun t _ => KTy.below ((Below.refl _ W').alloc (Nat.le_refl _) _)) ⟨W'.heap.size, ha', hk, Blk.new W' _ _, hI.below ((Below.refl _ W').alloc (Nat.le_refl _) _)⟩)
    clear hK hI
    gi_wp2
    exact HK.out _ rfl
  case body =>
    clear IT hIO
    rintro l k a' W' hl hr ⟨b7, rfl, hk, h7, hI⟩
    have hmem : zs.getD k dC ∈ zs := by rw [List.getD_eq_getElem?_getD, List.getElem?_eq_getElem hk]; exact List.getElem_mem hk
    have hsr := sum_rng (zs.take k) 0 (fun q hq => (haz q (List.mem_of_mem_take hq)).1) (by decide) (by decide)
    have hst := sum_take zs hk
    obtain ⟨m, hm⟩ : ∃ m, (zs.take k).foldl sumF 0 = m := ⟨_, rfl⟩
    obtain ⟨haz1, haz2⟩ := haz _ hmem
    rw [hm] at hI hst hsr
    obtain ⟨⟨x, y, yz⟩, hx⟩ : ∃ x, zs.getD k dC = x := ⟨_, rfl⟩
    rw [hx] at h7 hst haz1 haz2 ⊢
    dsimp only at haz1 haz2 h7
    obtain ⟨hs0, hs1⟩ := hsr
    have m2 := h7.cell (i := 2) rfl
    have c3 := hI.b.cell (i := 0) rfl
    have f3 := hI.b.frozen 0
    have HI := Lib.hid hI
    have HS := Lib.hid hst
    clear hm hx hmem h7 hI hst
    have ht : (0 : Int) ≤ min yz 1099511627776 ∧ min yz 1099511627776 ≤ 1099511627776 := by omega
    gi_wp2_with fail
    refine ⟨(KeepsOthers.setCell _ _ _).from _, fun t ht => KTy.setOther HI.out.b (by rcases ht with rfl | rfl | rfl <;> decide) _, ?_⟩
    rw [HS.out]
    exact HI.out.set _
  case done =>
    clear IT hIO
    rintro D W' hD hI hK
    rw [List.take_length, ← HDL.out] at hI
    have c6 := hI.b.cell (i := 0) rfl
    go_wp2
    refine ⟨by simp, .inl ⟨_, _, rfl, run_takeDeferred hK, ?_⟩⟩
    refine ⟨_, results_tmp rfl _ _ _, rfl, ?_⟩
    exact (HW3.out.grown hI.g HW3.out.size (fun r e => by cases e; have := HN1.out; omega)).trans (belowK_b (w := w3) HW3.out.size W' D _ _ hD hK rfl rfl)
  case stop =>
    rintro D c W' hD hF hK
    exact hF.elim
set_option maxHeartbeats 1000000 in
theorem rose_any (W : World) (v u : Value) (was now : List (List En)) (h : PEE W v was) (k : PEE W u now) (hU : ∀ l ∈ was, UE l) (kU : ∀ l ∈ now, UE l) (hl : was.length ≤ 1000) (kl : now.length ≤ 1000) (hl2 : ∀ l ∈ was, l.length ≤ 1000) (kl2 : ∀ l ∈ now, l.length ≤ 1000) :
    Calls Try.prog 47 #[v, u] W fun e w' => e = .returned (.bool (decide (diffL now was = []))) ∧ Below W.heap.size W w' := by
  have HD := Lib.hid (diff_any W u v now was k h kU hU kl hl kl2 hl2)
  have hdec : decide (((diffL now was).length : Int) = 0) = decide (diffL now was = []) := by
    cases diffL now was with
    | nil => rfl
    | cons a b => simp; omega
  rw [← hdec]
  clear h k
  go_enter Try.func47, Try.ntmps47
  go_wp2_with fail
  refine HD.out.mono ?_; rintro e w1 ⟨o, rfl, ho, hb⟩
  obtain ⟨A, c, rfl⟩ := own_sl ho
  have HB := Lib.hid hb
  clear ho hb
  go_wp2_with fail
  go_ret
  exact ⟨rfl, HB.out⟩
end Go.Proofs.Ytnlhgnioedalpaa.Pri
