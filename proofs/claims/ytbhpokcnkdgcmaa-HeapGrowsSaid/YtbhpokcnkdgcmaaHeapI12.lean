/- heap I: the first ones; all in order. -/
import Derived.Test.YtbhpokcnkdgcmaaHeapI11
set_option linter.unusedSimpArgs false
set_option linter.unusedVariables false
namespace Go.Proofs.Ytbhpokcnkdgcmaa.HeapI
open Go.RowKit Go.Shelf Go.Proofs.Ytbhpokcnkdgcmaa.HeapL
attribute [local go_sem] Oper.semAt_some

theorem infoX : (Try.prog.info? 3).map (fun i => (i.zero, i.size, i.bytes)) = some (some (.int .i64 0), 1, 8) := by kernel_rfl
theorem HM.keptT {W W' : World} {row : Option Nat} {base p : Nat} {bf : Value} {es : List El} {T : Nat} (h : HM W base p bf es T) (hg : W.grownBy W' row) (hr : ∀ r, row = some r → ∃ cs fr, W.heap[r]? = some (.cells cs 3 fr)) : HM W' base p bf es T := by
  obtain ⟨h1, v, h2, h3⟩ := h
  refine ⟨h1, v, h2.kept hg (fun e => ?_), h3.kept hg ?_⟩
  · obtain ⟨cs, fr, hc⟩ := hr p e.symm
    unfold Blk at h2
    rw [h2] at hc
    simp at hc
  · cases hv : v.ownBlock with
    | none => exact .inl rfl
    | some k =>
      refine .inr (fun e => ?_)
      obtain ⟨_, cs, fr, hc⟩ := own_typ h3 k hv
      obtain ⟨cs', fr', hc'⟩ := hr k (by rw [← e])
      rw [hc] at hc'
      simp at hc'
theorem HS.keptT {W W' : World} {row : Option Nat} {base p : Nat} {lt : Int → Int → Bool} {F : Nat} {lb : Array Value} {xs : List Int} {T : Nat} (h : HS W base p lt F lb xs T) (hg : W.grownBy W' row) (hr : ∀ r, row = some r → ∃ cs fr, W.heap[r]? = some (.cells cs 3 fr)) : HS W' base p lt F lb xs T := by
  obtain ⟨es, s, hM, r⟩ := h; exact ⟨es, s, hM.keptT hg hr, r⟩

set_option maxRecDepth 100000 in
set_option maxHeartbeats 4000000 in
theorem firsts_any (lt : Int → Int → Bool) (ho : Ord lt) (W : World) (m : Int) (Fb : Nat) (lbb : Array Value) (G : Nat) (lbs : Array Value) (zs : List Int) (hsm : zs.length < 1099511627776)
    (hBF : ∀ W', Below W.heap.size W W' → BF lt W.heap.size W.heap.size W' Fb lbb) (hG : Gives G lbs W.heap.size W ev zs (0 : Int)) :
    Calls Try.prog 90 #[.int .i64 m, .func (.func Fb) #[] lbb, .func (.func G) #[] lbs] W fun e w' => ∃ v, e = .returned v ∧ w'.ownsRow W.heap.size 3 1 v ((sortV lt zs).take m.toNat).length (cellsOf cv ((sortV lt zs).take m.toNat)) ∧ Below W.heap.size W w' := by
  obtain ⟨i0, hi0, hz0, hz1, hz2'⟩ := info_parts infoX
  have hslen := sortV_length lt zs
  generalize hss : sortV lt zs = ss at *
  have HSS := Lib.hid hss; clear hss
  have hfrom := from_any lt ho W Fb lbb G lbs zs hsm hBF hG
  rw [HSS.out] at hfrom
  have HFR := Lib.hid hfrom; clear hfrom hG
  go_enter Try.func90, Try.ntmps90
  go_wp2_with fail
  refine HFR.out.mono ?_; rintro e w1 ⟨rfl, hS0, hB0⟩
  go_wp2_with fail
  go_loopw [7] (fun v wr => ∃ k : Nat, k ≤ ss.length ∧ k ≤ m.toNat ∧ HS wr W.heap.size W.heap.size lt Fb lbb (ss.drop k) zs.length ∧ wr.ownsRow W.heap.size 3 1 v (ss.take k).length (cellsOf cv (ss.take k)) ∧ Below W.heap.size W wr)
    (fun v _ => ss.length - (match v with | .slice _ n _ => n | _ => 0))
  case atStart => exact ⟨0, Nat.zero_le _, Nat.zero_le _, hS0, World.ownsRow_nil _ _ _ _, hB0⟩
  case round =>
    obtain ⟨k, hk, hkm, hS, hO, hB⟩ := hrel
    have hlk : (ss.take k).length = k := by rw [List.length_take]; omega
    rw [hlk] at hO
    have hv : ∃ a cap, u7 = .slice a k cap := by
      rcases hO.2 with ⟨e, h0⟩ | ⟨g, cap, cur, e, _⟩
      · exact ⟨none, 0, by rw [e, h0]⟩
      · exact ⟨_, cap, e⟩
    obtain ⟨a, cap, rfl⟩ := hv
    have hsz := hB.size
    have HBF := hBF wr hB
    have hKo := Lib.hid (own_typ hO)
    by_cases hin : k < m.toNat
    · have hin2 : (k : Int) < m := by omega
      by_cases hnx : k < ss.length
      · have hdr : ss.drop k = ss[k] :: ss.drop (k + 1) := (List.getElem_cons_drop ..).symm
        obtain ⟨kx, hx⟩ : ∃ x, ss[k] = x := ⟨_, rfl⟩
        rw [hx] at hdr
        rw [hdr] at hS
        have htk : ss.take (k + 1) = ss.take k ++ [kx] := by rw [List.take_succ_eq_append_getElem hnx, hx]
        have hpop := Lib.hid (pop_hs_cons lt ho wr W.heap.size W.heap.size Fb lbb kx (ss.drop (k + 1)) zs.length (by rw [List.length_drop]; omega) hS HBF)
        have HTK := Lib.hid htk
        have hap : (Value.slice a k cap).ownBlock ≠ some W.heap.size := by
          obtain ⟨es0, _, ⟨_, vv, hPb, _⟩⟩ := hS.length
          exact own_apart hPb hO (by decide)
        clear hdr hx htk hS HBF
        go_wp2_with fail
        refine hpop.out.mono ?_; rintro e w2 ⟨rfl, hS2, hF2⟩
        have hO2 := hF2.own hO hap (by decide)
        have hz2 := hF2.size
        unfold ev
        go_wp2_with (at_builtin; refine wpList_append_own _ rfl _ _ 110 rfl W.heap.size 3 i0 _ 1 8 Try.underlying110 hi0 hz0 hz1 hz2' rfl (by decide) _ k _ rfl (hO2.alloc _) ⟨w2.heap.size, 0, none⟩ 1 1 [.int .i64 kx] rfl rfl (news_blk (Blk.new w2 [.int .i64 kx] 3)) (by simp [Value.oneCell']) (by unfold maxLen; omega) (by omega) (by simp; omega) ?_; intro v' w3 hO3 hg3 _; obtain ⟨g', cap', rfl⟩ := ownsRow_succ hO3)
        have hS3 := (hS2.below ((Below.refl _ w2).alloc (Nat.le_refl _) (.cells #[.int .i64 kx] 3))).keptT hg3 (fun r hr => (own_typ (hO2.alloc (.cells #[.int .i64 kx] 3)) r hr).2)
        have hB3 : Below W.heap.size W w3 := ((hB.trans hF2.below).alloc (by omega) _).grown hg3 (by simp; omega) (fun r hr => (own_typ hO2 r hr).1)
        go_wp2_with fail
        go_roundw
        case rel => exact ⟨k + 1, by omega, by omega, hS3, by rw [HTK.out, cellsOf_append, cellsOf_one, List.length_append, hlk]; exact hO3, hB3⟩
        case measure => simp; omega
      · have hkl : k = ss.length := by omega
        have hdr : ss.drop k = [] := List.drop_eq_nil_of_le (by omega)
        rw [hdr] at hS
        have hfin : ss.take m.toNat = ss.take k := by rw [List.take_of_length_le (by omega), List.take_of_length_le (by omega)]
        have HF := Lib.hid hfin; clear hfin hdr
        have hpop := Lib.hid (pop_hs_nil lt wr W.heap.size W.heap.size Fb lbb zs.length hS)
        clear hS HBF hkl
        go_wp2_with fail
        refine hpop.out.mono ?_; rintro e w2 ⟨rfl, hb2⟩
        unfold ev
        go_wp2_with fail
        go_ret
        refine ⟨_, rfl, ?_, ?_⟩
        · rw [HF.out, hlk]
          exact hO.kept (⟨hb2.os, hb2.tape, hb2.output, hb2.size, fun j hj _ => hb2.block j hj⟩ : wr.grownBy w2 none) (by cases a <;> simp [Value.ownBlock])
        · exact hB.trans (hb2.mono hsz)
    · have hge : m ≤ (k : Int) := by omega
      have hfin : m.toNat = k := by omega
      have HF := Lib.hid hfin; clear hfin hin
      go_wp2_with fail
      go_ret
      refine ⟨_, rfl, ?_, hB⟩
      rw [HF.out, hlk]
      exact hO

end Go.Proofs.Ytbhpokcnkdgcmaa.HeapI
