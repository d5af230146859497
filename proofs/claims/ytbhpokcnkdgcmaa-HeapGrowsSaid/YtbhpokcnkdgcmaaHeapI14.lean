/- heap I: all that is drained, collected. -/
import Derived.Test.YtbhpokcnkdgcmaaHeapI13
set_option linter.unusedSimpArgs false
set_option linter.unusedVariables false
namespace Go.Proofs.Ytbhpokcnkdgcmaa.HeapI
open Go.RowKit Go.Shelf Go.Proofs.Ytbhpokcnkdgcmaa.HeapL
attribute [local go_sem] Oper.semAt_some

theorem frc_below0 {hb p : Nat} {T : TypeId} {w0 A B : World} (h : FrC hb p T w0 A) (k : Below w0.heap.size A B) (hs : hb ≤ w0.heap.size) : FrC hb p T w0 B :=
  ⟨h.below.trans (k.mono hs), fun b cs t fr hb' hp ht => (k.block b (Array.getElem?_eq_some_iff.1 hb').1).trans (h.keep b cs t fr hb' hp ht)⟩
theorem frc_own {hb p : Nat} {T : TypeId} {w0 : World} {b : Nat} (hs : hb ≤ w0.heap.size) (hbb : w0.heap.size ≤ b) : OwnFrom b (fun (_ : Unit) W' => FrC hb p T w0 W') := fun s A B row h hg hr =>
  frc_below0 h ⟨hg.os, hg.tape, hg.output, hg.size, fun k hk => hg.block k (Nat.lt_of_lt_of_le hk (by
    rcases Nat.lt_or_ge A.heap.size w0.heap.size with h1 | h1
    · exact absurd h.below.size (by omega)
    · exact h1)) (fun e => by obtain ⟨h1, _⟩ := hr k e.symm; omega)⟩ hs

/-- a station of draining an older heap into a slice -/
def SJ (lt : Int → Int → Bool) (ss : List Int) (w0 : World) (hb p Fb : Nat) (lbb : Array Value) (B Bo T : Nat) (rem xs : List Int) (W' : World) : Prop :=
  (∃ pre, pre ++ rem = ss ∧ Out W' w0.heap.size Bo pre) ∧ HS W' hb p lt Fb lbb xs T ∧ Boxed W' B 104 (.pointer (some ⟨p, 0, none⟩)) ∧ FrC hb p 153 w0 W'
theorem SJ.ownF (lt : Int → Int → Bool) (ss : List Int) (w0 : World) (hb p Fb : Nat) (lbb : Array Value) (B Bo T : Nat) (rem xs : List Int) {b : Nat} (hs : hb ≤ w0.heap.size) (hbb : w0.heap.size ≤ b) : OwnFrom b (fun (_ : Unit) W' => SJ lt ss w0 hb p Fb lbb B Bo T rem xs W') :=
  OwnFrom.and (fun s A B' row hs hg hr => by
    obtain ⟨pre, h1, h2⟩ := hs
    exact ⟨pre, h1, Own.from (Out.ownF _ _ (fun _ : Unit => pre)) b () A B' row h2 hg hr⟩)
    (OwnFrom.and (Own.from (HS.own hb p lt Fb lbb (fun _ => xs) (fun _ => T)) _) (OwnFrom.and (Own.from (boxed_own B _ (fun _ => _)) _) (frc_own hs hbb)))

set_option maxRecDepth 100000 in
set_option maxHeartbeats 4000000 in
theorem appendseq_any (lt : Int → Int → Bool) (ho : Ord lt) (W : World) (hb p Fb B T : Nat) (lbb : Array Value) (ss : List Int) (hsm : ss.length < 1099511627776)
    (hBF : ∀ W', BF lt hb p W' Fb lbb) (hbW : hb ≤ p) (hS0 : HS W hb p lt Fb lbb ss T) (bB0 : Boxed W B 104 (.pointer (some ⟨p, 0, none⟩))) :
    Calls Try.prog 113 #[.slice none 0 0, .func (.func 114) #[] #[.pointer (some ⟨B, 0, none⟩)]] W fun e w' => ∃ v, e = .returned v ∧ w'.ownsRow W.heap.size 3 1 v ss.length (cellsOf cv ss) ∧ HS w' hb p lt Fb lbb [] T ∧ FrC hb p 153 W w' := by
  obtain ⟨i0, hi0, hiz0, hiz1, hiz2⟩ := info_parts infoX
  have bO := Boxed.new W 110 (.slice none 0 0)
  have hpW := hS0.lt'
  have hBa : Below W.heap.size W (W.alloc (.cells #[.slice none 0 0] 110)) := (Below.refl _ W).alloc (Nat.le_refl _) _
  have hbx := bB0.alloc (.cells #[.slice none 0 0] 110)
  have hS2 := hS0.below hBa
  have hF2 : FrC hb p 153 W (W.alloc (.cells #[.slice none 0 0] 110)) := frc_below0 (FrC.refl _ _ _ _) hBa (by omega)
  refine (callsIn_wide (n := 4)).1 ?_
  refine callsIn_of_wp_marks Try.func113 rfl trivial ?_ rfl
  refine wpIn_wide.2 ?_
  simp only [Try.ntmps113, List.size_toArray, List.length_cons, List.length_nil, Nat.reduceAdd, Nat.reduceSub, Array.replicate_succ, Array.replicate_zero, List.push_toArray, List.append_toArray, List.nil_append, List.cons_append]
  go_wp2_with fail
  obtain ⟨W2, hW2⟩ : ∃ W2, W.alloc (.cells #[.slice none 0 0] 110) = W2 := ⟨_, rfl⟩
  have hsz2 : W2.heap.size = W.heap.size + 1 := by rw [← hW2]; simp
  rw [hW2] at bO hbx hS2 hF2 ⊢
  clear hW2 hS0 hBa bB0
  have hSI0 : SJ lt ss W hb p Fb lbb B W.heap.size T ss ss W2 := ⟨⟨[], rfl, _, bO, World.ownsRow_nil _ _ _ _⟩, hS2, hbx, hF2⟩
  have hsO : ∀ rem xs, OwnFrom W2.heap.size (fun (_ : Unit) W' => SJ lt ss W hb p Fb lbb B W.heap.size T rem xs W') := fun rem xs => SJ.ownF _ _ _ _ _ _ _ _ _ _ _ _ (by omega) (by omega)
  have hit := drain_iter lt ho hb p Fb B lbb 3 (fun m xs W' => m = xs.length ∧ SJ lt ss W hb p Fb lbb B W.heap.size T xs xs W')
    (fun g W' => g.1 = g.2.2.length + 1 ∧ SJ lt ss W hb p Fb lbb B W.heap.size T (g.2.1 :: g.2.2) g.2.2 W')
    (fun W' => Out W' W.heap.size W.heap.size ss ∧ HS W' hb p lt Fb lbb [] T ∧ FrC hb p 153 W W')
    (fun m xs W' h => ⟨⟨_, h.2.2.1⟩, hBF _, by
      obtain ⟨pre, e, _⟩ := h.2.1
      have := congrArg List.length e
      rw [List.length_append] at this
      omega, h.2.2.2.1⟩)
    (fun m x xs W' W'' h hf hs => ⟨by rw [h.1]; rfl, by
      obtain ⟨_, ⟨pre, e, hO⟩, hS, hb, hB⟩ := h
      obtain ⟨es0, _, ⟨_, vv, hPb, _⟩⟩ := hS.length
      refine ⟨⟨pre, e, hO.fr hf hPb (by decide) (by decide) (by decide) (by decide)⟩, hs _ hS, hf.boxed hb (fun e => ?_) (by decide), hB.trans hf.c⟩
      subst e
      unfold Boxed at hb
      unfold Blk at hPb
      rw [hb] at hPb
      simp at hPb⟩)
    (fun m W' W'' h hb => by
      obtain ⟨_, ⟨pre, e, hO⟩, hS, hbx, hB⟩ := h
      rw [List.append_nil] at e
      rw [← e]
      exact ⟨hO.below hb, hS.below hb, frc_below0 hB (hb.mono hB.below.size) (by omega)⟩)
  refine wpIn_wide.1 (range_gen (F := Fence.wide) (n := 4) rfl (by omega) (gf := 114) (lb := #[.pointer (some ⟨B, 0, none⟩)]) rfl trivial (enters_of Try.func114 (by kernel_rfl) rfl) (encs := fun g : Gh => #[ev g.2.1]) (fun _ => rfl)
    (fun W' => ∃ m xs, m = xs.length ∧ SJ lt ss W hb p Fb lbb B W.heap.size T xs xs W')
    (fun g W' => g.1 = g.2.2.length + 1 ∧ SJ lt ss W hb p Fb lbb B W.heap.size T (g.2.1 :: g.2.2) g.2.2 W')
    (fun g W' => ∃ m' xs', m' < g.1 ∧ m' = xs'.length ∧ SJ lt ss W hb p Fb lbb B W.heap.size T xs' xs' W')
    (fun _ _ => False)
    (fun W' => Out W' W.heap.size W.heap.size ss ∧ HS W' hb p lt Fb lbb [] T ∧ FrC hb p 153 W W')
    (fun g a' W' => a' = { tmps := #[.slice none 0 0, .func (.func 114) #[] #[.pointer (some ⟨B, 0, none⟩)], .pointer (some ⟨W.heap.size, 0, none⟩), undef, .slice none 0 0, ev g.2.1, .func (.func 114) #[] #[.pointer (some ⟨B, 0, none⟩)], ev g.2.1, undef, undef, undef, undef, undef], defers := [] } ∧ g.1 = g.2.2.length + 1 ∧ SJ lt ss W hb p Fb lbb B W.heap.size T (g.2.1 :: g.2.2) g.2.2 W')
    (fun s A A' row hs hg hr => by obtain ⟨m, xs, e, h⟩ := hs; exact ⟨m, xs, e, hsO _ _ () A A' row h hg hr⟩)
    (fun g s A A' row hs hg hr => by obtain ⟨m, xs, e, e2, h⟩ := hs; exact ⟨m, xs, e, e2, hsO _ _ () A A' row h hg hr⟩)
    (fun _ _ _ _ _ hs _ _ => hs)
    (OwnFrom.and (Own.from (Out.ownF _ _ (fun _ => ss)) _) (OwnFrom.and (Own.from (HS.own hb p lt Fb lbb (fun _ => []) (fun _ => T)) _) (frc_own (by omega) (by omega))))
    (fun g a' => OwnFrom.and (fun _ _ _ _ hs _ _ => hs) (OwnFrom.and (fun _ _ _ _ hs _ _ => hs) (hsO _ _)))
    ⟨_, ss, rfl, hSI0⟩ hit ?assign ?body ?done ?stop)
  case assign =>
    rintro l ⟨m, x, xs⟩ W' K ⟨hm, hSI⟩ hK
    obtain ⟨kx, rfl⟩ : ∃ y, y = x := ⟨_, rfl⟩
    dsimp only [ev] at hK hm hSI ⊢
    gi_wp2
    exact hK _ _ (KeepsFrom.refl _ _) ⟨rfl, hm, hSI⟩
  case body =>
    rintro l ⟨m, x, xs⟩ a' W' hl hr ⟨ha, hm, hSI⟩
    obtain ⟨kx, rfl⟩ : ∃ y, y = x := ⟨_, rfl⟩
    dsimp only [ev] at ha hm hSI ⊢
    obtain ⟨⟨pre, epre, v, hv, hrow⟩, hS, hb, hB⟩ := hSI
    have hlen := congrArg List.length epre
    rw [List.length_append, List.length_cons] at hlen
    have hc := hv.cell
    have EP := Lib.hid epre; clear epre
    subst ha
    gi_wp2_with (gi_at_builtin; refine wpListIn_append_own _ rfl _ _ 110 rfl W.heap.size 3 i0 _ 1 8 Try.underlying110 hi0 hiz0 hiz1 hiz2 rfl (by decide) _ _ _ rfl (hrow.alloc _) ⟨W'.heap.size, 0, none⟩ 1 1 [.int .i64 kx] rfl rfl (news_blk (Blk.new W' [.int .i64 kx] 3)) (by simp [Value.oneCell']) (by unfold maxLen; omega) (by omega) (by have := hB.below.size; simp; omega) ?_; intro v' w3 hown' hgrow _; obtain ⟨g', cap', rfl⟩ := ownsRow_succ hown'; obtain ⟨hv1, hv2, hr2, hk2, hb2⟩ := hv.appended (by decide) hrow hB.below.size (Nat.le_refl _) hown' hgrow; have hc1 := hv1.cell; have hf1 := hv1.frozen)
    refine ⟨hk2.from _, xs.length, xs, by omega, rfl, ⟨pre ++ [kx], by rw [List.append_assoc]; exact EP.out, _, hv2, ?_⟩, ?_, ?_, frc_below0 hB hb2 (by omega)⟩
    · rw [List.length_append, cellsOf_append, cellsOf_one]
      exact hr2
    · exact HS.setOther (HS.keptT (hS.below ((Below.refl _ W').alloc (Nat.le_refl _) (.cells #[.int .i64 kx] 3))) hgrow (fun r hr => (own_typ (hrow.alloc (.cells #[.int .i64 kx] 3)) r hr).2)) hv1 (by decide) (by decide) _
    · exact ((hb.alloc _).kept hgrow (hb.not_row (by decide) hrow)).other (fun e => by subst e; unfold Boxed at hb hv; rw [hb] at hv; simp at hv) _
  case done =>
    rintro D W' hD ⟨⟨v, hv, hrow⟩, hSf, hB⟩ hK
    have hc := hv.cell
    go_wp2
    refine ⟨by simp, .inl ⟨_, _, rfl, run_takeDeferred hK, ?_⟩⟩
    refine ⟨_, results_tmp rfl _ _ _, v, rfl, ?_, hSf.own' hK rfl, frc_below0 hB (belowK_b (w := W2) (by omega) W' D _ _ hD hK rfl rfl) (by omega)⟩
    exact ownsRow_putObj hrow _ hK rfl
  case stop =>
    rintro D c W' hD h hK
    exact h.elim

set_option maxHeartbeats 400000 in
theorem collect_any (lt : Int → Int → Bool) (ho : Ord lt) (W : World) (hb p Fb B T : Nat) (lbb : Array Value) (ss : List Int) (hsm : ss.length < 1099511627776)
    (hBF : ∀ W', BF lt hb p W' Fb lbb) (hbW : hb ≤ p) (hS0 : HS W hb p lt Fb lbb ss T) (bB0 : Boxed W B 104 (.pointer (some ⟨p, 0, none⟩))) :
    Calls Try.prog 82 #[.func (.func 114) #[] #[.pointer (some ⟨B, 0, none⟩)]] W fun e w' => ∃ v, e = .returned v ∧ w'.ownsRow W.heap.size 3 1 v ss.length (cellsOf cv ss) ∧ HS w' hb p lt Fb lbb [] T ∧ FrC hb p 153 W w' := by
  have h := Lib.hid (appendseq_any lt ho W hb p Fb B T lbb ss hsm hBF hbW hS0 bB0)
  clear hS0 bB0
  go_enter Try.func82, Try.ntmps82
  go_wp2_with fail
  refine h.out.mono ?_; rintro e w1 ⟨v, rfl, h1, h2, h3⟩
  go_wp2_with fail
  go_ret
  exact ⟨_, rfl, h1, h2, h3⟩

end Go.Proofs.Ytbhpokcnkdgcmaa.HeapI
