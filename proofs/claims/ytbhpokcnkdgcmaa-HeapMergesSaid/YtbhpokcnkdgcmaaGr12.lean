/- HeapI13, HeapI14, HeapI15, laid together. -/
import Derived.Test.YtbhpokcnkdgcmaaGr11
import Derived.Maps.AppendAt

/- heap I: all in order, as a slice. -/
set_option linter.unusedSimpArgs false
set_option linter.unusedVariables false
namespace Go.Proofs.Ytbhpokcnkdgcmaa.HeapI
open Go.RowKit Go.Shelf Go.Proofs.Ytbhpokcnkdgcmaa.HeapL
attribute [local go_sem] Oper.semAt_some

/-- a boxed slice variable that holds xs, in memory of the call's own -/
def Out (W : World) (base Bo : Nat) (xs : List Int) : Prop := ∃ v, Boxed W Bo 110 v ∧ W.ownsRow base 3 1 v xs.length (cellsOf cv xs)
theorem Out.ownF (base Bo : Nat) {β : Type} (xs : β → List Int) : Own (fun (s : β) W => Out W base Bo (xs s)) := fun s A B row hs hg hr => by
  obtain ⟨v, hb, ho⟩ := hs
  refine ⟨v, boxed_own Bo _ (fun _ : Unit => v) () A B row hb hg hr, ho.kept hg ?_⟩
  cases hv : v.ownBlock with
  | none => exact .inl rfl
  | some k =>
    refine .inr (fun e => ?_)
    obtain ⟨_, cs, fr, hc⟩ := own_typ ho k hv
    obtain ⟨o, ho', hcc⟩ := hr k (by rw [← e])
    rw [hc] at ho'
    cases ho'
    simp [Obj.isCells] at hcc
theorem Out.fr {W W' : World} {base Bo b0 p : Nat} {T : TypeId} {xs : List Int} {tp : TypeId} {lp : List Value} (h : Out W base Bo xs) (hf : Fr b0 p T W W') (hp : Blk W p tp lp) (h1 : tp ≠ 110) (h2 : tp ≠ 3) (h3 : 110 ≠ T) (h4 : 3 ≠ T) : Out W' base Bo xs := by
  obtain ⟨v, hb, ho⟩ := h
  refine ⟨v, hf.boxed hb (fun e => ?_) h3, hf.own ho (own_apart hp ho h2) h4⟩
  subst e
  unfold Boxed at hb
  unfold Blk at hp
  rw [hb] at hp
  simp at hp
  exact h1 hp.2.symm
theorem Out.below {W W' : World} {base Bo : Nat} {xs : List Int} (h : Out W base Bo xs) (hb : Below W.heap.size W W') : Out W' base Bo xs := by
  obtain ⟨v, h1, h2⟩ := h
  exact ⟨v, h1.kept (⟨hb.os, hb.tape, hb.output, hb.size, fun j hj _ => hb.block j hj⟩ : W.grownBy W' none) (by simp), h2.kept (⟨hb.os, hb.tape, hb.output, hb.size, fun j hj _ => hb.block j hj⟩ : W.grownBy W' none) (by cases v.ownBlock <;> simp)⟩

/-- a station of draining into a slice -/
def SI (lt : Int → Int → Bool) (ss : List Int) (w0 : World) (hb p Fb : Nat) (lbb : Array Value) (B Bo T : Nat) (rem xs : List Int) (W' : World) : Prop :=
  (∃ pre, pre ++ rem = ss ∧ Out W' w0.heap.size Bo pre) ∧ HS W' hb p lt Fb lbb xs T ∧ Boxed W' B 104 (.pointer (some ⟨p, 0, none⟩)) ∧ Below w0.heap.size w0 W'
theorem SI.ownF (lt : Int → Int → Bool) (ss : List Int) (w0 : World) (hb p Fb : Nat) (lbb : Array Value) (B Bo T : Nat) (rem xs : List Int) {b : Nat} (hbb : w0.heap.size ≤ b) : OwnFrom b (fun (_ : Unit) W' => SI lt ss w0 hb p Fb lbb B Bo T rem xs W') :=
  OwnFrom.and (fun s A B' row hs hg hr => by
    obtain ⟨pre, h1, h2⟩ := hs
    exact ⟨pre, h1, Own.from (Out.ownF _ _ (fun _ : Unit => pre)) b () A B' row h2 hg hr⟩)
    (OwnFrom.and (Own.from (HS.own hb p lt Fb lbb (fun _ => xs) (fun _ => T)) _) (OwnFrom.and (Own.from (boxed_own B _ (fun _ => _)) _) (ownFrom_below (Nat.le_refl _) hbb)))

theorem SI.below {lt : Int → Int → Bool} {ss : List Int} {w0 : World} {hb p Fb : Nat} {lbb : Array Value} {B Bo T : Nat} {rem xs : List Int} {W W' : World} (h : SI lt ss w0 hb p Fb lbb B Bo T rem xs W) (hbl : Below W.heap.size W W') : SI lt ss w0 hb p Fb lbb B Bo T rem xs W' := by
  obtain ⟨⟨pre, e, hO⟩, hS, hb, hB⟩ := h
  exact ⟨⟨pre, e, hO.below hbl⟩, hS.below hbl, hb.kept (⟨hbl.os, hbl.tape, hbl.output, hbl.size, fun j hj _ => hbl.block j hj⟩ : W.grownBy W' none) (by simp), hB.trans (hbl.mono hB.size)⟩
theorem boxed_typ {W : World} {b : Nat} {t t' : TypeId} {v : Value} {cs : Array Value} {fr : Nat × Nat} (hb : Boxed W b t v) (hk : W.heap[b]? = some (.cells cs t' fr)) : t = t' := by
  unfold Boxed at hb
  rw [hb] at hk
  simp at hk
  exact hk.2.1
theorem HS.setOther {W : World} {base p : Nat} {lt : Int → Int → Bool} {F : Nat} {lb : Array Value} {xs : List Int} {T : Nat} (h : HS W base p lt F lb xs T) {Bo : Nat} {t : TypeId} {v : Value} (hb : Boxed W Bo t v) (h1 : t ≠ 151) (h2 : t ≠ 153) (u : Value) : HS (W.setCell ⟨Bo, 0, none⟩ u) base p lt F lb xs T := by
  obtain ⟨es, s, ⟨k1, v', k2, k3⟩, r⟩ := h
  refine ⟨es, s, ⟨k1, v', k2.other (fun e => ?_) _, own_setCell k3 (fun e => ?_) 0 _⟩, r⟩
  · have e' : p = Bo := e
    subst e'
    exact h1 (boxed_typ hb k2)
  · obtain ⟨_, cs, fr, hc⟩ := own_typ k3 Bo e
    exact h2 (boxed_typ hb hc)

set_option maxRecDepth 100000 in
set_option maxHeartbeats 4000000 in
theorem sorted_any (lt : Int → Int → Bool) (ho : Ord lt) (W : World) (Fb : Nat) (lbb : Array Value) (G : Nat) (lbs : Array Value) (zs : List Int) (hsm : zs.length < 1099511627776)
    (hBF : ∀ b p W', b ≤ p → Below W.heap.size W W' → W.heap.size ≤ b → BF lt b p W' Fb lbb) (hG : Gives G lbs W.heap.size W ev zs (0 : Int)) :
    Calls Try.prog 88 #[.func (.func Fb) #[] lbb, .func (.func G) #[] lbs] W fun e w' => ∃ v, e = .returned v ∧ w'.ownsRow W.heap.size 3 1 v (sortV lt zs).length (cellsOf cv (sortV lt zs)) ∧ Below W.heap.size W w' := by
  obtain ⟨i0, hi0, hiz0, hiz1, hiz2⟩ := info_parts infoX
  have hslen := sortV_length lt zs
  have hBa : Below W.heap.size W (W.alloc (.cells #[.slice none 0 0] 110)) := (Below.refl _ W).alloc (Nat.le_refl _) _
  have hfrom := from_any lt ho (W.alloc (.cells #[.slice none 0 0] 110)) Fb lbb G lbs zs hsm (fun W' h => hBF _ _ _ (Nat.le_refl _) (hBa.trans (h.mono (by simp))) (by simp))
    ⟨hG.1, fun n Inv h1 h2 => hG.2 n Inv (fun k W' hk => hBa.trans ((h1 k W' hk).mono (by simp))) h2⟩
  generalize hss : sortV lt zs = ss at *
  have HSS := Lib.hid hss; clear hss
  have HFR := Lib.hid hfrom; clear hfrom hG
  have bO := Boxed.new W 110 (.slice none 0 0)
  refine (callsIn_wide (n := 4)).1 ?_
  refine callsIn_of_wp_marks Try.func88 rfl trivial ?_ rfl
  refine wpIn_wide.2 ?_
  simp only [Try.ntmps88, List.size_toArray, List.length_cons, List.length_nil, Nat.reduceAdd, Nat.reduceSub, Array.replicate_succ, Array.replicate_zero, List.push_toArray, List.append_toArray, List.nil_append, List.cons_append]
  go_wp2_with fail
  refine HFR.out.mono ?_; rintro e w1 ⟨rfl, hS0, hB1⟩
  go_wp2_with fail
  refine (drain_any w1 _).mono ?_; rintro e w2 ⟨rfl, rfl⟩
  go_wp2_with fail
  have hz1 := hB1.size
  rw [World.size_alloc] at hz1
  have hBw1 : Below W.heap.size W w1 := hBa.trans (hB1.mono (by simp))
  have hB2 : Below W.heap.size W (w1.alloc (.cells #[.pointer (some ⟨W.heap.size + 1, 0, none⟩)] 104)) := hBw1.alloc (by omega) _
  have bB := Boxed.new w1 104 (.pointer (some ⟨W.heap.size + 1, 0, none⟩))
  have hS2 := hS0.below ((Below.refl _ w1).alloc (Nat.le_refl _) (.cells #[.pointer (some ⟨W.heap.size + 1, 0, none⟩)] 104))
  have bO2 : Boxed (w1.alloc (.cells #[.pointer (some ⟨W.heap.size + 1, 0, none⟩)] 104)) W.heap.size 110 (.slice none 0 0) := (show Boxed w1 W.heap.size 110 (.slice none 0 0) from (hB1.block W.heap.size (by simp)).trans bO).alloc _
  rw [World.size_alloc] at hS2
  obtain ⟨W2, hW2⟩ : ∃ W2, w1.alloc (.cells #[.pointer (some ⟨W.heap.size + 1, 0, none⟩)] 104) = W2 := ⟨_, rfl⟩
  have hsz2 : W2.heap.size = w1.heap.size + 1 := by rw [← hW2]; simp
  rw [hW2] at hB2 bB hS2 bO2 ⊢
  clear hW2 hS0
  obtain ⟨B, hBq⟩ : ∃ B, w1.heap.size = B := ⟨_, rfl⟩
  rw [hBq] at bB hsz2 hz1 ⊢
  have hSI0 : SI lt ss W (W.heap.size + 1) (W.heap.size + 1) Fb lbb B W.heap.size zs.length ss ss W2 := ⟨⟨[], rfl, _, bO2, World.ownsRow_nil _ _ _ _⟩, hS2, bB, hB2⟩
  have hsO : ∀ rem xs, OwnFrom W2.heap.size (fun (_ : Unit) W' => SI lt ss W (W.heap.size + 1) (W.heap.size + 1) Fb lbb B W.heap.size zs.length rem xs W') := fun rem xs => SI.ownF _ _ _ _ _ _ _ _ _ _ _ _ (by omega)
  have hit := drain_iter lt ho (W.heap.size + 1) (W.heap.size + 1) Fb B lbb 3 (fun m xs W' => m = xs.length ∧ SI lt ss W (W.heap.size + 1) (W.heap.size + 1) Fb lbb B W.heap.size zs.length xs xs W')
    (fun g W' => g.1 = g.2.2.length + 1 ∧ SI lt ss W (W.heap.size + 1) (W.heap.size + 1) Fb lbb B W.heap.size zs.length (g.2.1 :: g.2.2) g.2.2 W')
    (fun W' => Out W' W.heap.size W.heap.size ss ∧ Below W.heap.size W W')
    (fun m xs W' h => ⟨⟨_, h.2.2.1⟩, hBF _ _ _ (Nat.le_refl _) h.2.2.2.2 (by omega), by
      obtain ⟨pre, e, _⟩ := h.2.1
      have := congrArg List.length e
      rw [List.length_append] at this
      omega, h.2.2.2.1⟩)
    (fun m x xs W' W'' h hf hs => ⟨by rw [h.1]; rfl, by
      obtain ⟨_, ⟨pre, e, hO⟩, hS, hb, hB⟩ := h
      obtain ⟨es0, _, ⟨_, vv, hPb, _⟩⟩ := hS.length
      refine ⟨⟨pre, e, hO.fr hf hPb (by decide) (by decide) (by decide) (by decide)⟩, hs _ hS, hf.boxed hb (fun e => ?_) (by decide), hB.trans (hf.below.mono (by omega))⟩
      subst e
      unfold Boxed at hb
      unfold Blk at hPb
      rw [hb] at hPb
      simp at hPb⟩)
    (fun m W' W'' h hb => by
      obtain ⟨_, ⟨pre, e, hO⟩, hS, hbx, hB⟩ := h
      rw [List.append_nil] at e
      rw [← e]
      exact ⟨hO.below hb, hB.trans (hb.mono hB.size)⟩)
  refine wpIn_wide.1 (range_gen (F := Fence.wide) (n := 4) rfl (by omega) (gf := 114) (lb := #[.pointer (some ⟨B, 0, none⟩)]) rfl trivial (enters_of Try.func114 (by kernel_rfl) rfl) (encs := fun g : Gh => #[ev g.2.1]) (fun _ => rfl)
    (fun W' => ∃ m xs, m = xs.length ∧ SI lt ss W (W.heap.size + 1) (W.heap.size + 1) Fb lbb B W.heap.size zs.length xs xs W')
    (fun g W' => g.1 = g.2.2.length + 1 ∧ SI lt ss W (W.heap.size + 1) (W.heap.size + 1) Fb lbb B W.heap.size zs.length (g.2.1 :: g.2.2) g.2.2 W')
    (fun g W' => ∃ m' xs', m' < g.1 ∧ m' = xs'.length ∧ SI lt ss W (W.heap.size + 1) (W.heap.size + 1) Fb lbb B W.heap.size zs.length xs' xs' W')
    (fun _ _ => False)
    (fun W' => Out W' W.heap.size W.heap.size ss ∧ Below W.heap.size W W')
    (fun g a' W' => (a' = { tmps := #[.func (.func Fb) #[] lbb, .func (.func G) #[] lbs, undef, undef, .slice none 0 0, .pointer (some ⟨W.heap.size, 0, none⟩), ev g.2.1, .func (.func Fb) #[] lbb, .func (.func G) #[] lbs, .pointer (some ⟨W.heap.size + 1, 0, none⟩), .func (.func 114) #[] #[.pointer (some ⟨B, 0, none⟩)], ev g.2.1, undef, undef, undef, undef, undef], defers := [] }) ∧ g.1 = g.2.2.length + 1 ∧ SI lt ss W (W.heap.size + 1) (W.heap.size + 1) Fb lbb B W.heap.size zs.length (g.2.1 :: g.2.2) g.2.2 W')
    (fun s A A' row hs hg hr => by obtain ⟨m, xs, e, h⟩ := hs; exact ⟨m, xs, e, hsO _ _ () A A' row h hg hr⟩)
    (fun g s A A' row hs hg hr => by obtain ⟨m, xs, e, e2, h⟩ := hs; exact ⟨m, xs, e, e2, hsO _ _ () A A' row h hg hr⟩)
    (fun _ _ _ _ _ hs _ _ => hs)
    (OwnFrom.and (Own.from (Out.ownF _ _ (fun _ => ss)) _) (ownFrom_below (Nat.le_refl _) (by omega)))
    (fun g a' => OwnFrom.and (fun _ _ _ _ hs _ _ => hs) (OwnFrom.and (fun _ _ _ _ hs _ _ => hs) (hsO _ _)))
    ⟨_, ss, rfl, hSI0⟩ hit ?assign ?body ?done ?stop)
  case assign =>
    rintro l ⟨m, x, xs⟩ W' K ⟨hm, hSI⟩ hK
    obtain ⟨kx, rfl⟩ : ∃ y, y = x := ⟨_, rfl⟩
    dsimp only [ev] at hK hm hSI ⊢
    gi_wp2
    exact hK _ _ (KeepsFrom.refl _ _) ⟨rfl, hm, hSI⟩
  case body =>
    rintro l ⟨m, x, xs⟩ a' W' hl hr ⟨ha, hm, hSI⟩
    obtain ⟨kx, rfl⟩ : ∃ y, y = x := ⟨_, rfl⟩
    dsimp only [ev] at ha hm hSI ⊢
    obtain ⟨⟨pre, epre, v, hv, hrow⟩, hS, hb, hB⟩ := hSI
    have hlen := congrArg List.length epre
    rw [List.length_append, List.length_cons] at hlen
    have hc := hv.cell
    have EP := Lib.hid epre; clear epre
    subst ha
    gi_wp2_with (gi_at_builtin; refine wpListIn_append_own _ rfl _ _ 110 rfl W.heap.size 3 i0 _ 1 8 Try.underlying110 hi0 hiz0 hiz1 hiz2 rfl (by decide) _ _ _ rfl (hrow.alloc _) ⟨W'.heap.size, 0, none⟩ 1 1 [.int .i64 kx] rfl rfl (news_blk (Blk.new W' [.int .i64 kx] 3)) (by simp [Value.oneCell']) (by unfold maxLen; omega) (by omega) (by have := hB.size; simp; omega) ?_; intro v' w3 hown' hgrow _; obtain ⟨g', cap', rfl⟩ := ownsRow_succ hown'; obtain ⟨hv1, hv2, hr2, hk2, hb2⟩ := hv.appended (by decide) hrow hB.size (Nat.le_refl _) hown' hgrow; have hc1 := hv1.cell; have hf1 := hv1.frozen)
    refine ⟨hk2.from _, xs.length, xs, by omega, rfl, ⟨pre ++ [kx], by rw [List.append_assoc]; exact EP.out, _, hv2, ?_⟩, ?_, ?_, hB.trans hb2⟩
    · rw [List.length_append, cellsOf_append, cellsOf_one]
      exact hr2
    · exact HS.setOther (HS.keptT (hS.below ((Below.refl _ W').alloc (Nat.le_refl _) (.cells #[.int .i64 kx] 3))) hgrow (fun r hr => (own_typ (hrow.alloc (.cells #[.int .i64 kx] 3)) r hr).2)) hv1 (by decide) (by decide) _
    · exact ((hb.alloc _).kept hgrow (hb.not_row (by decide) hrow)).other (fun e => by subst e; unfold Boxed at hb hv; rw [hb] at hv; simp at hv) _
  case done =>
    rintro D W' hD ⟨⟨v, hv, hrow⟩, hB⟩ hK
    have hc := hv.cell
    go_wp2
    refine ⟨by simp, .inl ⟨_, _, rfl, run_takeDeferred hK, ?_⟩⟩
    refine ⟨_, results_tmp rfl _ _ _, v, rfl, ?_, hB.trans (belowK_b (w := W2) (by omega) W' D _ _ hD hK rfl rfl)⟩
    exact ownsRow_putObj hrow _ hK rfl
  case stop =>
    rintro D c W' hD h hK
    exact h.elim

end Go.Proofs.Ytbhpokcnkdgcmaa.HeapI

/- heap I: a station of draining an older heap. -/
set_option linter.unusedSimpArgs false
set_option linter.unusedVariables false
namespace Go.Proofs.Ytbhpokcnkdgcmaa.HeapI
open Go.RowKit Go.Shelf Go.Proofs.Ytbhpokcnkdgcmaa.HeapL
attribute [local go_sem] Oper.semAt_some

theorem frc_below0 {hb p : Nat} {T : TypeId} {w0 A B : World} (h : FrC hb p T w0 A) (k : Below w0.heap.size A B) (hs : hb ≤ w0.heap.size) : FrC hb p T w0 B :=
  ⟨h.below.trans (k.mono hs), fun b cs t fr hb' hp ht => (k.block b (Array.getElem?_eq_some_iff.1 hb').1).trans (h.keep b cs t fr hb' hp ht)⟩
theorem frc_own {hb p : Nat} {T : TypeId} {w0 : World} {b : Nat} (hs : hb ≤ w0.heap.size) (hbb : w0.heap.size ≤ b) : OwnFrom b (fun (_ : Unit) W' => FrC hb p T w0 W') := fun s A B row h hg hr =>
  frc_below0 h ⟨hg.os, hg.tape, hg.output, hg.size, fun k hk => hg.block k (Nat.lt_of_lt_of_le hk (by
    rcases Nat.lt_or_ge A.heap.size w0.heap.size with h1 | h1
    · exact absurd h.below.size (by omega)
    · exact h1)) (fun e => by obtain ⟨h1, _⟩ := hr k e.symm; omega)⟩ hs

/-- a station of draining an older heap into a slice -/
def SJ (lt : Int → Int → Bool) (ss : List Int) (w0 : World) (hb p Fb : Nat) (lbb : Array Value) (B Bo T : Nat) (rem xs : List Int) (W' : World) : Prop :=
  (∃ pre, pre ++ rem = ss ∧ Out W' w0.heap.size Bo pre) ∧ HS W' hb p lt Fb lbb xs T ∧ Boxed W' B 104 (.pointer (some ⟨p, 0, none⟩)) ∧ FrC hb p 153 w0 W'
theorem SJ.ownF (lt : Int → Int → Bool) (ss : List Int) (w0 : World) (hb p Fb : Nat) (lbb : Array Value) (B Bo T : Nat) (rem xs : List Int) {b : Nat} (hs : hb ≤ w0.heap.size) (hbb : w0.heap.size ≤ b) : OwnFrom b (fun (_ : Unit) W' => SJ lt ss w0 hb p Fb lbb B Bo T rem xs W') :=
  OwnFrom.and (fun s A B' row hs hg hr => by
    obtain ⟨pre, h1, h2⟩ := hs
    exact ⟨pre, h1, Own.from (Out.ownF _ _ (fun _ : Unit => pre)) b () A B' row h2 hg hr⟩)
    (OwnFrom.and (Own.from (HS.own hb p lt Fb lbb (fun _ => xs) (fun _ => T)) _) (OwnFrom.and (Own.from (boxed_own B _ (fun _ => _)) _) (frc_own hs hbb)))

end Go.Proofs.Ytbhpokcnkdgcmaa.HeapI

/- heap I: all that is drained, collected. -/
set_option linter.unusedSimpArgs false
set_option linter.unusedVariables false
namespace Go.Proofs.Ytbhpokcnkdgcmaa.HeapI
open Go.RowKit Go.Shelf Go.Proofs.Ytbhpokcnkdgcmaa.HeapL
attribute [local go_sem] Oper.semAt_some

set_option maxRecDepth 100000 in
set_option maxHeartbeats 4000000 in
theorem appendseq_any (lt : Int → Int → Bool) (ho : Ord lt) (W : World) (hb p Fb B T : Nat) (lbb : Array Value) (ss : List Int) (hsm : ss.length < 1099511627776)
    (hBF : ∀ W', BF lt hb p W' Fb lbb) (hbW : hb ≤ p) (hS0 : HS W hb p lt Fb lbb ss T) (bB0 : Boxed W B 104 (.pointer (some ⟨p, 0, none⟩))) :
    Calls Try.prog 113 #[.slice none 0 0, .func (.func 114) #[] #[.pointer (some ⟨B, 0, none⟩)]] W fun e w' => ∃ v, e = .returned v ∧ w'.ownsRow W.heap.size 3 1 v ss.length (cellsOf cv ss) ∧ HS w' hb p lt Fb lbb [] T ∧ FrC hb p 153 W w' := by
  obtain ⟨i0, hi0, hiz0, hiz1, hiz2⟩ := info_parts infoX
  have bO := Boxed.new W 110 (.slice none 0 0)
  have hpW := hS0.lt'
  have hBa : Below W.heap.size W (W.alloc (.cells #[.slice none 0 0] 110)) := (Below.refl _ W).alloc (Nat.le_refl _) _
  have hbx := bB0.alloc (.cells #[.slice none 0 0] 110)
  have hS2 := hS0.below hBa
  have hF2 : FrC hb p 153 W (W.alloc (.cells #[.slice none 0 0] 110)) := frc_below0 (FrC.refl _ _ _ _) hBa (by omega)
  refine (callsIn_wide (n := 4)).1 ?_
  refine callsIn_of_wp_marks Try.func113 rfl trivial ?_ rfl
  refine wpIn_wide.2 ?_
  simp only [Try.ntmps113, List.size_toArray, List.length_cons, List.length_nil, Nat.reduceAdd, Nat.reduceSub, Array.replicate_succ, Array.replicate_zero, List.push_toArray, List.append_toArray, List.nil_append, List.cons_append]
  go_wp2_with fail
  obtain ⟨W2, hW2⟩ : ∃ W2, W.alloc (.cells #[.slice none 0 0] 110) = W2 := ⟨_, rfl⟩
  have hsz2 : W2.heap.size = W.heap.size + 1 := by rw [← hW2]; simp
  rw [hW2] at bO hbx hS2 hF2 ⊢
  clear hW2 hS0 hBa bB0
  have hSI0 : SJ lt ss W hb p Fb lbb B W.heap.size T ss ss W2 := ⟨⟨[], rfl, _, bO, World.ownsRow_nil _ _ _ _⟩, hS2, hbx, hF2⟩
  have hsO : ∀ rem xs, OwnFrom W2.heap.size (fun (_ : Unit) W' => SJ lt ss W hb p Fb lbb B W.heap.size T rem xs W') := fun rem xs => SJ.ownF _ _ _ _ _ _ _ _ _ _ _ _ (by omega) (by omega)
  have hit := drain_iter lt ho hb p Fb B lbb 3 (fun m xs W' => m = xs.length ∧ SJ lt ss W hb p Fb lbb B W.heap.size T xs xs W')
    (fun g W' => g.1 = g.2.2.length + 1 ∧ SJ lt ss W hb p Fb lbb B W.heap.size T (g.2.1 :: g.2.2) g.2.2 W')
    (fun W' => Out W' W.heap.size W.heap.size ss ∧ HS W' hb p lt Fb lbb [] T ∧ FrC hb p 153 W W')
    (fun m xs W' h => ⟨⟨_, h.2.2.1⟩, hBF _, by
      obtain ⟨pre, e, _⟩ := h.2.1
      have := congrArg List.length e
      rw [List.length_append] at this
      omega, h.2.2.2.1⟩)
    (fun m x xs W' W'' h hf hs => ⟨by rw [h.1]; rfl, by
      obtain ⟨_, ⟨pre, e, hO⟩, hS, hb, hB⟩ := h
      obtain ⟨es0, _, ⟨_, vv, hPb, _⟩⟩ := hS.length
      refine ⟨⟨pre, e, hO.fr hf hPb (by decide) (by decide) (by decide) (by decide)⟩, hs _ hS, hf.boxed hb (fun e => ?_) (by decide), hB.trans hf.c⟩
      subst e
      unfold Boxed at hb
      unfold Blk at hPb
      rw [hb] at hPb
      simp at hPb⟩)
    (fun m W' W'' h hb => by
      obtain ⟨_, ⟨pre, e, hO⟩, hS, hbx, hB⟩ := h
      rw [List.append_nil] at e
      rw [← e]
      exact ⟨hO.below hb, hS.below hb, frc_below0 hB (hb.mono hB.below.size) (by omega)⟩)
  refine wpIn_wide.1 (range_gen (F := Fence.wide) (n := 4) rfl (by omega) (gf := 114) (lb := #[.pointer (some ⟨B, 0, none⟩)]) rfl trivial (enters_of Try.func114 (by kernel_rfl) rfl) (encs := fun g : Gh => #[ev g.2.1]) (fun _ => rfl)
    (fun W' => ∃ m xs, m = xs.length ∧ SJ lt ss W hb p Fb lbb B W.heap.size T xs xs W')
    (fun g W' => g.1 = g.2.2.length + 1 ∧ SJ lt ss W hb p Fb lbb B W.heap.size T (g.2.1 :: g.2.2) g.2.2 W')
    (fun g W' => ∃ m' xs', m' < g.1 ∧ m' = xs'.length ∧ SJ lt ss W hb p Fb lbb B W.heap.size T xs' xs' W')
    (fun _ _ => False)
    (fun W' => Out W' W.heap.size W.heap.size ss ∧ HS W' hb p lt Fb lbb [] T ∧ FrC hb p 153 W W')
    (fun g a' W' => a' = { tmps := #[.slice none 0 0, .func (.func 114) #[] #[.pointer (some ⟨B, 0, none⟩)], .pointer (some ⟨W.heap.size, 0, none⟩), undef, .slice none 0 0, ev g.2.1, .func (.func 114) #[] #[.pointer (some ⟨B, 0, none⟩)], ev g.2.1, undef, undef, undef, undef, undef], defers := [] } ∧ g.1 = g.2.2.length + 1 ∧ SJ lt ss W hb p Fb lbb B W.heap.size T (g.2.1 :: g.2.2) g.2.2 W')
    (fun s A A' row hs hg hr => by obtain ⟨m, xs, e, h⟩ := hs; exact ⟨m, xs, e, hsO _ _ () A A' row h hg hr⟩)
    (fun g s A A' row hs hg hr => by obtain ⟨m, xs, e, e2, h⟩ := hs; exact ⟨m, xs, e, e2, hsO _ _ () A A' row h hg hr⟩)
    (fun _ _ _ _ _ hs _ _ => hs)
    (OwnFrom.and (Own.from (Out.ownF _ _ (fun _ => ss)) _) (OwnFrom.and (Own.from (HS.own hb p lt Fb lbb (fun _ => []) (fun _ => T)) _) (frc_own (by omega) (by omega))))
    (fun g a' => OwnFrom.and (fun _ _ _ _ hs _ _ => hs) (OwnFrom.and (fun _ _ _ _ hs _ _ => hs) (hsO _ _)))
    ⟨_, ss, rfl, hSI0⟩ hit ?assign ?body ?done ?stop)
  case assign =>
    rintro l ⟨m, x, xs⟩ W' K ⟨hm, hSI⟩ hK
    obtain ⟨kx, rfl⟩ : ∃ y, y = x := ⟨_, rfl⟩
    dsimp only [ev] at hK hm hSI ⊢
    gi_wp2
    exact hK _ _ (KeepsFrom.refl _ _) ⟨rfl, hm, hSI⟩
  case body =>
    rintro l ⟨m, x, xs⟩ a' W' hl hr ⟨ha, hm, hSI⟩
    obtain ⟨kx, rfl⟩ : ∃ y, y = x := ⟨_, rfl⟩
    dsimp only [ev] at ha hm hSI ⊢
    obtain ⟨⟨pre, epre, v, hv, hrow⟩, hS, hb, hB⟩ := hSI
    have hlen := congrArg List.length epre
    rw [List.length_append, List.length_cons] at hlen
    have hc := hv.cell
    have EP := Lib.hid epre; clear epre
    subst ha
    gi_wp2_with (gi_at_builtin; refine wpListIn_append_own _ rfl _ _ 110 rfl W.heap.size 3 i0 _ 1 8 Try.underlying110 hi0 hiz0 hiz1 hiz2 rfl (by decide) _ _ _ rfl (hrow.alloc _) ⟨W'.heap.size, 0, none⟩ 1 1 [.int .i64 kx] rfl rfl (news_blk (Blk.new W' [.int .i64 kx] 3)) (by simp [Value.oneCell']) (by unfold maxLen; omega) (by omega) (by have := hB.below.size; simp; omega) ?_; intro v' w3 hown' hgrow _; obtain ⟨g', cap', rfl⟩ := ownsRow_succ hown'; obtain ⟨hv1, hv2, hr2, hk2, hb2⟩ := hv.appended (by decide) hrow hB.below.size (Nat.le_refl _) hown' hgrow; have hc1 := hv1.cell; have hf1 := hv1.frozen)
    refine ⟨hk2.from _, xs.length, xs, by omega, rfl, ⟨pre ++ [kx], by rw [List.append_assoc]; exact EP.out, _, hv2, ?_⟩, ?_, ?_, frc_below0 hB hb2 (by omega)⟩
    · rw [List.length_append, cellsOf_append, cellsOf_one]
      exact hr2
    · exact HS.setOther (HS.keptT (hS.below ((Below.refl _ W').alloc (Nat.le_refl _) (.cells #[.int .i64 kx] 3))) hgrow (fun r hr => (own_typ (hrow.alloc (.cells #[.int .i64 kx] 3)) r hr).2)) hv1 (by decide) (by decide) _
    · exact ((hb.alloc _).kept hgrow (hb.not_row (by decide) hrow)).other (fun e => by subst e; unfold Boxed at hb hv; rw [hb] at hv; simp at hv) _
  case done =>
    rintro D W' hD ⟨⟨v, hv, hrow⟩, hSf, hB⟩ hK
    have hc := hv.cell
    go_wp2
    refine ⟨by simp, .inl ⟨_, _, rfl, run_takeDeferred hK, ?_⟩⟩
    refine ⟨_, results_tmp rfl _ _ _, v, rfl, ?_, hSf.own' hK rfl, frc_below0 hB (belowK_b (w := W2) (by omega) W' D _ _ hD hK rfl rfl) (by omega)⟩
    exact ownsRow_putObj hrow _ hK rfl
  case stop =>
    rintro D c W' hD h hK
    exact h.elim

set_option maxHeartbeats 400000 in
theorem collect_any (lt : Int → Int → Bool) (ho : Ord lt) (W : World) (hb p Fb B T : Nat) (lbb : Array Value) (ss : List Int) (hsm : ss.length < 1099511627776)
    (hBF : ∀ W', BF lt hb p W' Fb lbb) (hbW : hb ≤ p) (hS0 : HS W hb p lt Fb lbb ss T) (bB0 : Boxed W B 104 (.pointer (some ⟨p, 0, none⟩))) :
    Calls Try.prog 82 #[.func (.func 114) #[] #[.pointer (some ⟨B, 0, none⟩)]] W fun e w' => ∃ v, e = .returned v ∧ w'.ownsRow W.heap.size 3 1 v ss.length (cellsOf cv ss) ∧ HS w' hb p lt Fb lbb [] T ∧ FrC hb p 153 W w' := by
  have h := Lib.hid (appendseq_any lt ho W hb p Fb B T lbb ss hsm hBF hbW hS0 bB0)
  clear hS0 bB0
  go_enter Try.func82, Try.ntmps82
  go_wp2_with fail
  refine h.out.mono ?_; rintro e w1 ⟨v, rfl, h1, h2, h3⟩
  go_wp2_with fail
  go_ret
  exact ⟨_, rfl, h1, h2, h3⟩

end Go.Proofs.Ytbhpokcnkdgcmaa.HeapI
