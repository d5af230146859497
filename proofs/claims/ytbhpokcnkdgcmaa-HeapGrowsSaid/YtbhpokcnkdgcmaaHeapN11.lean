/- heap N: a heap of all that comes. -/
import Derived.Test.YtbhpokcnkdgcmaaHeapN10
set_option linter.unusedSimpArgs false
set_option linter.unusedVariables false
namespace Go.Proofs.Ytbhpokcnkdgcmaa.HeapN
open Go.RowKit Go.Shelf Go.Proofs.Ytbhpokcnkdgcmaa.HeapL
attribute [local go_sem] Oper.semAt_some

/-- all, in order -/
def sortV {α : Type} (lt : α → α → Bool) (zs : List α) : List α := zs.foldl (fun s x => insV lt x s) []
theorem sortV_snoc {α : Type} (lt : α → α → Bool) (zs : List α) (x : α) : sortV lt (zs ++ [x]) = insV lt x (sortV lt zs) := by simp [sortV]
theorem sortV_length {α : Type} (lt : α → α → Bool) (zs : List α) : (sortV lt zs).length = zs.length := by
  unfold sortV
  suffices h : ∀ (l s : List α), (l.foldl (fun s x => insV lt x s) s).length = s.length + l.length by simpa using h zs []
  intro l
  induction l with
  | nil => simp
  | cons x l ih => intro s; simp only [List.foldl_cons]; rw [ih, insV_length, List.length_cons]; omega
theorem sortV_take {α : Type} (lt : α → α → Bool) (zs : List α) (d : α) {k : Nat} (hk : k < zs.length) : sortV lt (zs.take (k + 1)) = insV lt (zs.getD k d) (sortV lt (zs.take k)) := by
  rw [List.take_succ_eq_append_getElem hk, sortV_snoc]
  simp [hk]

set_option maxRecDepth 100000 in
set_option maxHeartbeats 4000000 in
theorem from_any (lt : Int → Int → Bool) (ho : Ord lt) (W : World) (Fb : Nat) (lbb : Array Value) (G : Nat) (lbs : Array Value) (zs : List Int) (hsm : zs.length < 1099511627776)
    (hBF : ∀ W', Below W.heap.size W W' → BF lt W.heap.size W.heap.size W' Fb lbb) (hG : Gives G lbs W.heap.size W ev zs (0 : Int)) :
    Calls Try.prog 43 #[.func (.func Fb) #[] lbb, .func (.func G) #[] lbs] W fun e w' => e = .returned (.pointer (some ⟨W.heap.size, 0, none⟩)) ∧ HS w' W.heap.size W.heap.size lt Fb lbb (sortV lt zs) zs.length ∧ Below W.heap.size W w' := by
  refine (callsIn_wide (n := 4)).1 ?_
  refine callsIn_of_wp_marks Try.func43 rfl trivial ?_ rfl
  refine wpIn_wide.2 ?_
  simp only [Try.ntmps43, List.size_toArray, List.length_cons, List.length_nil, Nat.reduceAdd, Nat.reduceSub, Array.replicate_succ, Array.replicate_zero, List.push_toArray, List.append_toArray, List.nil_append, List.cons_append]
  go_wp2_with fail
  refine (new_hs lt _ Fb lbb).mono ?_; rintro e w1 ⟨rfl, hS0, rfl⟩
  go_wp2_with fail
  have nb := (Blk.new2 W (.cells #[.func (.func Fb) #[] lbb, .slice none 0 0, .int .i64 0] 131) [.pointer (some ⟨W.heap.size, 0, none⟩)] 58)
  have hS1 := hS0.below ((Below.refl _ (W.alloc (.cells #[.func (.func Fb) #[] lbb, .slice none 0 0, .int .i64 0] 131))).alloc (Nat.le_refl _) (.cells #[.pointer (some ⟨W.heap.size, 0, none⟩)] 58))
  have hB0 := bel_alloc2 W (.cells #[.func (.func Fb) #[] lbb, .slice none 0 0, .int .i64 0] 131) (.cells #[.pointer (some ⟨W.heap.size, 0, none⟩)] 58)
  obtain ⟨W2, hW2⟩ : ∃ W2, ((W.alloc (.cells #[.func (.func Fb) #[] lbb, .slice none 0 0, .int .i64 0] 131)).alloc (.cells #[.pointer (some ⟨W.heap.size, 0, none⟩)] 58)) = W2 := ⟨_, rfl⟩
  rw [hW2] at nb hS1 hB0 ⊢
  have hz2 : W2.heap.size = W.heap.size + 1 + 1 := by rw [← hW2]; simp
  clear hW2 hS0
  have hInvS : ∀ k : Nat, OwnFrom W2.heap.size (fun (_ : Unit) W' => HS W' W.heap.size W.heap.size lt Fb lbb (sortV lt (zs.take k)) k ∧ Blk W' (W.heap.size + 1) 58 [.pointer (some ⟨W.heap.size, 0, none⟩)] ∧ Below W.heap.size W W') := fun k =>
    OwnFrom.and (Own.from (HS.own W.heap.size W.heap.size lt Fb lbb (fun _ => sortV lt (zs.take k)) (fun _ => k)) _) (OwnFrom.and (Own.from (blk_own _ _ (fun _ => _)) _) (ownFrom_below (Nat.le_refl _) (by omega)))
  refine wpIn_wide.1 (range_gen (F := Fence.wide) (n := 4) rfl (by omega) (gf := G) (lb := lbs) rfl trivial hG.1 (encs := fun k : Nat => #[ev (zs.getD k (0 : Int))]) (fun _ => rfl)
    (fun W' => HS W' W.heap.size W.heap.size lt Fb lbb (sortV lt (zs.take 0)) 0 ∧ Blk W' (W.heap.size + 1) 58 [.pointer (some ⟨W.heap.size, 0, none⟩)] ∧ Below W.heap.size W W')
    (fun k W' => k < zs.length ∧ HS W' W.heap.size W.heap.size lt Fb lbb (sortV lt (zs.take k)) k ∧ Blk W' (W.heap.size + 1) 58 [.pointer (some ⟨W.heap.size, 0, none⟩)] ∧ Below W.heap.size W W')
    (fun k W' => HS W' W.heap.size W.heap.size lt Fb lbb (sortV lt (zs.take (k + 1))) (k + 1) ∧ Blk W' (W.heap.size + 1) 58 [.pointer (some ⟨W.heap.size, 0, none⟩)] ∧ Below W.heap.size W W')
    (fun _ _ => False)
    (fun W' => HS W' W.heap.size W.heap.size lt Fb lbb (sortV lt (zs.take zs.length)) zs.length ∧ Blk W' (W.heap.size + 1) 58 [.pointer (some ⟨W.heap.size, 0, none⟩)] ∧ Below W.heap.size W W')
    (fun k a' W' => (a' = { tmps := #[.func (.func Fb) #[] lbb, .func (.func G) #[] lbs, undef, undef, .pointer none, .pointer (some ⟨W.heap.size + 1, 0, none⟩), ev (zs.getD k (0 : Int)), .func (.func Fb) #[] lbb, .pointer (some ⟨W.heap.size, 0, none⟩), .func (.func G) #[] lbs, ev (zs.getD k (0 : Int)), undef, undef, undef, undef], defers := [] }) ∧ k < zs.length ∧ HS W' W.heap.size W.heap.size lt Fb lbb (sortV lt (zs.take k)) k ∧ Blk W' (W.heap.size + 1) 58 [.pointer (some ⟨W.heap.size, 0, none⟩)] ∧ Below W.heap.size W W')
    (hInvS 0) (fun k => hInvS (k + 1)) (fun _ _ _ _ _ hs _ _ => hs) (hInvS zs.length)
    (fun k a' => OwnFrom.and (fun _ _ _ _ hs _ _ => hs) (OwnFrom.and (fun _ _ _ _ hs _ _ => hs) (hInvS k)))
    ⟨hS1, nb, hB0⟩
    (hG.2 3 (fun k W' => HS W' W.heap.size W.heap.size lt Fb lbb (sortV lt (zs.take k)) k ∧ Blk W' (W.heap.size + 1) 58 [.pointer (some ⟨W.heap.size, 0, none⟩)] ∧ Below W.heap.size W W') (fun k W' h => h.2.2)
      (fun k W' o h => ⟨h.1.below ((Below.refl _ W').alloc (Nat.le_refl _) _), h.2.1.alloc _, h.2.2.alloc (by have := h.2.2.size; omega) _⟩))
    ?assign ?body ?done ?stop)
  case assign =>
    rintro l k W' K ⟨hk, hS, hb, hB⟩ hK
    obtain ⟨kx, hx⟩ : ∃ x, zs.getD k (0 : Int) = x := ⟨_, rfl⟩
    rw [hx] at hK ⊢
    unfold ev at hK ⊢
    gi_wp2
    exact hK _ _ (KeepsFrom.refl _ _) ⟨rfl, hk, hS, hb, hB⟩
  case body =>
    rintro l k a' W' hl hr ⟨ha, hk, hS, hb, hB⟩
    have hst := sortV_take lt zs (0 : Int) hk
    obtain ⟨kx, hx⟩ : ∃ x, zs.getD k (0 : Int) = x := ⟨_, rfl⟩
    rw [hx] at ha hst
    unfold ev at ha
    have HST := Lib.hid hst; clear hst
    have HX := Lib.hid hx; clear hx
    have cb := hb.cell (i := 0) rfl
    have hlen : (sortV lt (zs.take k)).length = k := by rw [sortV_length, List.length_take]; omega
    have HBF := hBF W' hB
    subst ha
    have hput := put_hs lt ho W' W.heap.size W.heap.size Fb lbb _ k kx (by omega) (by omega) hS HBF
    have HP := Lib.hid hput; clear hput
    obtain ⟨es0, _, hM0⟩ := hS.length
    obtain ⟨_, vv, hPb, _⟩ := hM0
    clear HBF
    gi_wp2_with (refine ⟨trivial, ?_⟩; gi_at_call 47; refine (CallsIn.inRound l (callsIn_wide.2 HP.out)).mono ?_; rintro e w3 ⟨rfl, hS3, hF3⟩)
    exact ⟨(hF3.others hPb).from _, by rw [HST.out]; exact hS3, hF3.blk hb (by omega) (by decide), hB.trans hF3.below⟩
  case done =>
    rintro D W' hD ⟨hS, hb, hB⟩ hK
    have cb := hb.cell (i := 0) rfl
    rw [List.take_length] at hS
    go_wp2
    refine ⟨by simp, .inl ⟨_, _, rfl, run_takeDeferred hK, ?_⟩⟩
    exact ⟨_, results_tmp rfl _ _ _, rfl, hS.own' hK rfl, hB.trans (belowK_b (w := W2) (by omega) W' D _ _ hD hK rfl rfl)⟩
  case stop =>
    rintro D c W' hD h hK
    exact h.elim

end Go.Proofs.Ytbhpokcnkdgcmaa.HeapN
