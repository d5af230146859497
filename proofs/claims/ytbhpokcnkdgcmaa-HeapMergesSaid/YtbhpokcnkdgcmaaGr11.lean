/- HeapI9, HeapI10, HeapI11, HeapI12, laid together. -/
import Derived.Test.YtbhpokcnkdgcmaaGr10
import Derived.Sort.LoopGhostIn
import Derived.Test.YtbhpokcnkdgcmaaGr01

/- heap I: it is drained. -/
set_option linter.unusedSimpArgs false
set_option linter.unusedVariables false
namespace Go.Proofs.Ytbhpokcnkdgcmaa.HeapI
open Go.RowKit Go.Shelf Go.Proofs.Ytbhpokcnkdgcmaa.HeapL
attribute [local go_sem] Oper.semAt_some

set_option maxHeartbeats 400000 in
theorem drain_any (W : World) (q : Option Addr) :
    Calls Try.prog 83 #[.pointer q] W fun e w' => e = .returned (.func (.func 114) #[] #[.pointer (some ⟨W.heap.size, 0, none⟩)]) ∧ w' = W.alloc (.cells #[.pointer q] 104) := by
  go_enter Try.func83, Try.ntmps83
  go_wp2_with fail
  go_ret
  exact ⟨rfl, rfl⟩

/-- a station of the draining: how many rounds at most are to come, the thing that is handed out, what is left -/
abbrev Gh := Nat × Int × List Int

set_option maxRecDepth 100000 in
set_option maxHeartbeats 4000000 in
theorem drain_iter (lt : Int → Int → Bool) (ho : Ord lt) (base p Fb B : Nat) (lb : Array Value) (n : Nat) (Inv : Nat → List Int → World → Prop) (Mid : Gh → World → Prop) (Fin : World → Prop)
    (hInv : ∀ m xs W, Inv m xs W → (∃ T, HS W base p lt Fb lb xs T) ∧ BF lt base p W Fb lb ∧ xs.length < 1099511627776 ∧ Boxed W B 104 (.pointer (some ⟨p, 0, none⟩)))
    (hmid : ∀ m x xs W W', Inv m (x :: xs) W → Fr base p 153 W W' → (∀ T, HS W base p lt Fb lb (x :: xs) T → HS W' base p lt Fb lb xs T) → Mid (m, x, xs) W')
    (hend : ∀ m W W', Inv m [] W → Below W.heap.size W W' → Fin W') :
    IterOk Fence.wide n Try.prog 114 #[.pointer (some ⟨B, 0, none⟩)] (fun (g : Gh) => #[ev g.2.1]) (fun W => ∃ m xs, Inv m xs W) Mid (fun g W => ∃ m' xs', m' < g.1 ∧ Inv m' xs' W) Fin := by
  intro l Rc JX W1 hRc hJX hR0 hS0 hY
  obtain ⟨m0, xs0, hI0⟩ := hS0
  refine callsIn_of_wp Try.func114 rfl trivial ?_ rfl
  simp only [Try.ntmps114, List.size_toArray, List.length_cons, List.length_nil, Nat.reduceAdd, Nat.reduceSub, Array.replicate_succ, Array.replicate_zero, List.push_toArray, List.append_toArray, List.nil_append, List.cons_append]
  gi_wp2_with fail
  gi_loopg [] m0 (fun m wr => Rc wr ∧ ∃ xs, Inv m xs wr)
  case atStart => exact ⟨hR0, xs0, hI0⟩
  case round =>
    obtain ⟨hR, xs, hI⟩ := hrel
    obtain ⟨⟨T, hS⟩, hB, hsm, hbx⟩ := hInv _ _ _ hI
    have cb := hbx.cell
    have hlt := hS.lt'
    cases xs with
    | nil =>
      gi_wp2_with (refine ⟨trivial, (fun h => (by cases h)), ?_⟩; gi_at_call 84; refine CallsIn.mono (callsIn_wide.2 (pop_hs_nil lt _ base p Fb lb T hS)) ?_; rintro e w2 ⟨rfl, hb⟩; unfold ev)
      refine ⟨fun _ h => (by cases h), ?_⟩
      gi_wp2
      refine bodyPost_ret (results_none rfl _ _ _) rfl ?_
      exact ⟨⟨_, rfl⟩, .inl ⟨hend _ _ _ hI (hb), hRc _ _ hR (belowOthers hb)⟩⟩
    | cons x xs =>
      simp only [List.length_cons] at hsm
      obtain ⟨es0, _, hM0⟩ := hS.length
      obtain ⟨_, vv, hPb, _⟩ := hM0
      obtain ⟨kx, rfl⟩ : ∃ y, y = x := ⟨_, rfl⟩
      have hbs := hS.lt'
      gi_wp2_with (refine ⟨trivial, (fun h => (by cases h)), ?_⟩; gi_at_call 84; refine CallsIn.mono (callsIn_wide.2 (pop_hs_cons lt ho _ base p Fb lb kx xs T (by omega) hS hB)) ?_; rintro e w2 ⟨rfl, hS2, hF2⟩; have hz2 := hF2.size; have hF3 := hF2; have hMd := hmid gk kx xs wr _ hI hF3 (fun T' hS' => (by rw [← hS.turn hS']; exact hS2)); have hR3 := hRc _ _ hR (hF3.others hPb); obtain ⟨fn, tmps, assign, body, hy, hRn⟩ := hY (gk, kx, xs) _ hMd hR3; dsimp only [ev] at hy; unfold ev)
      refine ⟨fun h => (by cases h), ?_⟩
      refine hRn.mono ?_
      rintro e W3 (⟨rfl, ⟨m', xs', hlt', hI'⟩, hR'⟩ | ⟨rfl, hJ⟩)
      · gi_wp2
        gi_roundg m'
        case rel => exact ⟨hR', xs', hI'⟩
        case measure => exact hlt'
      · gi_wp2
        refine bodyPost_ret (results_none rfl _ _ _) rfl ?_
        exact ⟨⟨_, rfl⟩, .inr hJ⟩

end Go.Proofs.Ytbhpokcnkdgcmaa.HeapI

/- slices.Values at the element type of heap I. -/
set_option linter.unusedSimpArgs false
set_option linter.unusedVariables false
namespace Go.Proofs.Ytbhpokcnkdgcmaa.HeapI
open Go.RowKit Go.Shelf Go.Proofs.Ytbhpokcnkdgcmaa.HeapL
attribute [local go_sem] Oper.semAt_some

def cv (x : Int) : List Value := [.int .i64 x]
set_option maxHeartbeats 400000 in
theorem values_any (W : World) (a : Option Addr) (len cap : Nat) :
    Calls Try.prog 87 #[.slice a len cap] W fun e w' => e = .returned (.func (.func 117) #[] #[.pointer (some ⟨W.heap.size, 0, none⟩)]) ∧ w' = W.alloc (.cells #[.slice a len cap] 110) := by
  go_enter Try.func87, Try.ntmps87
  go_wp2_with fail
  go_ret
  exact ⟨rfl, rfl⟩

set_option maxRecDepth 100000 in
set_option maxHeartbeats 4000000 in
theorem values_gives (W0 : World) (B n₀ : Nat) (sv : Value) (zs : List Int) (hsm : zs.length < 9223372036854775807) (hB : B < n₀) (hbx : Boxed W0 B 110 sv) (hR : Rd cv 1 n₀ W0 sv zs) :
    Gives 117 #[.pointer (some ⟨B, 0, none⟩)] n₀ W0 ev zs (0 : Int) := by
  refine ⟨enters_of Try.func117 (by kernel_rfl) rfl, ?_⟩
  intro n Inv hI hA l Rc JX W1 hRc hJX hR0 hS0 hY
  refine callsIn_of_wp Try.func117 rfl trivial ?_ rfl
  simp only [Try.ntmps117, List.size_toArray, List.length_cons, List.length_nil, Nat.reduceAdd, Nat.reduceSub, Array.replicate_succ, Array.replicate_zero, List.push_toArray, List.append_toArray, List.nil_append, List.cons_append]
  have cb : W1.cell? ⟨B, 0, none⟩ = some sv := ((hI _ _ hS0).cell (p := ⟨B, 0, none⟩) hB).trans hbx.cell
  rcases hR with ⟨a, cap, rfl, rfl⟩ | ⟨b, off, cap, rfl, hlt, hc⟩
  · gi_wp2_with fail
    gi_loopw [7] (fun i wr => i = .int .i64 0 ∧ Rc wr ∧ Inv 0 wr) (fun _ _ => 0)
    case atStart => exact ⟨rfl, hR0, hS0⟩
    case round =>
      obtain ⟨rfl, hr, hi⟩ := hrel
      gi_wp2_with fail
      go_end0
      exact ⟨⟨_, rfl⟩, .inl ⟨hi, hr⟩⟩
  · gi_wp2_with fail
    gi_loopw [7] (fun i wr => ∃ k : Nat, k ≤ zs.length ∧ i = .int .i64 k ∧ Rc wr ∧ Inv k wr) (fun i _ => zs.length - (intOf i).toNat)
    case atStart => exact ⟨0, Nat.zero_le _, rfl, hR0, hS0⟩
    case round =>
      obtain ⟨k, hk, rfl, hr, hi⟩ := hrel
      have hb := hI _ _ hi
      have k0 : (0 : Int) ≤ (k : Int) := Int.natCast_nonneg _
      have k9 : (k : Int) ≤ 9223372036854775807 := by omega
      by_cases hlt2 : k < zs.length
      · have kl : (k : Int) < (zs.length : Int) := by omega
        obtain ⟨kx, hx⟩ : ∃ x, zs[k] = x := ⟨_, rfl⟩
        have hx2 : zs[k]? = some kx := by rw [List.getElem?_eq_getElem hlt2, hx]
        have hgd : zs.getD k (0 : Int) = kx := by rw [List.getD_eq_getElem?_getD, hx2]; rfl
        have a1 : ∀ c v, (cv kx)[c]? = some v → wr.cell? ⟨b, off + k * 1 + c, none⟩ = some v := fun c v hv => (hb.cell (p := ⟨b, off + k * 1 + c, none⟩) hlt).trans (hc k _ hx2 c v hv)
        have q1 : wr.cell? ⟨b, off + k * 1, none⟩ = some (.int .i64 kx) := a1 0 _ rfl
        rw [Nat.mul_one] at q1
        have hi2 := hi
        have hr2 := hr
        obtain ⟨fn, tmps, assign, body, hy, hRn⟩ := hY k _ ⟨hlt2, hi2⟩ hr2
        rw [hgd] at hy
        dsimp only [ev] at hy
        clear a1 hx hx2 hgd hc
        gi_wp2_with fail
        refine ⟨fun h => (by cases h), ?_⟩
        refine hRn.mono ?_
        rintro e W3 (⟨rfl, hi3, hr3⟩ | ⟨rfl, hJ⟩)
        · gi_wp2_with fail
          go_roundw
          case rel => exact ⟨k + 1, by omega, by simp, hr3, hi3⟩
          case measure => simp [intOf]; omega
        · gi_wp2_with fail
          refine bodyPost_ret (results_none rfl _ _ _) rfl ?_
          exact ⟨⟨_, rfl⟩, .inr hJ⟩
      · obtain rfl : k = zs.length := by omega
        gi_wp2_with fail
        go_end0
        exact ⟨⟨_, rfl⟩, .inl ⟨hi, hr⟩⟩

end Go.Proofs.Ytbhpokcnkdgcmaa.HeapI

/- heap I: a heap of all that comes. -/
set_option linter.unusedSimpArgs false
set_option linter.unusedVariables false
namespace Go.Proofs.Ytbhpokcnkdgcmaa.HeapI
open Go.RowKit Go.Shelf Go.Proofs.Ytbhpokcnkdgcmaa.HeapL
attribute [local go_sem] Oper.semAt_some

/-- all, in order -/
def sortV {α : Type} (lt : α → α → Bool) (zs : List α) : List α := zs.foldl (fun s x => insV lt x s) []
theorem sortV_snoc {α : Type} (lt : α → α → Bool) (zs : List α) (x : α) : sortV lt (zs ++ [x]) = insV lt x (sortV lt zs) := by simp [sortV]
theorem sortV_length {α : Type} (lt : α → α → Bool) (zs : List α) : (sortV lt zs).length = zs.length := by
  unfold sortV
  suffices h : ∀ (l s : List α), (l.foldl (fun s x => insV lt x s) s).length = s.length + l.length by simpa using h zs []
  intro l
  induction l with
  | nil => simp
  | cons x l ih => intro s; simp only [List.foldl_cons]; rw [ih, insV_length, List.length_cons]; omega
theorem sortV_take {α : Type} (lt : α → α → Bool) (zs : List α) (d : α) {k : Nat} (hk : k < zs.length) : sortV lt (zs.take (k + 1)) = insV lt (zs.getD k d) (sortV lt (zs.take k)) := by
  rw [List.take_succ_eq_append_getElem hk, sortV_snoc]
  simp [hk]

set_option maxRecDepth 100000 in
set_option maxHeartbeats 4000000 in
theorem from_any (lt : Int → Int → Bool) (ho : Ord lt) (W : World) (Fb : Nat) (lbb : Array Value) (G : Nat) (lbs : Array Value) (zs : List Int) (hsm : zs.length < 1099511627776)
    (hBF : ∀ W', Below W.heap.size W W' → BF lt W.heap.size W.heap.size W' Fb lbb) (hG : Gives G lbs W.heap.size W ev zs (0 : Int)) :
    Calls Try.prog 85 #[.func (.func Fb) #[] lbb, .func (.func G) #[] lbs] W fun e w' => e = .returned (.pointer (some ⟨W.heap.size, 0, none⟩)) ∧ HS w' W.heap.size W.heap.size lt Fb lbb (sortV lt zs) zs.length ∧ Below W.heap.size W w' := by
  refine (callsIn_wide (n := 4)).1 ?_
  refine callsIn_of_wp_marks Try.func85 rfl trivial ?_ rfl
  refine wpIn_wide.2 ?_
  simp only [Try.ntmps85, List.size_toArray, List.length_cons, List.length_nil, Nat.reduceAdd, Nat.reduceSub, Array.replicate_succ, Array.replicate_zero, List.push_toArray, List.append_toArray, List.nil_append, List.cons_append]
  go_wp2_with fail
  refine (new_hs lt _ Fb lbb).mono ?_; rintro e w1 ⟨rfl, hS0, rfl⟩
  go_wp2_with fail
  have nb := (Blk.new2 W (.cells #[.func (.func Fb) #[] lbb, .slice none 0 0, .int .i64 0] 151) [.pointer (some ⟨W.heap.size, 0, none⟩)] 104)
  have hS1 := hS0.below ((Below.refl _ (W.alloc (.cells #[.func (.func Fb) #[] lbb, .slice none 0 0, .int .i64 0] 151))).alloc (Nat.le_refl _) (.cells #[.pointer (some ⟨W.heap.size, 0, none⟩)] 104))
  have hB0 := bel_alloc2 W (.cells #[.func (.func Fb) #[] lbb, .slice none 0 0, .int .i64 0] 151) (.cells #[.pointer (some ⟨W.heap.size, 0, none⟩)] 104)
  obtain ⟨W2, hW2⟩ : ∃ W2, ((W.alloc (.cells #[.func (.func Fb) #[] lbb, .slice none 0 0, .int .i64 0] 151)).alloc (.cells #[.pointer (some ⟨W.heap.size, 0, none⟩)] 104)) = W2 := ⟨_, rfl⟩
  rw [hW2] at nb hS1 hB0 ⊢
  have hz2 : W2.heap.size = W.heap.size + 1 + 1 := by rw [← hW2]; simp
  clear hW2 hS0
  have hInvS : ∀ k : Nat, OwnFrom W2.heap.size (fun (_ : Unit) W' => HS W' W.heap.size W.heap.size lt Fb lbb (sortV lt (zs.take k)) k ∧ Blk W' (W.heap.size + 1) 104 [.pointer (some ⟨W.heap.size, 0, none⟩)] ∧ Below W.heap.size W W') := fun k =>
    OwnFrom.and (Own.from (HS.own W.heap.size W.heap.size lt Fb lbb (fun _ => sortV lt (zs.take k)) (fun _ => k)) _) (OwnFrom.and (Own.from (blk_own _ _ (fun _ => _)) _) (ownFrom_below (Nat.le_refl _) (by omega)))
  refine wpIn_wide.1 (range_gen (F := Fence.wide) (n := 4) rfl (by omega) (gf := G) (lb := lbs) rfl trivial hG.1 (encs := fun k : Nat => #[ev (zs.getD k (0 : Int))]) (fun _ => rfl)
    (fun W' => HS W' W.heap.size W.heap.size lt Fb lbb (sortV lt (zs.take 0)) 0 ∧ Blk W' (W.heap.size + 1) 104 [.pointer (some ⟨W.heap.size, 0, none⟩)] ∧ Below W.heap.size W W')
    (fun k W' => k < zs.length ∧ HS W' W.heap.size W.heap.size lt Fb lbb (sortV lt (zs.take k)) k ∧ Blk W' (W.heap.size + 1) 104 [.pointer (some ⟨W.heap.size, 0, none⟩)] ∧ Below W.heap.size W W')
    (fun k W' => HS W' W.heap.size W.heap.size lt Fb lbb (sortV lt (zs.take (k + 1))) (k + 1) ∧ Blk W' (W.heap.size + 1) 104 [.pointer (some ⟨W.heap.size, 0, none⟩)] ∧ Below W.heap.size W W')
    (fun _ _ => False)
    (fun W' => HS W' W.heap.size W.heap.size lt Fb lbb (sortV lt (zs.take zs.length)) zs.length ∧ Blk W' (W.heap.size + 1) 104 [.pointer (some ⟨W.heap.size, 0, none⟩)] ∧ Below W.heap.size W W')
    (fun k a' W' => (a' = { tmps := #[.func (.func Fb) #[] lbb, .func (.func G) #[] lbs, undef, undef, .pointer none, .pointer (some ⟨W.heap.size + 1, 0, none⟩), ev (zs.getD k (0 : Int)), .func (.func Fb) #[] lbb, .pointer (some ⟨W.heap.size, 0, none⟩), .func (.func G) #[] lbs, ev (zs.getD k (0 : Int)), undef, undef, undef, undef], defers := [] }) ∧ k < zs.length ∧ HS W' W.heap.size W.heap.size lt Fb lbb (sortV lt (zs.take k)) k ∧ Blk W' (W.heap.size + 1) 104 [.pointer (some ⟨W.heap.size, 0, none⟩)] ∧ Below W.heap.size W W')
    (hInvS 0) (fun k => hInvS (k + 1)) (fun _ _ _ _ _ hs _ _ => hs) (hInvS zs.length)
    (fun k a' => OwnFrom.and (fun _ _ _ _ hs _ _ => hs) (OwnFrom.and (fun _ _ _ _ hs _ _ => hs) (hInvS k)))
    ⟨hS1, nb, hB0⟩
    (hG.2 3 (fun k W' => HS W' W.heap.size W.heap.size lt Fb lbb (sortV lt (zs.take k)) k ∧ Blk W' (W.heap.size + 1) 104 [.pointer (some ⟨W.heap.size, 0, none⟩)] ∧ Below W.heap.size W W') (fun k W' h => h.2.2)
      (fun k W' o h => ⟨h.1.below ((Below.refl _ W').alloc (Nat.le_refl _) _), h.2.1.alloc _, h.2.2.alloc (by have := h.2.2.size; omega) _⟩))
    ?assign ?body ?done ?stop)
  case assign =>
    rintro l k W' K ⟨hk, hS, hb, hB⟩ hK
    obtain ⟨kx, hx⟩ : ∃ x, zs.getD k (0 : Int) = x := ⟨_, rfl⟩
    rw [hx] at hK ⊢
    unfold ev at hK ⊢
    gi_wp2
    exact hK _ _ (KeepsFrom.refl _ _) ⟨rfl, hk, hS, hb, hB⟩
  case body =>
    rintro l k a' W' hl hr ⟨ha, hk, hS, hb, hB⟩
    have hst := sortV_take lt zs (0 : Int) hk
    obtain ⟨kx, hx⟩ : ∃ x, zs.getD k (0 : Int) = x := ⟨_, rfl⟩
    rw [hx] at ha hst
    unfold ev at ha
    have HST := Lib.hid hst; clear hst
    have HX := Lib.hid hx; clear hx
    have cb := hb.cell (i := 0) rfl
    have hlen : (sortV lt (zs.take k)).length = k := by rw [sortV_length, List.length_take]; omega
    have HBF := hBF W' hB
    subst ha
    have hput := put_hs lt ho W' W.heap.size W.heap.size Fb lbb _ k kx (by omega) (by omega) hS HBF
    have HP := Lib.hid hput; clear hput
    obtain ⟨es0, _, hM0⟩ := hS.length
    obtain ⟨_, vv, hPb, _⟩ := hM0
    clear HBF
    gi_wp2_with (refine ⟨trivial, ?_⟩; gi_at_call 80; refine (CallsIn.inRound l (callsIn_wide.2 HP.out)).mono ?_; rintro e w3 ⟨rfl, hS3, hF3⟩)
    exact ⟨(hF3.others hPb).from _, by rw [HST.out]; exact hS3, hF3.blk hb (by omega) (by decide), hB.trans hF3.below⟩
  case done =>
    rintro D W' hD ⟨hS, hb, hB⟩ hK
    have cb := hb.cell (i := 0) rfl
    rw [List.take_length] at hS
    go_wp2
    refine ⟨by simp, .inl ⟨_, _, rfl, run_takeDeferred hK, ?_⟩⟩
    exact ⟨_, results_tmp rfl _ _ _, rfl, hS.own' hK rfl, hB.trans (belowK_b (w := W2) (by omega) W' D _ _ hD hK rfl rfl)⟩
  case stop =>
    rintro D c W' hD h hK
    exact h.elim

end Go.Proofs.Ytbhpokcnkdgcmaa.HeapI

/- heap I: the first ones; all in order. -/
set_option linter.unusedSimpArgs false
set_option linter.unusedVariables false
namespace Go.Proofs.Ytbhpokcnkdgcmaa.HeapI
open Go.RowKit Go.Shelf Go.Proofs.Ytbhpokcnkdgcmaa.HeapL
attribute [local go_sem] Oper.semAt_some

theorem infoX : (Try.prog.info? 3).map (fun i => (i.zero, i.size, i.bytes)) = some (some (.int .i64 0), 1, 8) := by kernel_rfl
theorem HM.keptT {W W' : World} {row : Option Nat} {base p : Nat} {bf : Value} {es : List El} {T : Nat} (h : HM W base p bf es T) (hg : W.grownBy W' row) (hr : ∀ r, row = some r → ∃ cs fr, W.heap[r]? = some (.cells cs 3 fr)) : HM W' base p bf es T := by
  obtain ⟨h1, v, h2, h3⟩ := h
  refine ⟨h1, v, h2.kept hg (fun e => ?_), h3.kept hg ?_⟩
  · obtain ⟨cs, fr, hc⟩ := hr p e.symm
    unfold Blk at h2
    rw [h2] at hc
    simp at hc
  · cases hv : v.ownBlock with
    | none => exact .inl rfl
    | some k =>
      refine .inr (fun e => ?_)
      obtain ⟨_, cs, fr, hc⟩ := own_typ h3 k hv
      obtain ⟨cs', fr', hc'⟩ := hr k (by rw [← e])
      rw [hc] at hc'
      simp at hc'
theorem HS.keptT {W W' : World} {row : Option Nat} {base p : Nat} {lt : Int → Int → Bool} {F : Nat} {lb : Array Value} {xs : List Int} {T : Nat} (h : HS W base p lt F lb xs T) (hg : W.grownBy W' row) (hr : ∀ r, row = some r → ∃ cs fr, W.heap[r]? = some (.cells cs 3 fr)) : HS W' base p lt F lb xs T := by
  obtain ⟨es, s, hM, r⟩ := h; exact ⟨es, s, hM.keptT hg hr, r⟩

set_option maxRecDepth 100000 in
set_option maxHeartbeats 4000000 in
theorem firsts_any (lt : Int → Int → Bool) (ho : Ord lt) (W : World) (m : Int) (Fb : Nat) (lbb : Array Value) (G : Nat) (lbs : Array Value) (zs : List Int) (hsm : zs.length < 1099511627776)
    (hBF : ∀ W', Below W.heap.size W W' → BF lt W.heap.size W.heap.size W' Fb lbb) (hG : Gives G lbs W.heap.size W ev zs (0 : Int)) :
    Calls Try.prog 90 #[.int .i64 m, .func (.func Fb) #[] lbb, .func (.func G) #[] lbs] W fun e w' => ∃ v, e = .returned v ∧ w'.ownsRow W.heap.size 3 1 v ((sortV lt zs).take m.toNat).length (cellsOf cv ((sortV lt zs).take m.toNat)) ∧ Below W.heap.size W w' := by
  obtain ⟨i0, hi0, hz0, hz1, hz2'⟩ := info_parts infoX
  have hslen := sortV_length lt zs
  generalize hss : sortV lt zs = ss at *
  have HSS := Lib.hid hss; clear hss
  have hfrom := from_any lt ho W Fb lbb G lbs zs hsm hBF hG
  rw [HSS.out] at hfrom
  have HFR := Lib.hid hfrom; clear hfrom hG
  go_enter Try.func90, Try.ntmps90
  go_wp2_with fail
  refine HFR.out.mono ?_; rintro e w1 ⟨rfl, hS0, hB0⟩
  go_wp2_with fail
  go_loopw [7] (fun v wr => ∃ k : Nat, k ≤ ss.length ∧ k ≤ m.toNat ∧ HS wr W.heap.size W.heap.size lt Fb lbb (ss.drop k) zs.length ∧ wr.ownsRow W.heap.size 3 1 v (ss.take k).length (cellsOf cv (ss.take k)) ∧ Below W.heap.size W wr)
    (fun v _ => ss.length - (match v with | .slice _ n _ => n | _ => 0))
  case atStart => exact ⟨0, Nat.zero_le _, Nat.zero_le _, hS0, World.ownsRow_nil _ _ _ _, hB0⟩
  case round =>
    obtain ⟨k, hk, hkm, hS, hO, hB⟩ := hrel
    have hlk : (ss.take k).length = k := by rw [List.length_take]; omega
    rw [hlk] at hO
    have hv : ∃ a cap, u7 = .slice a k cap := by
      rcases hO.2 with ⟨e, h0⟩ | ⟨g, cap, cur, e, _⟩
      · exact ⟨none, 0, by rw [e, h0]⟩
      · exact ⟨_, cap, e⟩
    obtain ⟨a, cap, rfl⟩ := hv
    have hsz := hB.size
    have HBF := hBF wr hB
    have hKo := Lib.hid (own_typ hO)
    by_cases hin : k < m.toNat
    · have hin2 : (k : Int) < m := by omega
      by_cases hnx : k < ss.length
      · have hdr : ss.drop k = ss[k] :: ss.drop (k + 1) := (List.getElem_cons_drop ..).symm
        obtain ⟨kx, hx⟩ : ∃ x, ss[k] = x := ⟨_, rfl⟩
        rw [hx] at hdr
        rw [hdr] at hS
        have htk : ss.take (k + 1) = ss.take k ++ [kx] := by rw [List.take_succ_eq_append_getElem hnx, hx]
        have hpop := Lib.hid (pop_hs_cons lt ho wr W.heap.size W.heap.size Fb lbb kx (ss.drop (k + 1)) zs.length (by rw [List.length_drop]; omega) hS HBF)
        have HTK := Lib.hid htk
        have hap : (Value.slice a k cap).ownBlock ≠ some W.heap.size := by
          obtain ⟨es0, _, ⟨_, vv, hPb, _⟩⟩ := hS.length
          exact own_apart hPb hO (by decide)
        clear hdr hx htk hS HBF
        go_wp2_with fail
        refine hpop.out.mono ?_; rintro e w2 ⟨rfl, hS2, hF2⟩
        have hO2 := hF2.own hO hap (by decide)
        have hz2 := hF2.size
        unfold ev
        go_wp2_with (at_builtin; refine wpList_append_own _ rfl _ _ 110 rfl W.heap.size 3 i0 _ 1 8 Try.underlying110 hi0 hz0 hz1 hz2' rfl (by decide) _ k _ rfl (hO2.alloc _) ⟨w2.heap.size, 0, none⟩ 1 1 [.int .i64 kx] rfl rfl (news_blk (Blk.new w2 [.int .i64 kx] 3)) (by simp [Value.oneCell']) (by unfold maxLen; omega) (by omega) (by simp; omega) ?_; intro v' w3 hO3 hg3 _; obtain ⟨g', cap', rfl⟩ := ownsRow_succ hO3)
        have hS3 := (hS2.below ((Below.refl _ w2).alloc (Nat.le_refl _) (.cells #[.int .i64 kx] 3))).keptT hg3 (fun r hr => (own_typ (hO2.alloc (.cells #[.int .i64 kx] 3)) r hr).2)
        have hB3 : Below W.heap.size W w3 := ((hB.trans hF2.below).alloc (by omega) _).grown hg3 (by simp; omega) (fun r hr => (own_typ hO2 r hr).1)
        go_wp2_with fail
        go_roundw
        case rel => exact ⟨k + 1, by omega, by omega, hS3, by rw [HTK.out, cellsOf_append, cellsOf_one, List.length_append, hlk]; exact hO3, hB3⟩
        case measure => simp; omega
      · have hkl : k = ss.length := by omega
        have hdr : ss.drop k = [] := List.drop_eq_nil_of_le (by omega)
        rw [hdr] at hS
        have hfin : ss.take m.toNat = ss.take k := by rw [List.take_of_length_le (by omega), List.take_of_length_le (by omega)]
        have HF := Lib.hid hfin; clear hfin hdr
        have hpop := Lib.hid (pop_hs_nil lt wr W.heap.size W.heap.size Fb lbb zs.length hS)
        clear hS HBF hkl
        go_wp2_with fail
        refine hpop.out.mono ?_; rintro e w2 ⟨rfl, hb2⟩
        unfold ev
        go_wp2_with fail
        go_ret
        refine ⟨_, rfl, ?_, ?_⟩
        · rw [HF.out, hlk]
          exact hO.kept (⟨hb2.os, hb2.tape, hb2.output, hb2.size, fun j hj _ => hb2.block j hj⟩ : wr.grownBy w2 none) (by cases a <;> simp [Value.ownBlock])
        · exact hB.trans (hb2.mono hsz)
    · have hge : m ≤ (k : Int) := by omega
      have hfin : m.toNat = k := by omega
      have HF := Lib.hid hfin; clear hfin hin
      go_wp2_with fail
      go_ret
      refine ⟨_, rfl, ?_, hB⟩
      rw [HF.out, hlk]
      exact hO

end Go.Proofs.Ytbhpokcnkdgcmaa.HeapI
