/- money.Sum and money.Total: all numbers that come, added up as long as it can be told. -/
import Derived.Test.YtbhpokcnkdgcmaaMoney
import Derived.RangeFuncWrites
namespace Go.Proofs.Ytbhpokcnkdgcmaa
open Go.RowKit Go.Shelf
attribute [local go_sem] Oper.semAt_some

/-- all added up, in order; none: it can't be told -/
def accO (zs : List Int) : Option Int := zs.foldl (fun o x => o.bind fun s => if okA s x then some (s + x) else none) (some 0)
theorem accO_snoc (pre : List Int) (x : Int) : accO (pre ++ [x]) = (accO pre).bind fun s => if okA s x then some (s + x) else none := by simp [accO]
theorem accO_none (l : List Int) : l.foldl (fun o x => o.bind fun s => if okA s x then some (s + x) else none) (none : Option Int) = none := by
  induction l with
  | nil => rfl
  | cons a l ih => simpa using ih
theorem accO_prefix {pre zs : List Int} (h : pre <+: zs) (hn : accO pre = none) : accO zs = none := by
  obtain ⟨t, rfl⟩ := h
  unfold accO at hn ⊢
  rw [List.foldl_append, hn]
  exact accO_none t

set_option maxRecDepth 100000 in
set_option maxHeartbeats 2000000 in
theorem sum_stops (gf : Nat) (lb : Array Value) (zs : List Int) (N : Nat) (w0 w : World) (hb0 : Below w0.heap.size w0 w)
    (eg : ∀ args w, (callFunc gf args).run Try.prog w = .ok (.enter gf args) w)
    (hseq : ∀ n, 1 ≤ n → SeqStopsK Fence.wide n Try.prog gf lb (fun x : Int => #[Value.int .i64 x]) (Below w0.heap.size) (fun ys => ys = zs) (fun pre => pre <+: zs) N w0) :
    Calls Try.prog 77 #[.func (.func gf) #[] lb] w fun e w' => e = .returned (.tuple #[.int .i64 ((accO zs).getD 0), .bool (accO zs).isSome]) ∧ Below w.heap.size w w' := by
  refine (callsIn_wide (n := 4)).1 ?_
  refine callsIn_of_wp_marks Try.func77 rfl trivial ?_ rfl
  simp only [Try.ntmps77, List.size_toArray, List.length_cons, List.length_nil, Nat.reduceAdd, Nat.reduceSub, Array.replicate_succ, Array.replicate_zero, List.push_toArray, List.append_toArray, List.nil_append, List.cons_append]
  gi_wp2_with fail
  have bR := Boxed.new w 2 (.int .i64 0)
  have bO := Boxed.new (w.alloc (.cells #[.int .i64 0] 2)) 4 (.bool false)
  have bS := Boxed.new ((w.alloc (.cells #[.int .i64 0] 2)).alloc (.cells #[.bool false] 4)) 2 (.int .i64 0)
  rw [World.size_alloc] at bO
  rw [World.size_alloc, World.size_alloc] at bS
  have hB0 : Below w.heap.size w (((w.alloc (.cells #[.int .i64 0] 2)).alloc (.cells #[.bool false] 4)).alloc (.cells #[.int .i64 0] 2)) := (((Below.refl _ w).alloc (Nat.le_refl _) _).alloc (by simp) _).alloc (by simp; omega) _
  have hb1 := hb0.trans (hB0.mono hb0.size)
  refine wpIn_rangeFunc_ownG rfl (by omega) (gf := gf) (lb := lb) rfl trivial eg (hseq 3 (by omega)) belowK_t (belowK_b (by have := hb0.size; simp; omega)) hb1 (fun _ => rfl)
    (fun pre W => ((∃ s, accO pre = some s ∧ Boxed W (w.heap.size + 1 + 1) 2 (.int .i64 s)) ∧ Boxed W w.heap.size 2 (.int .i64 0) ∧ Boxed W (w.heap.size + 1) 4 (.bool false)) ∧ Below w.heap.size w W)
    (fun c pre W => (c = .ret ∧ accO pre = none ∧ Boxed W w.heap.size 2 (.int .i64 0) ∧ Boxed W (w.heap.size + 1) 4 (.bool false)) ∧ Below w.heap.size w W)
    (OwnFrom.and (Own.from (fun s A B row hs hg hr => by
      obtain ⟨⟨t, e, h1⟩, h2, h3⟩ := hs
      exact ⟨⟨t, e, boxed_own _ _ (fun _ : Unit => _) () A B row h1 hg hr⟩, boxed_own _ _ (fun _ : Unit => _) () A B row h2 hg hr, boxed_own _ _ (fun _ : Unit => _) () A B row h3 hg hr⟩) _) (ownFrom_below (Nat.le_refl _) (by simp; omega)))
    (fun c => OwnFrom.and (Own.from (fun s A B row hs hg hr => by
      obtain ⟨e0, e, h2, h3⟩ := hs
      exact ⟨e0, e, boxed_own _ _ (fun _ : Unit => _) () A B row h2 hg hr, boxed_own _ _ (fun _ : Unit => _) () A B row h3 hg hr⟩) _) (ownFrom_below (Nat.le_refl _) (by simp; omega)))
    ⟨⟨⟨0, rfl, bS⟩, (bR.alloc _).alloc _, bO.alloc _⟩, hB0⟩
    (fun x => { tmps := #[.func (.func gf) #[] lb, undef, .pointer (some ⟨w.heap.size, 0, none⟩), .pointer (some ⟨w.heap.size + 1, 0, none⟩), .pointer (some ⟨w.heap.size + 1 + 1, 0, none⟩), .int .i64 x, undef, .func (.func gf) #[] lb, .int .i64 x, undef, undef, undef, undef, undef, undef, undef, undef, undef], defers := [] }) ?assign ?body ?done ?stop
  case assign =>
    intro l x W K hK
    gi_wp2
    exact hK
  case body =>
    rintro l pre x W ⟨⟨⟨s, hs, h1⟩, h2, h3⟩, hB⟩ _
    have c1 := h1.cell
    have f1 := h1.frozen
    have c2 := h2.cell
    have f2 := h2.frozen
    have c3 := h3.cell
    have f3 := h3.frozen
    cases ho : okA s x
    · have ev : addV s x = 0 := by unfold addV; rw [ho]; rfl
      have hn : accO (pre ++ [x]) = none := by rw [accO_snoc, hs]; simp [ho]
      have Hs := Lib.hid hs; clear hs
      have Hn := Lib.hid hn; clear hn
      have Ho := Lib.hid ho; clear ho
      gi_wp2_with (refine ⟨trivial, ?_⟩; gi_at_call 17; refine (CallsIn.inRound l (callsIn_wide.2 (add_any _ _ _))).mono ?_; rintro e w' ⟨rfl, rfl⟩; rw [Ho.out, ev])
      exact ⟨((KeepsOthers.setCell _ _ _).trans ((KeepsOthers.setCell _ _ _).trans (KeepsOthers.setCell _ _ _))).from _, ⟨rfl, Hn.out, ((h2.other (by omega) _).set _).other (by omega) _, ((h3.other (by omega) _).other (by omega) _).set _⟩,
        ((hB.setCell (p := ⟨w.heap.size + 1 + 1, 0, none⟩) (by simp; omega) _).setCell (p := ⟨w.heap.size, 0, none⟩) (Nat.le_refl _) _).setCell (p := ⟨w.heap.size + 1, 0, none⟩) (by simp) _⟩
    · have ev : addV s x = s + x := by unfold addV; rw [ho]; rfl
      have hn : accO (pre ++ [x]) = some (s + x) := by rw [accO_snoc, hs]; simp [ho]
      have Hs := Lib.hid hs; clear hs
      have Hn := Lib.hid hn; clear hn
      have Ho := Lib.hid ho; clear ho
      have Hv := Lib.hid ev; clear ev
      gi_wp2_with (refine ⟨trivial, ?_⟩; gi_at_call 17; refine (CallsIn.inRound l (callsIn_wide.2 (add_any _ _ _))).mono ?_; rintro e w' ⟨rfl, rfl⟩; rw [Ho.out, Hv.out])
      exact ⟨(KeepsOthers.setCell _ _ _).from _, (Below.refl w0.heap.size W).setCell (p := ⟨w.heap.size + 1 + 1, 0, none⟩) (by have := hb0.size; simp; omega) _, ⟨⟨s + x, Hn.out, h1.set _⟩, h2.other (by omega) _, h3.other (by omega) _⟩, hB.setCell (p := ⟨w.heap.size + 1 + 1, 0, none⟩) (by simp; omega) _⟩
  case done =>
    rintro D ys W hD rfl ⟨⟨⟨s, hs, h1⟩, h2, h3⟩, hB⟩ hK
    have c1 := h1.cell
    have c2 := h2.cell
    have f2 := h2.frozen
    have c3 := h3.cell
    have f3 := h3.frozen
    have Hs := Lib.hid hs; clear hs
    gi_wp2
    have k1 := (KeepsOthers.setCell W ⟨w.heap.size, 0, none⟩ (.int .i64 s)).trans (KeepsOthers.setCell _ ⟨w.heap.size + 1, 0, none⟩ (.bool true))
    have hK' := k1.same D _ hK rfl
    have r1 := (h2.set (.int .i64 s)).other (B' := w.heap.size + 1) (by omega) (.bool true)
    have r2 := (h3.other (B' := w.heap.size) (by omega) (.int .i64 s)).set (.bool true)
    refine ⟨by simp, .inl ⟨_, _, rfl, run_takeDeferred hK', ?_⟩⟩
    have q1 := cell_kept r1.cell (grownBy_putObj' _ D (.deferred none)) (fun r e => by cases e; exact ⟨_, hK', rfl⟩)
    have q2 := cell_kept r2.cell (grownBy_putObj' _ D (.deferred none)) (fun r e => by cases e; exact ⟨_, hK', rfl⟩)
    refine ⟨.tuple #[.int .i64 s, .bool true], by simp [results, Try.f77, go_sem, q1, q2], ⟨by rw [Hs.out]; rfl, ?_⟩⟩
    exact ((hB.setCell (p := ⟨w.heap.size, 0, none⟩) (Nat.le_refl _) _).setCell (p := ⟨w.heap.size + 1, 0, none⟩) (by simp) _).trans (belowK_b (w := w) (Nat.le_refl _) _ D _ _ (by simp at hD; omega) hK' rfl rfl)
  case stop =>
    rintro D c pre W hD hp ⟨⟨rfl, hs, h2, h3⟩, hB⟩ hK
    have Hs := Lib.hid (accO_prefix hp hs); clear hs
    gi_wp2
    refine ⟨by simp, .inl ⟨_, _, rfl, run_takeDeferred hK, ?_⟩⟩
    have q1 := cell_kept h2.cell (grownBy_putObj' _ D (.deferred none)) (fun r e => by cases e; exact ⟨_, hK, rfl⟩)
    have q2 := cell_kept h3.cell (grownBy_putObj' _ D (.deferred none)) (fun r e => by cases e; exact ⟨_, hK, rfl⟩)
    refine ⟨.tuple #[.int .i64 0, .bool false], by simp [results, Try.f77, go_sem, q1, q2], ⟨by rw [Hs.out]; rfl, ?_⟩⟩
    exact hB.trans (belowK_b (w := w) (Nat.le_refl _) _ D _ _ (by simp at hD; omega) hK rfl rfl)

set_option maxHeartbeats 400000 in
/-- money.Total of a slice that holds zs -/
theorem total_any (a : Option Addr) (len cap : Nat) (zs : List Int) (w : World) (hr : zs.length * 8 ≤ 140737488351232) (hI : Ints w.heap.size w (.slice a len cap) zs) :
    Calls Try.prog 28 #[.slice a len cap] w fun e w' => e = .returned (.tuple #[.int .i64 ((accO zs).getD 0), .bool (accO zs).isSome]) ∧ Below w.heap.size w w' := by
  have hb : Below w.heap.size w (w.alloc (.cells #[.slice a len cap] 57)) := (Below.refl _ w).alloc (Nat.le_refl _) _
  have bN := Boxed.new w 57 (.slice a len cap)
  have hI2 := Lib.hid (hI.below hb); clear hI
  go_enter Try.func28, Try.ntmps28
  go_wp2_with fail
  refine (callsIn_wide (n := 4)).1 ((values_in Fence.wide 4 trivial rfl _ _ _ _).mono ?_); rintro e w' ⟨rfl, rfl⟩
  go_wp2_with fail
  have hw : Below (w.alloc (.cells #[.slice a len cap] 57)).heap.size (w.alloc (.cells #[.slice a len cap] 57)) (w.alloc (.cells #[.slice a len cap] 57)) := Below.refl _ _
  refine (sum_stops 100 #[.pointer (some ⟨w.heap.size, 0, none⟩)] zs zs.length _ _ hw (enters_of Try.func100 (by kernel_rfl) rfl) (fun n hn => ?_)).mono ?_
  · exact values_stops Fence.wide n trivial rfl hn w.heap.size _ _ zs hr _ (by simp) (Nat.le_refl _) bN.cell (by
      rcases hI2.out with h | ⟨b, off, c, h1, h2, h3⟩
      · exact .inl h
      · exact .inr ⟨b, off, c, h1, by simp; omega, h3⟩)
  · rintro e w' ⟨rfl, hb2⟩
    go_wp2_with fail
    go_ret2
    exact ⟨rfl, hb.trans (hb2.mono (by simp))⟩

end Go.Proofs.Ytbhpokcnkdgcmaa
