/- heap I: it is drained. -/
import Derived.Test.YtbhpokcnkdgcmaaHeapI8
import Derived.Sort.LoopGhostIn
set_option linter.unusedSimpArgs false
set_option linter.unusedVariables false
namespace Go.Proofs.Ytbhpokcnkdgcmaa.HeapI
open Go.RowKit Go.Shelf Go.Proofs.Ytbhpokcnkdgcmaa.HeapL
attribute [local go_sem] Oper.semAt_some

set_option maxHeartbeats 400000 in
theorem drain_any (W : World) (q : Option Addr) :
    Calls Try.prog 83 #[.pointer q] W fun e w' => e = .returned (.func (.func 114) #[] #[.pointer (some ⟨W.heap.size, 0, none⟩)]) ∧ w' = W.alloc (.cells #[.pointer q] 104) := by
  go_enter Try.func83, Try.ntmps83
  go_wp2_with fail
  go_ret
  exact ⟨rfl, rfl⟩

/-- a station of the draining: how many rounds at most are to come, the thing that is handed out, what is left -/
abbrev Gh := Nat × Int × List Int

set_option maxRecDepth 100000 in
set_option maxHeartbeats 4000000 in
theorem drain_iter (lt : Int → Int → Bool) (ho : Ord lt) (base p Fb B : Nat) (lb : Array Value) (n : Nat) (Inv : Nat → List Int → World → Prop) (Mid : Gh → World → Prop) (Fin : World → Prop)
    (hInv : ∀ m xs W, Inv m xs W → (∃ T, HS W base p lt Fb lb xs T) ∧ BF lt base p W Fb lb ∧ xs.length < 1099511627776 ∧ Boxed W B 104 (.pointer (some ⟨p, 0, none⟩)))
    (hmid : ∀ m x xs W W', Inv m (x :: xs) W → Fr base p 153 W W' → (∀ T, HS W base p lt Fb lb (x :: xs) T → HS W' base p lt Fb lb xs T) → Mid (m, x, xs) W')
    (hend : ∀ m W W', Inv m [] W → Below W.heap.size W W' → Fin W') :
    IterOk Fence.wide n Try.prog 114 #[.pointer (some ⟨B, 0, none⟩)] (fun (g : Gh) => #[ev g.2.1]) (fun W => ∃ m xs, Inv m xs W) Mid (fun g W => ∃ m' xs', m' < g.1 ∧ Inv m' xs' W) Fin := by
  intro l Rc JX W1 hRc hJX hR0 hS0 hY
  obtain ⟨m0, xs0, hI0⟩ := hS0
  refine callsIn_of_wp Try.func114 rfl trivial ?_ rfl
  simp only [Try.ntmps114, List.size_toArray, List.length_cons, List.length_nil, Nat.reduceAdd, Nat.reduceSub, Array.replicate_succ, Array.replicate_zero, List.push_toArray, List.append_toArray, List.nil_append, List.cons_append]
  gi_wp2_with fail
  gi_loopg [] m0 (fun m wr => Rc wr ∧ ∃ xs, Inv m xs wr)
  case atStart => exact ⟨hR0, xs0, hI0⟩
  case round =>
    obtain ⟨hR, xs, hI⟩ := hrel
    obtain ⟨⟨T, hS⟩, hB, hsm, hbx⟩ := hInv _ _ _ hI
    have cb := hbx.cell
    have hlt := hS.lt'
    cases xs with
    | nil =>
      gi_wp2_with (refine ⟨trivial, (fun h => (by cases h)), ?_⟩; gi_at_call 84; refine CallsIn.mono (callsIn_wide.2 (pop_hs_nil lt _ base p Fb lb T hS)) ?_; rintro e w2 ⟨rfl, hb⟩; unfold ev)
      refine ⟨fun _ h => (by cases h), ?_⟩
      gi_wp2
      refine bodyPost_ret (results_none rfl _ _ _) rfl ?_
      exact ⟨⟨_, rfl⟩, .inl ⟨hend _ _ _ hI (hb), hRc _ _ hR (belowOthers hb)⟩⟩
    | cons x xs =>
      simp only [List.length_cons] at hsm
      obtain ⟨es0, _, hM0⟩ := hS.length
      obtain ⟨_, vv, hPb, _⟩ := hM0
      obtain ⟨kx, rfl⟩ : ∃ y, y = x := ⟨_, rfl⟩
      have hbs := hS.lt'
      gi_wp2_with (refine ⟨trivial, (fun h => (by cases h)), ?_⟩; gi_at_call 84; refine CallsIn.mono (callsIn_wide.2 (pop_hs_cons lt ho _ base p Fb lb kx xs T (by omega) hS hB)) ?_; rintro e w2 ⟨rfl, hS2, hF2⟩; have hz2 := hF2.size; have hF3 := hF2; have hMd := hmid gk kx xs wr _ hI hF3 (fun T' hS' => (by rw [← hS.turn hS']; exact hS2)); have hR3 := hRc _ _ hR (hF3.others hPb); obtain ⟨fn, tmps, assign, body, hy, hRn⟩ := hY (gk, kx, xs) _ hMd hR3; dsimp only [ev] at hy; unfold ev)
      refine ⟨fun h => (by cases h), ?_⟩
      refine hRn.mono ?_
      rintro e W3 (⟨rfl, ⟨m', xs', hlt', hI'⟩, hR'⟩ | ⟨rfl, hJ⟩)
      · gi_wp2
        gi_roundg m'
        case rel => exact ⟨hR', xs', hI'⟩
        case measure => exact hlt'
      · gi_wp2
        refine bodyPost_ret (results_none rfl _ _ _) rfl ?_
        exact ⟨⟨_, rfl⟩, .inr hJ⟩

end Go.Proofs.Ytbhpokcnkdgcmaa.HeapI
