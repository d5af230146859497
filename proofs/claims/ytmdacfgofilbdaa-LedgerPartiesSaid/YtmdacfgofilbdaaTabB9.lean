/- table B: what goes over a table. -/
import Derived.Test.YtmdacfgofilbdaaTabB5
import Derived.Test.YtmdacfgofilbdaaTabB8
set_option linter.unusedSimpArgs false
set_option linter.unusedVariables false
namespace Go.Proofs.Ytmdacfgofilbdaa.TabB
open Go.RowKit Go.Proofs.Ytmdacfgofilbdaa.TabL
attribute [local go_sem] Oper.semAt_some

abbrev Pr := Int × Int
def d0 : Pr := (0, 0)
/-- all of zs come, in order, where St is at the beginning and N all the time -/
def Gives2 (G : Nat) (lb : Array Value) (St N : World → Prop) (zs : List Pr) : Prop :=
  (∀ args w, (callFunc G args).run Try.prog w = .ok (.enter G args) w) ∧
  ∀ (n : Nat) (Inv : Nat → World → Prop), (∀ k W, Inv k W → N W) → (∀ k W m, Inv k W → Inv k (W.drewN m)) →
    IterOk Fence.wide n Try.prog G lb (fun k : Nat => #[ek (zs.getD k d0).1, ev (zs.getD k d0).2]) (fun W => St W ∧ Inv 0 W) (fun k W => k < zs.length ∧ Inv k W) (fun k W => Inv (k + 1) W) (Inv zs.length)

theorem yieldMono {F : Fence} {m : Nat} {P : Program} {l : Nat} {args : Array Value} {W : World} {R R' : Ending → World → Prop} (h : YieldAt F m P l args W R) (f : ∀ e w, R e w → R' e w) : YieldAt F m P l args W R' := by
  obtain ⟨fn, tmps, assign, body, hy, hR⟩ := h
  exact ⟨fn, tmps, assign, body, hy, RoundIn.mono hR f⟩
theorem kt_drewN {t : TypeId} (W : World) (n : Nat) : KT t W (W.drewN n) := ⟨Nat.le_refl _, fun _ _ _ h => h⟩
theorem ko_drewN (W : World) (n : Nat) : KeepsOthers W (W.drewN n) := ⟨Nat.le_refl _, fun _ _ h _ => h⟩

set_option maxRecDepth 100000 in
set_option maxHeartbeats 4000000 in
theorem all_gives (w0 : World) (B p : Nat) (q : Option Addr) (T0 : Tr) (hT : T w0 q T0) :
    Gives2 102 #[.pointer (some ⟨B, 0, none⟩)] (fun W => W.cell? ⟨B, 0, none⟩ = some (.pointer (some ⟨p, 0, none⟩)) ∧ W.cell? ⟨p, 0, none⟩ = some (.pointer q)) (KT 145 w0) T0.toL := by
  refine ⟨enters_of Try.func102 (by kernel_rfl) rfl, fun n Inv hN hD => ?_⟩
  intro l Rc JX W1 hRc hJX hR0 hS0 hY
  obtain ⟨⟨c0, c1⟩, hI0⟩ := hS0
  have J := rise_in T0.toL d0 w0 l Rc JX Inv (n - 1) (fun k A m h => ⟨h.1.trans (kt_drewN A m), hD k A m h.2.1, hRc _ _ h.2.2 (ko_drewN A m)⟩)
    (fun k W hk h => yieldMono (hY k W ⟨hk, h.2.1⟩ h.2.2) (fun e W' h => h.elim (fun ⟨a, b, c⟩ => .inl ⟨a, hN _ _ b, b, c⟩) .inr)) T0 (n - 1) q [] [] W1 hT (by simp) ⟨hN _ _ hI0, hI0, hR0⟩
  have HJ := Lib.hid J
  clear J hY hI0 hR0 hRc hJX hN hD hT
  refine callsIn_of_wp Try.func102 rfl trivial ?_ rfl
  simp only [Try.ntmps102, List.size_toArray, List.length_cons, List.length_nil, Nat.reduceAdd, Nat.reduceSub, Array.replicate_succ, Array.replicate_zero, List.push_toArray, List.append_toArray, List.nil_append, List.cons_append]
  gi_wp2_with (refine ⟨trivial, (fun h => (by cases h)), ?_⟩; gi_at_call 103; refine HJ.out.mono ?_; rintro e w4 (⟨rfl, HK4⟩ | ⟨rfl, hJ⟩))
  · go_end0
    exact ⟨⟨_, rfl⟩, .inl ⟨by simpa using HK4.2.1, HK4.2.2⟩⟩
  · go_end0
    exact ⟨⟨_, rfl⟩, .inr hJ⟩

end Go.Proofs.Ytmdacfgofilbdaa.TabB
