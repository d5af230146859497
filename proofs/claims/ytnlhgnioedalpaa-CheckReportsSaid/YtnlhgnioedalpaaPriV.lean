/- price: the example alive. -/
import Derived.Test.YtnlhgnioedalpaaPriS
set_option linter.unusedSimpArgs false
set_option linter.unusedVariables false
namespace Go.Proofs.Ytnlhgnioedalpaa.Pri
open Go.RowKit Go.Proofs.YtnlhgnioedalpaaW.PrintWords Go.Proofs.Ytnlhgnioedalpaa.PPricePlays
attribute [local go_sem] Oper.semAt_some

theorem ask_c (W : World) (p : Nat) (es : List En) (s m : Int) (h : SR W p es) (hs : U s) (hm : askL es s = m) :
    Calls Try.prog 21 #[.pointer (some ⟨p, 0, none⟩), .int .u64 s] W fun e w' => e = .returned (.int .i64 m) ∧ Below W.heap.size W w' := by
  have := sask_any W p es s h hs
  rw [hm] at this
  exact this
/-- entries stay where another store is written -/
theorem PE.turn {W W' : World} {v : Value} {l : List En} {p : Nat} {t : TypeId} {A2 : Option Addr} {n2 c2 : Nat} (h : PE W v l) (hb : Blk W p t [.slice A2 n2 c2]) (hg : W.grownBy W' (some p)) : PE W' v l := by
  obtain ⟨A, c, rfl, h1, h2, h3⟩ := h
  refine ⟨A, c, rfl, h1, h2, h3.1, h3.2.1, fun hpos => ?_⟩
  obtain ⟨a, rfl, hr⟩ := h3.2.2 hpos
  refine ⟨a, rfl, fun j x hx => ?_⟩
  obtain ⟨cs, hl, hk, hc⟩ := hr j x hx
  obtain rfl := k41_open hk
  refine ⟨_, hl, k41_mk W' x, fun i u hu => ?_⟩
  have hcu := hc i u hu
  have hsp := cell_spot hcu
  rw [hsp.1] at hcu ⊢
  by_cases hbp : (a.add (j * k41.sz + i)).block = p
  · exfalso
    rw [hbp] at hcu
    have := cell_of_row W p (a.add (j * k41.sz + i)).off [Value.slice A2 n2 c2].toArray t (0, 0) hb
    rw [this] at hcu
    obtain ⟨o, ho⟩ : ∃ o, (a.add (j * k41.sz + i)).off = o := ⟨_, rfl⟩
    rw [ho] at hcu
    have hint : ∃ q z, u = .int q z := by
      rcases (show i = 0 ∨ i = 1 by have := (List.getElem?_eq_some_iff.1 hu).1; simp at this; omega) with rfl | rfl
      · simp at hu; exact ⟨_, _, hu.symm⟩
      · simp at hu; exact ⟨_, _, hu.symm⟩
    obtain ⟨q, z, rfl⟩ := hint
    cases o with
    | zero => simp at hcu
    | succ o => simp at hcu
  · have e : W'.cell? ⟨(a.add (j * k41.sz + i)).block, (a.add (j * k41.sz + i)).off, none⟩ = W.cell? ⟨(a.add (j * k41.sz + i)).block, (a.add (j * k41.sz + i)).off, none⟩ := by
      unfold World.cell?
      rw [hg.block _ hsp.2 (by simpa using hbp)]
    rw [e]; exact hcu
theorem PR.turn {W W' : World} {p q : Nat} {l m : List En} (h : PR W q l) (hp : PR W p m) (hne : q ≠ p) (hg : W.grownBy W' (some p)) : PR W' q l := by
  obtain ⟨v, hb, hpe⟩ := h
  obtain ⟨u, kb, kpe⟩ := hp
  obtain ⟨A, c, rfl, -⟩ := kpe
  exact ⟨v, hb.kept hg (by simpa using hne), hpe.turn kb hg⟩
theorem SR.turn {W W' : World} {p q : Nat} {l m : List En} (h : SR W q l) (hp : SR W p m) (hne : q ≠ p) (hg : W.grownBy W' (some p)) : SR W' q l := ⟨h.pr.turn hp.pr hne hg, h.ue, h.ti, h.len⟩
def y1 : List En := [(3, 5)]
def y2 : List En := [(1, 3), (3, 5)]
def y3 : List En := [(1, 7)]
def y4 : List En := [(1, 7), (2, 4)]
theorem sr_nil (W : World) : SR (W.alloc (.cells #[.slice none 0 0] tS)) W.heap.size [] := ⟨⟨_, Blk.new W _ _, pe_nil _⟩, by intro e he; simp at he, Tight.nil, by simp⟩
def y5 : List En := [(3, 5), (1, 3)]
def cS : Nat → Int
  | 0 => 0
  | 1 => 3
  | _ => 18
/-- what the example's range holds -/
def CI (w8 : World) (q k : Nat) (W' : World) : Prop := Blk W' w8.heap.size 3 [.int .i64 (cS k)] ∧ Blk W' (w8.heap.size + 1) 25 [.pointer (some ⟨q, 0, none⟩)] ∧ Below w8.heap.size w8 W'
theorem CI.ownF (w8 : World) (q k : Nat) {b : Nat} (hb : w8.heap.size ≤ b) : OwnFrom b (fun (_ : Unit) W' => CI w8 q k W') :=
  OwnFrom.and (Own.from (blk_own _ _ (fun _ => _)) _) (OwnFrom.and (Own.from (blk_own _ _ (fun _ => _)) _) (ownFrom_below (Nat.le_refl _) hb))
end Go.Proofs.Ytnlhgnioedalpaa.Pri
