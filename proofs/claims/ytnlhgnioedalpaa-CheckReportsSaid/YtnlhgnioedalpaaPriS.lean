/- price: the other methods of a store. -/
import Derived.Test.YtnlhgnioedalpaaPriP
import Derived.BigQuiet
set_option linter.unusedSimpArgs false
set_option linter.unusedVariables false
namespace Go.Proofs.Ytnlhgnioedalpaa.Pri
open Go.RowKit Go.Proofs.YtnlhgnioedalpaaW.PrintWords Go.Proofs.Ytnlhgnioedalpaa.PPricePlays
attribute [local go_sem] Oper.semAt_some

theorem wrap_succ {i : Nat} (h : i < 9223372036854775807) : wrap64 ((i : Int) + 1) = ((i + 1 : Nat) : Int) := by unfold wrap64; omega
theorem rdE (l : List En) {i : Nat} (hi : i < l.length) : rd_T41 (l.map toE) (i : Int) = toE l[i] := by simp [rd_T41, hi]
theorem put_len (es : List En) (s a : Int) : (putP es s a).length ≤ es.length + 1 := by
  unfold putP
  split
  · have h1 : ∀ l : List En, (insL l s a).length = l.length + 1 := fun l => by
      induction l with
      | nil => rfl
      | cons e r ih => simp only [insL]; split <;> simp [ih]
    have h2 : (delL es s a).length ≤ es.length := List.length_filter_le ..
    rw [h1]; omega
  · omega
theorem UE.put {es : List En} (h : UE es) {s : Int} (hs : U s) (a : Int) : UE (putP es s a) := by
  unfold putP
  split
  · intro e he
    rcases ins_mem.1 he with rfl | he
    · exact hs
    · exact h.del s a e he
  · exact h
theorem ofL_take {es : List En} {k : Nat} (hk : k < es.length) : ofL (es.take (k + 1)) = putP (ofL (es.take k)) (es.getD k dE).1 (es.getD k dE).2 := by
  rw [List.take_succ_eq_append_getElem hk, show es.getD k dE = es[k] from by simp [List.getD, hk]]
  unfold ofL
  rw [List.foldl_append]
  rfl
theorem SR.put {W W' : World} {p : Nat} {es : List En} {s a : Int} (h : SR W p es) (hs : U s) (hp : PR W' p (putP es s a)) (hl : es.length < 100000000) : SR W' p (putP es s a) :=
  ⟨hp, h.ue.put hs a, h.ti.put hs a, by have := put_len es s a; omega⟩
/-- Put, told of a store of puts -/
theorem sput_any (W : World) (p : Nat) (es : List En) (s a : Int) (h : SR W p es) (hs : U s) :
    Calls Try.prog 25 #[.pointer (some ⟨p, 0, none⟩), .int .u64 s, .int .i64 a] W fun e w' => e = .returned (.bool (okP es s a)) ∧ PR w' p (putP es s a) ∧ W.grownBy w' (some p) := put_any W p es s a h.pr h.ue h.ti hs h.len
theorem sput_anyF (W : World) (p : Nat) (es : List En) (s a : Int) (h : SR W p es) (hs : U s) :
    Calls Try.prog 25 #[.pointer (some ⟨p, 0, none⟩), .int .u64 s, .int .i64 a] W fun e w' => e = .returned (.bool (okP es s a)) ∧ PR w' p (putP es s a) ∧ W.grownBy w' (some p) ∧ NF W w' p := put_anyF W p es s a h.pr h.ue h.ti hs h.len
theorem sask_any (W : World) (p : Nat) (es : List En) (s : Int) (h : SR W p es) (hs : U s) :
    Calls Try.prog 21 #[.pointer (some ⟨p, 0, none⟩), .int .u64 s] W fun e w' => e = .returned (.int .i64 (askL es s)) ∧ Below W.heap.size W w' := ask_any W p es s h.pr h.ue hs (by have := h.len; omega)
set_option maxRecDepth 100000 in
set_option maxHeartbeats 4000000 in
theorem of_any (W : World) (v : Value) (es : List En) (h : PE W v es) (hU : UE es) (hl : es.length ≤ 1000000) :
    Calls Try.prog 23 #[v] W fun e w' => e = .returned (.pointer (some ⟨W.heap.size, 0, none⟩)) ∧ SR w' W.heap.size (ofL es) ∧ (ofL es).length ≤ es.length ∧ Below W.heap.size W w' := by
  have H := Lib.hid h
  obtain ⟨A, c, rfl, -⟩ := h
  have HS0 := Lib.hid (show SR (W.alloc (.cells #[.slice none 0 0] tS)) W.heap.size (ofL (es.take 0)) ∧ Below W.heap.size W (W.alloc (.cells #[.slice none 0 0] tS)) from
    ⟨⟨⟨_, Blk.new W _ _, pe_nil _⟩, by intro e he; simp [ofL] at he, Tight.nil, by simp [ofL]⟩, (Below.refl _ W).alloc (Nat.le_refl _) _⟩)
  go_enter Try.func23, Try.ntmps23
  go_wp2_with fail
  go_loopw [10] (fun i wr => ∃ k : Nat, k ≤ es.length ∧ i = .int .i64 (k : Int) ∧ SR wr W.heap.size (ofL (es.take k)) ∧ (ofL (es.take k)).length ≤ k ∧ Below W.heap.size W wr) (fun i _ => es.length - (intOf i).toNat)
  case atStart => exact ⟨0, Nat.zero_le _, rfl, HS0.out.1, by simp [ofL], HS0.out.2⟩
  case round =>
    clear HS0
    obtain ⟨k, hk, rfl, hS, hlen, hB⟩ := hrel
    by_cases hlt : k < es.length
    · obtain ⟨⟨x, y⟩, hx⟩ : ∃ x, es[k] = x := ⟨_, rfl⟩
      have hx2 : es[k]? = some (x, y) := by rw [List.getElem?_eq_getElem hlt, hx]
      have hgd : es.getD k dE = (x, y) := by rw [List.getD_eq_getElem?_getD, hx2]; rfl
      have hux : U x := hU _ (List.mem_of_getElem? hx2)
      obtain ⟨b3, off3, c4, e1, hlb, r0, r1⟩ := (H.out.below hB).at hx2
      obtain ⟨rfl, rfl⟩ : A = some ⟨b3, off3, none⟩ ∧ c = c4 := by injection e1 with e1 e2 e3; exact ⟨e1, e3⟩
      simp only at r0 r1
      have hal : Below wr.heap.size wr (wr.alloc (.cells #[.int .u64 x, .int .i64 y] tE)) := (Below.refl _ wr).alloc (Nat.le_refl _) _
      have hot := ofL_take hlt
      rw [hgd] at hot
      have HPUT := Lib.hid (sput_any _ W.heap.size (ofL (es.take k)) x y (hS.below hal) hux)
      have HS := Lib.hid (hS.below hal); have HOT := Lib.hid hot; have HB := Lib.hid (hB.trans (hal.mono hB.size))
      clear hx hx2 hgd e1 hal hot hS hB
      go_wp2_with fail
      refine HPUT.out.mono ?_; rintro e w1 ⟨rfl, hp1, hg1⟩
      have HN := Lib.hid (show SR w1 W.heap.size (ofL (es.take (k + 1))) ∧ (ofL (es.take (k + 1))).length ≤ k + 1 ∧ Below W.heap.size W w1 from by
        have hpl := put_len (ofL (es.take k)) x y
        rw [HOT.out]
        exact ⟨HS.out.put hux hp1 (by omega), by omega, HB.out.grown hg1 HB.out.size (fun r e => by cases e; exact Nat.le_refl _)⟩)
      clear hp1 hg1 HPUT
      go_wp2_with fail
      go_roundw
      case rel => exact ⟨k + 1, by omega, by simp, HN.out.1, HN.out.2.1, HN.out.2.2⟩
      case measure => simp [intOf]; omega
    · obtain rfl : k = es.length := by omega
      rw [List.take_length] at hS hlen
      go_wp2_with fail
      go_ret
      exact ⟨rfl, hS, hlen, hB⟩
end Go.Proofs.Ytnlhgnioedalpaa.Pri
