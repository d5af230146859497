/- the document's answer of layer 13: Put, Of, Same. -/
import Derived.Test.YtbhpokcnkdgcmaaHeapP13
import Derived.BigRegion
set_option linter.unusedSimpArgs false
set_option linter.unusedVariables false
namespace Go.Proofs.Ytbhpokcnkdgcmaa.HeapP
open Go.RowKit Go.Shelf Go.Proofs.Ytbhpokcnkdgcmaa.HeapL
attribute [local go_sem] Oper.semAt_some

def ltP (x y : Int × Int) : Bool := decide (x.1 < y.1)
theorem ltP_ord : Ord ltP where
  asym x y h := by simp [ltP] at *; omega
  tr x y z h1 h2 := by simp [ltP] at *; omega

theorem insV_none {α : Type} {lt : α → α → Bool} {x : α} {l : List α} (h : ∀ y ∈ l, lt x y = false) : insV lt x l = l ++ [x] := by
  induction l with
  | nil => rfl
  | cons y ys ih =>
    rw [insV, h y List.mem_cons_self, ih (fun z hz => h z (List.mem_cons_of_mem _ hz))]
    rfl
theorem insV_hit {α : Type} {lt : α → α → Bool} {x z : α} {l : List α} (h : ∃ y ∈ l, lt x y = true) : insV lt x (l ++ [z]) = insV lt x l ++ [z] := by
  induction l with
  | nil => obtain ⟨y, hy, _⟩ := h; cases hy
  | cons y ys ih =>
    rw [List.cons_append, insV, insV]
    cases hq : lt x y
    · obtain ⟨a, ha, hl⟩ := h
      rcases List.mem_cons.1 ha with rfl | ha
      · rw [hq] at hl; cases hl
      · rw [ih ⟨a, ha, hl⟩]; rfl
    · rfl
theorem insV_new {α : Type} {lt : α → α → Bool} {x z : α} {l : List α} (h : ∀ y ∈ l, lt x y = false) (hz : lt x z = true) : insV lt x (l ++ [z]) = l ++ [x] ++ [z] := by
  induction l with
  | nil => simp [insV, hz]
  | cons y ys ih =>
    rw [List.cons_append, insV, h y List.mem_cons_self, ih (fun z hz => h z (List.mem_cons_of_mem _ hz))]
    rfl

/-- how far Put has come -/
def PR (zs : List (Int × Int)) (p : Int × Int) (j : Nat) (db : Bool) (res : List (Int × Int)) : Prop :=
  (db = false ∧ res = zs.take j ∧ ∀ y ∈ zs.take j, ltP p y = false) ∨ (db = true ∧ res = insV ltP p (zs.take j) ∧ ∃ y ∈ zs.take j, ltP p y = true)

theorem PR.stay {zs : List (Int × Int)} {p : Int × Int} {j : Nat} {res : List (Int × Int)} {z : Int × Int} (hj : j < zs.length) (hz : zs[j] = z) (h : PR zs p j true res) : PR zs p (j + 1) true (res ++ [z]) := by
  rcases h with ⟨h, _⟩ | ⟨_, rfl, hh⟩
  · cases h
  · refine .inr ⟨rfl, ?_, ?_⟩
    · rw [List.take_succ_eq_append_getElem hj, hz, insV_hit hh]
    · rw [List.take_succ_eq_append_getElem hj]
      obtain ⟨y, hy, hl⟩ := hh
      exact ⟨y, List.mem_append_left _ hy, hl⟩
theorem PR.two {zs : List (Int × Int)} {p : Int × Int} {j : Nat} {res : List (Int × Int)} {z : Int × Int} (hj : j < zs.length) (hz : zs[j] = z) (h : PR zs p j false res) (hl : ltP p z = true) : PR zs p (j + 1) true (res ++ [p] ++ [z]) := by
  rcases h with ⟨_, rfl, hh⟩ | ⟨h, _⟩
  · refine .inr ⟨rfl, ?_, ?_⟩
    · rw [List.take_succ_eq_append_getElem hj, hz, insV_new hh hl]
    · rw [List.take_succ_eq_append_getElem hj]
      exact ⟨z, by simp [hz], hl⟩
  · cases h
theorem PR.one {zs : List (Int × Int)} {p : Int × Int} {j : Nat} {res : List (Int × Int)} {z : Int × Int} (hj : j < zs.length) (hz : zs[j] = z) (h : PR zs p j false res) (hl : ltP p z = false) : PR zs p (j + 1) false (res ++ [z]) := by
  rcases h with ⟨_, rfl, hh⟩ | ⟨h, _⟩
  · refine .inl ⟨rfl, ?_, ?_⟩
    · rw [List.take_succ_eq_append_getElem hj, hz]
    · rw [List.take_succ_eq_append_getElem hj]
      intro y hy
      rcases List.mem_append.1 hy with hy | hy
      · exact hh y hy
      · simp at hy; rw [hy, hz]; exact hl
  · cases h
theorem PR.end1 {zs : List (Int × Int)} {p : Int × Int} {res : List (Int × Int)} (h : PR zs p zs.length true res) : res = insV ltP p zs := by
  rcases h with ⟨h, _⟩ | ⟨_, rfl, _⟩
  · cases h
  · rw [List.take_length]
theorem PR.end0 {zs : List (Int × Int)} {p : Int × Int} {res : List (Int × Int)} (h : PR zs p zs.length false res) : res ++ [p] = insV ltP p zs := by
  rcases h with ⟨_, rfl, hh⟩ | ⟨h, _⟩
  · rw [List.take_length] at hh ⊢
    exact (insV_none hh).symm
  · cases h
theorem PR.len {zs : List (Int × Int)} {p : Int × Int} {j : Nat} {db : Bool} {res : List (Int × Int)} (h : PR zs p j db res) : res.length ≤ j + 1 := by
  rcases h with ⟨_, rfl, _⟩ | ⟨_, rfl, _⟩
  · rw [List.length_take]; omega
  · rw [insV_length, List.length_take]; omega

theorem own_slice {W : World} {base : Nat} {e : TypeId} {size n : Nat} {v : Value} {xs : List Value} (h : W.ownsRow base e size v n xs) : ∃ a cap, v = .slice a n cap := by
  rcases h.2 with ⟨e, h0⟩ | ⟨g, cap, cur, e, _⟩
  · exact ⟨none, 0, by rw [e, h0]⟩
  · exact ⟨_, cap, e⟩
theorem own_le {w : World} {base base' size n : Nat} {e : TypeId} {v : Value} {xs : List Value} (h : w.ownsRow base e size v n xs) (hb : base' ≤ base) : w.ownsRow base' e size v n xs := by
  refine ⟨h.1, ?_⟩
  rcases h.2 with h0 | ⟨g, cap, cur, rfl, h1, rest⟩
  · exact .inl h0
  · exact .inr ⟨g, cap, cur, rfl, by omega, rest⟩
theorem undrew {A B : World} {r : Option Nat} (h : A.drew.grownBy B r) : A.grownBy B r := ⟨h.os, h.tape, h.output, h.size, h.block⟩
theorem below_app {W wr w3 : World} {sz n size : Nat} {e : TypeId} {v : Value} {xs : List Value} {o : Obj} {ow : Option Nat} (hB : Below W.heap.size W wr) (hO : wr.ownsRow sz e size v n xs) (hs : W.heap.size ≤ sz) (ho : ow = v.ownBlock) (hg : (wr.alloc o).grownBy w3 ow) : Below W.heap.size W w3 :=
  (hB.alloc hB.size o).grown hg (by have := hB.size; simp; omega) (fun r hr => Nat.le_trans hs (own_typ hO r (ho ▸ hr)).1)
theorem cell_app {wr w3 : World} {sz n size : Nat} {e : TypeId} {v : Value} {xs : List Value} {o : Obj} {b : Nat} {ow : Option Nat} (i : Nat) (hb : b < wr.heap.size) (hO : wr.ownsRow sz e size v n xs) (hs : b < sz) (ho : ow = v.ownBlock) (hg : (wr.alloc o).grownBy w3 ow) : w3.cell? ⟨b, i, none⟩ = wr.cell? ⟨b, i, none⟩ := by
  have h1 : w3.heap[b]? = wr.heap[b]? := (hg.block b (by simp; omega) (fun h => by have := (own_typ hO b (ho ▸ h.symm)).1; omega)).trans (Below.heap_alloc wr o b hb)
  unfold World.cell?
  simp [h1]
theorem blk_app {wr w3 : World} {sz n size : Nat} {e t : TypeId} {v : Value} {xs l : List Value} {o : Obj} {b : Nat} {ow : Option Nat} (hb : Blk wr b t l) (hO : wr.ownsRow sz e size v n xs) (hs : b < sz) (ho : ow = v.ownBlock) (hg : (wr.alloc o).grownBy w3 ow) : Blk w3 b t l :=
  (hb.alloc o).kept hg (fun h => by have := (own_typ hO b (ho ▸ h.symm)).1; omega)

set_option maxRecDepth 100000 in
set_option maxHeartbeats 4000000 in
theorem put_ref (W : World) (sv : Value) (zs : List (Int × Int)) (k v : Int) (hsm : zs.length < 1099511627776) (hR : Rd cv 2 W.heap.size W sv zs) :
    Calls Try.prog 33 #[sv, .agg #[.int .i64 k, .int .i64 v]] W fun e w' => ∃ u, e = .returned u ∧ w'.ownsRow W.heap.size 37 2 u (insV ltP (k, v) zs).length (cellsOf cv (insV ltP (k, v) zs)) ∧ Below W.heap.size W w' := by
  obtain ⟨i0, hi0, hiz0, hiz1, hiz2⟩ := info_parts infoX
  have hR' : ∃ a cap, sv = .slice a zs.length cap ∧ ∀ j x, zs[j]? = some x → ∃ b off, a = some ⟨b, off, none⟩ ∧ b < W.heap.size ∧ W.cell? ⟨b, off + j * 2, none⟩ = some (.int .i64 x.1) ∧ W.cell? ⟨b, off + j * 2 + 1, none⟩ = some (.int .i64 x.2) := by
    rcases hR with ⟨a, cap, rfl, rfl⟩ | ⟨b, off, cap, rfl, hlt, hc⟩
    · exact ⟨_, _, rfl, fun j x hx => by simp at hx⟩
    · exact ⟨_, _, rfl, fun j x hx => ⟨b, off, rfl, hlt, hc j x hx 0 _ rfl, hc j x hx 1 _ rfl⟩⟩
  clear hR
  obtain ⟨a, cap, rfl, hc⟩ := hR'
  go_enter Try.func33, Try.ntmps33
  go_wp2_with fail
  go_loopw [5, 6, 7] (fun o d i wr => ∃ j : Nat, j ≤ zs.length ∧ i = .int .i64 j ∧ ∃ (db : Bool) (res : List (Int × Int)), d = .bool db ∧ PR zs (k, v) j db res ∧ wr.ownsRow (W.heap.size + 1) 37 2 o res.length (cellsOf cv res) ∧ Blk wr W.heap.size 37 [.int .i64 k, .int .i64 v] ∧ Below W.heap.size W wr)
    (fun _ _ i _ => zs.length - (intOf i).toNat)
  case atStart =>
    refine ⟨0, Nat.zero_le _, rfl, false, [], rfl, .inl ⟨rfl, rfl, by simp⟩, ?_, (Blk.new W [.int .i64 k, .int .i64 v] _).alloc _, bel_alloc2 W _ _⟩
    have := World.ownsRow_lit (base := W.heap.size + 1) (e := 37) (size := 2) (W.alloc (.cells #[.int .i64 k, .int .i64 v] 37)) #[] 0 (by simp) (by decide) rfl
    rw [World.size_alloc] at this
    exact this
  case round =>
    obtain ⟨j, hj, rfl, db, res, rfl, hP, hO, hx, hB⟩ := hrel
    obtain ⟨oa, oc, rfl⟩ := own_slice hO
    have hxl := hx.lt
    have hlen := hP.len
    have hbs := hB.size
    by_cases hjl : j < zs.length
    · obtain ⟨z, hz⟩ : ∃ z, zs[j] = z := ⟨_, rfl⟩
      obtain ⟨b, off, rfl, hlt, z0, z1⟩ := hc j z (by rw [List.getElem?_eq_getElem hjl, hz])
      obtain ⟨zk, zv⟩ := z
      clear hc
      have y0 := (hB.cell (p := ⟨b, off + j * 2, none⟩) hlt).trans z0
      have y1 := (hB.cell (p := ⟨b, off + j * 2 + 1, none⟩) hlt).trans z1
      have hlt' : b < wr.heap.size := Nat.lt_of_lt_of_le hlt hB.size
      clear z0 z1
      have j0 : (0 : Int) ≤ (j : Int) := Int.natCast_nonneg _
      have j1 : (j : Int) < (zs.length : Int) := by omega
      have j3 : (j : Int) ≤ 9223372036854775807 := by omega
      have hx0 := hx.cell (i := 0) rfl
      have hx1 := hx.cell (i := 1) rfl
      cases db
      · by_cases hq : k < zk
        · have hP2 := Lib.hid (hP.two hjl hz (by simp [ltP]; exact hq))
          clear hP hz
          go_wp2_with fail
          go_region_held3 (fun w' => w'.cell? ⟨b, off + j * 2, none⟩ = some (.int .i64 zk) ∧ w'.cell? ⟨W.heap.size, 0, none⟩ = some (.int .i64 k)) (go_keep) (fail)
          have hO1 := hO.drew
          have hx' := hx.drew
          have y0' : wr.drew.cell? ⟨b, off + j * 2, none⟩ = _ := y0
          have y1' : wr.drew.cell? ⟨b, off + j * 2 + 1, none⟩ = _ := y1
          have x0' : wr.drew.cell? ⟨W.heap.size, 0, none⟩ = _ := hx0
          have x1' : wr.drew.cell? ⟨W.heap.size, 1, none⟩ = _ := hx1
          have hB' := hB.drew
          obtain ⟨W5, hW5⟩ : ∃ W5, wr.drew = W5 := ⟨_, rfl⟩
          have hz5 : wr.heap.size ≤ W5.heap.size := by rw [← hW5]; exact Nat.le_refl _
          rw [hW5] at hO1 hx' y0' y1' x0' x1' hB' ⊢
          clear hW5 hO hx y0 y1 hx0 hx1 hB
          go_wp2_with (first
            | (at_builtin; refine wpList_append_own _ rfl _ _ 39 rfl (W.heap.size + 1) 37 i0 _ 2 16 Try.underlying39 hi0 hiz0 hiz1 hiz2 rfl (by decide) _ _ _ rfl (hO1.alloc _) ⟨W5.heap.size, 0, none⟩ 1 1 [.int .i64 k, .int .i64 v] rfl rfl (news_blk (Blk.new W5 [.int .i64 k, .int .i64 v] 37)) (by simp [Value.oneCell']) (by unfold maxLen; omega) (by omega) (by simp; omega) ?_; intro v3 w3 hO3 hg3 _; obtain ⟨g3, cap3, rfl⟩ := ownsRow_succ hO3; have hx3 := blk_app hx' hO1 (by omega) rfl hg3; have hB3 := below_app hB' hO1 (by omega) rfl hg3; have hz3 : W5.heap.size + 1 ≤ w3.heap.size := (by have := hg3.size; simpa using this); have y03 := (cell_app (b := b) (off + j * 2) (by omega) hO1 (by omega) rfl hg3).trans y0'; have y13 := (cell_app (b := b) (off + j * 2 + 1) (by omega) hO1 (by omega) rfl hg3).trans y1'; clear y0' y1' x0' x1' hx'; have hlt3 : b < w3.heap.size := by omega)
            | (at_builtin; refine wpList_append_own _ rfl _ _ 39 rfl (W.heap.size + 1) 37 i0 _ 2 16 Try.underlying39 hi0 hiz0 hiz1 hiz2 rfl (by decide) _ _ _ rfl (hO3.alloc _) ⟨w3.heap.size, 0, none⟩ 1 1 [.int .i64 zk, .int .i64 zv] rfl rfl (news_blk (Blk.new w3 [.int .i64 zk, .int .i64 zv] 37)) (by simp [Value.oneCell']) (by unfold maxLen; omega) (by omega) (by simp; omega) ?_; intro v4 w4 hO4 hg4 _; obtain ⟨g4, cap4, rfl⟩ := ownsRow_succ hO4))
          go_roundw
          case rel => exact ⟨j + 1, by omega, by simp, true, _, rfl, hP2.out, by rw [cellsOf_append, cellsOf_one, cellsOf_append, cellsOf_one, List.length_append, List.length_append]; exact hO4, blk_app hx3 hO3 (by omega) rfl hg4, below_app hB3 hO3 (by omega) rfl hg4⟩
          case measure => simp [intOf]; omega
        · have hP2 := Lib.hid (hP.one hjl hz (by simp [ltP]; omega))
          have hq' : zk ≤ k := by omega
          clear hP hz
          go_wp2_with fail
          go_region_held3 (fun w' => w'.cell? ⟨b, off + j * 2, none⟩ = some (.int .i64 zk) ∧ w'.cell? ⟨W.heap.size, 0, none⟩ = some (.int .i64 k)) (go_keep) (fail)
          have hO1 := hO.drew
          have hx' := hx.drew
          have y0' : wr.drew.cell? ⟨b, off + j * 2, none⟩ = _ := y0
          have y1' : wr.drew.cell? ⟨b, off + j * 2 + 1, none⟩ = _ := y1
          have hB' := hB.drew
          obtain ⟨W5, hW5⟩ : ∃ W5, wr.drew = W5 := ⟨_, rfl⟩
          have hz5 : wr.heap.size ≤ W5.heap.size := by rw [← hW5]; exact Nat.le_refl _
          rw [hW5] at hO1 hx' y0' y1' hB' ⊢
          clear hW5 hO hx y0 y1 hx0 hx1 hB
          go_wp2_with (at_builtin; refine wpList_append_own _ rfl _ _ 39 rfl (W.heap.size + 1) 37 i0 _ 2 16 Try.underlying39 hi0 hiz0 hiz1 hiz2 rfl (by decide) _ _ _ rfl (hO1.alloc _) ⟨W5.heap.size, 0, none⟩ 1 1 [.int .i64 zk, .int .i64 zv] rfl rfl (news_blk (Blk.new W5 [.int .i64 zk, .int .i64 zv] 37)) (by simp [Value.oneCell']) (by unfold maxLen; omega) (by omega) (by simp; omega) ?_; intro v3 w3 hO3 hg3 _; obtain ⟨g3, cap3, rfl⟩ := ownsRow_succ hO3)
          go_roundw
          case rel => exact ⟨j + 1, by omega, by simp, false, _, rfl, hP2.out, by rw [cellsOf_append, cellsOf_one, List.length_append]; exact hO3, blk_app hx' hO1 (by omega) rfl hg3, below_app hB' hO1 (by omega) rfl hg3⟩
          case measure => simp [intOf]; omega
      · have hP2 := Lib.hid (hP.stay hjl hz)
        clear hP hz
        go_wp2_with fail
        go_region
        go_wp2_with (at_builtin; refine wpList_append_own _ rfl _ _ 39 rfl (W.heap.size + 1) 37 i0 _ 2 16 Try.underlying39 hi0 hiz0 hiz1 hiz2 rfl (by decide) _ _ _ rfl (hO.alloc _) ⟨wr.heap.size, 0, none⟩ 1 1 [.int .i64 zk, .int .i64 zv] rfl rfl (news_blk (Blk.new wr [.int .i64 zk, .int .i64 zv] 37)) (by simp [Value.oneCell']) (by unfold maxLen; omega) (by omega) (by simp; omega) ?_; intro v' w3 hO3 hg3 _; obtain ⟨g', cap', rfl⟩ := ownsRow_succ hO3)
        go_roundw
        case rel => exact ⟨j + 1, by omega, by simp, true, _, rfl, hP2.out, by rw [cellsOf_append, cellsOf_one, List.length_append]; exact hO3, blk_app (o := .cells #[.int .i64 zk, .int .i64 zv] 37) hx hO (by omega) rfl (undrew hg3), below_app (o := .cells #[.int .i64 zk, .int .i64 zv] 37) hB hO (by omega) rfl (undrew hg3)⟩
        case measure => simp [intOf]; omega
    · obtain rfl : j = zs.length := by omega
      have hx0 := hx.cell (i := 0) rfl
      have hx1 := hx.cell (i := 1) rfl
      clear hc
      cases db
      · have hP2 := Lib.hid hP.end0
        clear hP
        go_wp2_with (at_builtin; refine wpList_append_own _ rfl _ _ 39 rfl (W.heap.size + 1) 37 i0 _ 2 16 Try.underlying39 hi0 hiz0 hiz1 hiz2 rfl (by decide) _ _ _ rfl (hO.alloc _) ⟨wr.heap.size, 0, none⟩ 1 1 [.int .i64 k, .int .i64 v] rfl rfl (news_blk (Blk.new wr [.int .i64 k, .int .i64 v] 37)) (by simp [Value.oneCell']) (by unfold maxLen; omega) (by omega) (by simp; omega) ?_; intro v3 w3 hO3 hg3 _; obtain ⟨g3, cap3, rfl⟩ := ownsRow_succ hO3)
        go_ret
        exact ⟨_, rfl, by rw [← hP2.out, cellsOf_append, cellsOf_one, List.length_append]; exact own_le hO3 (by omega), below_app hB hO (by omega) rfl hg3⟩
      · have hP2 := Lib.hid hP.end1
        clear hP
        go_wp2_with fail
        go_ret
        exact ⟨_, rfl, by rw [← hP2.out]; exact own_le hO (by omega), hB⟩

end Go.Proofs.Ytbhpokcnkdgcmaa.HeapP
