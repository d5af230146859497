/- check: One, Last, Kept, All (over the stores of price). Bids are read as pairs, as entries are. -/
import Derived.Test.YtnlhgnioedalpaaPriV
import Derived.Test.YtnlhgnioedalpaaPriceGrows
import Derived.Maps.OwnSet
set_option linter.unusedSimpArgs false
set_option linter.unusedVariables false
namespace Go.Proofs.Ytnlhgnioedalpaa.Pri
open Go.RowKit Go.Proofs.YtnlhgnioedalpaaW.PrintWords Go.Proofs.Ytnlhgnioedalpaa.PPricePlays Go.Maps
attribute [local go_sem] Oper.semAt_some

abbrev tB : TypeId := 57
/-- is a bid right? -/
def rightB (b : En) : Bool := decide (b.1 ≠ 0) && decide (0 ≤ b.2) && decide (b.2 ≤ 2199023255552)
/-- what is wrong with a bid -/
def oneN (b : En) (es : List En) (items : Int) : Int := if rightB b = false ∨ wi b.1 items = false then 1 else if askL es b.1 < b.2 then 50 else 0
/-- what is wrong with bids, behind some that were seen -/
def allR (es : List En) (items : Int) : List Int → List En → Int
  | _, [] => 0
  | seen, b :: r => if oneN b es items ≠ 0 then oneN b es items else if seen.contains b.1 = true then 5 else allR es items (b.1 :: seen) r
def allN (bs es : List En) (items : Int) : Int := if 64 < bs.length then 3 else allR es items [] bs
/-- is what was bid last there still? -/
def keptB (old now es : List En) : Bool := old.all (fun b => !(decide (b.2 < askL es b.1)) || now.contains b)
theorem blkB (W : World) (x y : Int) : Blk (W.alloc (.cells #[.int .u64 x, .int .i64 y] tB)) W.heap.size tB [.int .u64 x, .int .i64 y] := Blk.new W _ _
theorem right_any (W : World) (x y : Int) : Calls Try.prog 71 #[.agg #[.int .u64 x, .int .i64 y]] W fun e w' => e = .returned (.bool (rightB (x, y))) ∧ Below W.heap.size W w' := by
  have HB := Lib.hid (show Below W.heap.size W (W.alloc (.cells #[.int .u64 x, .int .i64 y] tB)) from (Below.refl _ W).alloc (Nat.le_refl _) _)
  have c0 := (blkB W x y).cell (i := 0) rfl
  have c1 := (blkB W x y).cell (i := 1) rfl
  unfold rightB
  by_cases h0 : x = 0
  · subst h0
    go_enter Try.func71, Try.ntmps71
    go_wp2_with fail
    go_ret
    exact ⟨by simp, HB.out⟩
  · by_cases h1 : 0 ≤ y
    · by_cases h2 : y ≤ 2199023255552
      · go_enter Try.func71, Try.ntmps71
        go_wp2_with fail
        go_ret
        exact ⟨by simp [h0, h1, h2], HB.out⟩
      · go_enter Try.func71, Try.ntmps71
        go_wp2_with fail
        go_ret
        exact ⟨by simp [h0, h1, h2], HB.out⟩
    · go_enter Try.func71, Try.ntmps71
      go_wp2_with fail
      go_ret
      exact ⟨by simp [h0, h1]; omega, HB.out⟩
set_option maxRecDepth 100000 in
set_option maxHeartbeats 2000000 in
theorem last_any (W : World) (p : Nat) (es : List En) (x y : Int) (h : SR W p es) (hx : U x) :
    Calls Try.prog 34 #[.agg #[.int .u64 x, .int .i64 y], .pointer (some ⟨p, 0, none⟩)] W fun e w' => e = .returned (.bool (decide (y < askL es x))) ∧ Below W.heap.size W w' := by
  have hal : Below W.heap.size W (W.alloc (.cells #[.int .u64 x, .int .i64 y] tB)) := (Below.refl _ W).alloc (Nat.le_refl _) _
  have hb := blkB W x y
  have c0 := hb.cell (i := 0) rfl
  have c1 := hb.cell (i := 1) rfl
  obtain ⟨a, ha⟩ : ∃ a, askL es x = a := ⟨_, rfl⟩
  have AK := fun (w : World) (hw : SR w p es) => ask_c w p es x a hw hx ha
  rw [ha]
  have HAK := Lib.hid AK; have HS := Lib.hid (h.below hal); have HB := Lib.hid hal; have HBL := Lib.hid hb
  clear h hal hb AK ha
  go_enter Try.func34, Try.ntmps34
  go_wp2_with fail
  go_region_held3 (fun w' => w'.cell? ⟨W.heap.size, 0, none⟩ = some (.int .u64 x) ∧ w'.cell? ⟨W.heap.size, 1, none⟩ = some (.int .i64 y)) (go_keep) ((refine (HAK.out _ (HS.out.below ((Below.refl _ _).drew))).mono ?_; rintro e w1 ⟨rfl, hb1⟩; have q0 := ((HBL.out.drew).belowS hb1).cell (i := 0) rfl; have q1 := ((HBL.out.drew).belowS hb1).cell (i := 1) rfl))
  all_goals
    have HB1 := Lib.hid (HB.out.trans ((Below.drew (Below.refl _ _)).trans (hb1.mono (Nat.le_refl _)) |>.mono HB.out.size))
    clear q0 q1 hb1
    go_wp2_with fail
    go_ret
    exact ⟨rfl, HB1.out⟩
set_option maxRecDepth 100000 in
set_option maxHeartbeats 4000000 in
theorem one_any (W : World) (p : Nat) (es : List En) (x y items : Int) (h : SR W p es) (hx : U x) (hi : U items) :
    Calls Try.prog 32 #[.agg #[.int .u64 x, .int .i64 y], .pointer (some ⟨p, 0, none⟩), .int .u64 items] W fun e w' => e = .returned (.int .i64 (oneN (x, y) es items)) ∧ Below W.heap.size W w' := by
  have hal : Below W.heap.size W (W.alloc (.cells #[.int .u64 x, .int .i64 y] tB)) := (Below.refl _ W).alloc (Nat.le_refl _) _
  have hb := blkB W x y
  have c0 := hb.cell (i := 0) rfl
  have c1 := hb.cell (i := 1) rfl
  obtain ⟨r, hr⟩ : ∃ r, rightB (x, y) = r := ⟨_, rfl⟩
  obtain ⟨wv, hw⟩ : ∃ wv, wi x items = wv := ⟨_, rfl⟩
  obtain ⟨a, ha⟩ : ∃ a, askL es x = a := ⟨_, rfl⟩
  have e1 : oneN (x, y) es items = if r = false ∨ wv = false then 1 else if a < y then 50 else 0 := by unfold oneN; rw [hr, hw, ha]
  rw [e1]
  have RI := right_any (W.alloc (.cells #[.int .u64 x, .int .i64 y] tB)) x y
  rw [hr] at RI
  have WI := fun (w : World) => within_any w x items hx hi
  rw [hw] at WI
  have AK := fun (w : World) (hw : SR w p es) => ask_c w p es x a hw hx ha
  have HRI := Lib.hid RI; have HWI := Lib.hid WI
  have HAK := Lib.hid AK; have HS := Lib.hid (h.below hal); have HB := Lib.hid hal; have HBL := Lib.hid hb
  clear h hal hb AK ha hr hw RI WI e1
  go_enter Try.func32, Try.ntmps32
  go_wp2_with fail
  refine HRI.out.mono ?_; rintro e w1 ⟨rfl, hb1⟩
  have HB1 := Lib.hid (HB.out.trans (hb1.mono HB.out.size)); have HS1 := Lib.hid (HS.out.below hb1); have HBL1 := Lib.hid (HBL.out.belowS hb1)
  have d0 := HBL1.out.cell (i := 0) rfl
  have d1 := HBL1.out.cell (i := 1) rfl
  clear hb1 c0 c1
  cases r with
  | false =>
    go_wp2_with fail
    go_ret
    exact ⟨by simp, HB1.out⟩
  | true =>
    go_wp2_with fail
    refine (HWI.out _).mono ?_; rintro e w2 ⟨rfl, rfl⟩
    cases wv with
    | false =>
      go_wp2_with fail
      go_ret
      exact ⟨by simp, HB1.out⟩
    | true =>
      go_wp2_with fail
      go_region_held3 (fun w' => w'.cell? ⟨W.heap.size, 0, none⟩ = some (.int .u64 x) ∧ w'.cell? ⟨W.heap.size, 1, none⟩ = some (.int .i64 y)) (go_keep) ((refine (HAK.out _ (HS1.out.below ((Below.refl _ _).drew))).mono ?_; rintro e w2 ⟨rfl, hb2⟩; have q0 := ((HBL1.out.drew).belowS hb2).cell (i := 0) rfl; have q1 := ((HBL1.out.drew).belowS hb2).cell (i := 1) rfl))
      all_goals
        have HB2 := Lib.hid (HB1.out.trans ((Below.drew (Below.refl _ _)).trans (hb2.mono (Nat.le_refl _)) |>.mono HB1.out.size))
        clear q0 q1 hb2
        by_cases hay : a < y
        · go_wp2_with fail
          go_ret
          exact ⟨by simp [hay], HB2.out⟩
        · go_wp2_with fail
          go_ret
          exact ⟨by simp [hay], HB2.out⟩
end Go.Proofs.Ytnlhgnioedalpaa.Pri
