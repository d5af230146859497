/- DelR, DelX, DeltaBooks, laid together. -/
import Derived.Test.YtnlhgnioedalpaaGr13
import Derived.Test.YtnlhgnioedalpaaGr15
import Derived.Test.YtnlhgnioedalpaaPDeltaBooksx0

/- delta: what is written is read as it. -/
set_option linter.unusedSimpArgs false
set_option linter.unusedVariables false
namespace Go.Proofs.Ytnlhgnioedalpaa.Cod
open Go.Proofs.Ytnlhgnioedalpaa.CodL
open Go.Proofs.Ytnlhgnioedalpaa.Pri (Ch)

theorem takeC_wr {q : Ch} (h0 : 0 ≤ q.1 ∧ q.1 < 64) (hu : 0 ≤ q.2.1 ∧ q.2.1 < 18446744073709551616) (ha : -9223372036854775808 ≤ q.2.2 ∧ q.2.2 ≤ 9223372036854775807) (rest : List Int) : takeC (wrC q ++ rest, 0) = ((rest, 0), q) := by
  obtain ⟨x, y, z⟩ := q
  dsimp only at h0 hu ha
  obtain ⟨n, rfl⟩ : ∃ n : Nat, x = (n : Int) := ⟨x.toNat, by omega⟩
  obtain ⟨m, rfl⟩ : ∃ n : Nat, y = (n : Int) := ⟨y.toNat, by omega⟩
  have e1 : (max (n : Int) 0).toNat = n := by omega
  unfold takeC wrC
  dsimp only
  rw [e1, Int.toNat_natCast, List.append_assoc, List.append_assoc, takeU_uv (by omega)]
  dsimp only
  rw [takeU_uv (by omega)]
  dsimp only
  rw [takeI_uv ha]
  dsimp only
  rw [if_pos (by omega)]
theorem takeL_wr {cs : List Ch} (h0 : ∀ q ∈ cs, (0 ≤ q.1 ∧ q.1 < 64) ∧ (0 ≤ q.2.1 ∧ q.2.1 < 18446744073709551616) ∧ (-9223372036854775808 ≤ q.2.2 ∧ q.2.2 ≤ 9223372036854775807)) (rest : List Int) : ∀ out : List Ch, takeL takeC cs.length (cs.flatMap wrC ++ rest, 0) out = ((rest, 0), out ++ cs) := by
  induction cs with
  | nil => intro out; simp [takeL]
  | cons n ns ih =>
    intro out
    obtain ⟨h1, h2, h3⟩ := h0 n List.mem_cons_self
    rw [List.length_cons, takeL, List.flatMap_cons, List.append_assoc]
    rw [takeC_wr h1 h2 h3]
    dsimp only
    rw [if_pos rfl, ih (fun x hx => h0 x (List.mem_cons_of_mem _ hx))]
    simp
theorem allC_wr {cs : List Ch} (h0 : ∀ q ∈ cs, (0 ≤ q.1 ∧ q.1 < 64) ∧ (0 ≤ q.2.1 ∧ q.2.1 < 18446744073709551616) ∧ (-9223372036854775808 ≤ q.2.2 ∧ q.2.2 ≤ 9223372036854775807)) (hl : cs.length ≤ 4096) : allN takeC (wrL cs) 4096 = (cs, 0) := by
  have h := takeL_wr h0 [] []
  rw [List.append_nil, List.nil_append] at h
  have hN : takeN takeC (wrL cs, 0) 4096 = (([], 0), cs) := by
    unfold takeN wrL
    rw [takeU_uv (by omega)]
    dsimp only
    rw [if_pos rfl, if_neg (by omega), h]
    dsimp only
    rw [if_pos rfl]
  unfold allN
  rw [hN]
  dsimp only
  rw [if_pos rfl, if_neg (by simp)]
theorem readC_wr {cs : List Ch} (h0 : ∀ q ∈ cs, (0 ≤ q.1 ∧ q.1 < 64) ∧ (0 ≤ q.2.1 ∧ q.2.1 < 18446744073709551616) ∧ (-9223372036854775808 ≤ q.2.2 ∧ q.2.2 ≤ 9223372036854775807)) (hl : cs.length ≤ 4096) : readC (wrL cs) = (cs, 0) := by
  refine readC_ok (allC_wr h0 hl) (fun h => ?_)
  have h2 := h.2
  rw [List.any_eq_true] at h2
  obtain ⟨q, hq, hn⟩ := h2
  unfold negC at hn
  have := (h0 q hq).1
  simp at hn
  omega
end Go.Proofs.Ytnlhgnioedalpaa.Cod

/- delta: law12's alive. -/
set_option linter.unusedSimpArgs false
set_option linter.unusedVariables false
namespace Go.Proofs.Ytnlhgnioedalpaa.Pri
open Go.RowKit Go.Proofs.YtnlhgnioedalpaaW.PrintWords Go.Proofs.Ytnlhgnioedalpaa.PPricePlays Go.Maps
open Go.Proofs.Ytnlhgnioedalpaa.Cod (PC cP3 cP3_length pc_own infoC grown_own KTy.setOther wrL readC readC_wr write_any read_any goodC)
attribute [local go_sem] Oper.semAt_some

def L0 : List (List En) := [[(1, 3)]]
def N0 : List (List En) := [[(1, 3), (2, 2)]]
def D0 : List Ch := [(0, 2, 2)]
theorem L0_u : ∀ l ∈ L0, UE l := by
  intro l hl e he
  simp [L0] at hl
  subst hl
  simp at he
  subst he
  exact ⟨by decide, by decide⟩
theorem N0_u : ∀ l ∈ N0, UE l := by
  intro l hl e he
  simp [N0] at hl
  subst hl
  simp at he
  rcases he with rfl | rfl <;> exact ⟨by decide, by decide⟩
theorem diff0 : diffL L0 N0 = D0 := by decide +kernel
theorem apply0 : applyL L0 D0 = N0 := by decide +kernel
theorem sum0 : sumL N0 = 5 := by decide +kernel
theorem uv_bytes (cs : List Ch) : ∀ x ∈ wrL cs, 0 ≤ x ∧ x < 256 := by
  intro x hx
  unfold wrL at hx
  rw [List.mem_append] at hx
  rcases hx with hx | hx
  · exact CodL.uv_byte _ x hx
  · rw [List.mem_flatMap] at hx
    obtain ⟨q, _, hx⟩ := hx
    unfold Cod.wrC at hx
    rw [List.mem_append, List.mem_append] at hx
    rcases hx with (hx | hx) | hx <;> exact CodL.uv_byte _ x hx
theorem pee_one {W : World} {b : Nat} {A : Option Addr} {l : List En} {c : Nat} {t : TypeId} (hb : Blk W b t [.slice A l.length c]) (hp : PE W (.slice A l.length c) l) : PEE W (.slice (some ⟨b, 0, none⟩) 1 1) [l] := by
  refine ⟨_, 1, rfl, fun i l' hi => ?_⟩
  have hi0 : i = 0 := by have := (List.getElem?_eq_some_iff.1 hi).1; simpa using this
  subst hi0
  obtain rfl : l = l' := by simpa using hi
  exact ⟨b, 0, A, c, rfl, hb.lt, hb.cell rfl, hp⟩
theorem cap_own {w : World} {base n c : Nat} {e : TypeId} {A : Option Addr} {xs : List Value} (h : w.ownsRow base e 1 (.slice A n c) n xs) : A = none → c = 0 := fun hA => by
  subst hA
  rcases h.2 with ⟨h1, _⟩ | ⟨g, cap, cur, h1, _⟩
  · injection h1
  · cases h1
def okC3 (cs : List Ch) : Prop := ∀ q ∈ cs, (0 ≤ q.1 ∧ q.1 < 64) ∧ (0 ≤ q.2.1 ∧ q.2.1 < 18446744073709551616) ∧ (-9223372036854775808 ≤ q.2.2 ∧ q.2.2 ≤ 9223372036854775807)
theorem good_ok {cs : List Ch} (h : okC3 cs) : ∀ q ∈ cs, goodC q := fun q hq => ⟨⟨by have := (h q hq).1; omega, by have := (h q hq).1; omega⟩, (h q hq).2.1, (h q hq).2.2⟩
theorem reread_c (W : World) (B : Nat) (cs : List Ch) (A : Option Addr) (c : Nat) (h0 : okC3 cs) (hl : cs.length ≤ 4096) (ho : W.ownsRow B 5 1 (.slice A (wrL cs).length c) (wrL cs).length (nums .u8 (wrL cs))) :
    Calls Try.prog 51 #[.slice A (wrL cs).length c] W fun e w' => ∃ v, e = .returned (.tuple #[v, .int .i64 0]) ∧ PC w' v cs ∧ Below W.heap.size W w' := by
  have hfl := Cod.flat_len (wr := Cod.wrC) (m := 30) cs (fun z hz' => Cod.wrC_len (good_ok h0 z hz'))
  have hul := CodL.uv_len10 (n := cs.length) (by omega)
  have h := read_any W (wrL cs) A c (C_own ho).2.2 (cap_own ho) (uv_bytes cs) (by unfold wrL; rw [List.length_append]; omega) (by rw [Cod.allC_wr h0 hl]; dsimp only; omega)
  rw [readC_wr h0 hl] at h
  exact h
theorem books_c (W : World) (v u : Value) (L M : List (List En)) (h : PEE W v L) (k : PEE W u M) (hl : L.length ≤ 1000000) (hl2 : ∀ l ∈ L, l.length ≤ 1000000) (r : Bool) (hr : decide (L = M) = r) :
    Calls Try.prog 53 #[v, u] W fun e w' => e = .returned (.bool r) ∧ Below W.heap.size W w' := by
  rw [← hr]; exact books_any W v u L M h k hl hl2
theorem same12_c (W : World) (v u : Value) (L M : List Ch) (h : PC W v L) (k : PC W u M) (hl : L.length ≤ 1000000) (r : Bool) (hr : decide (L = M) = r) :
    Calls Try.prog 43 #[v, u] W fun e w' => e = .returned (.bool r) ∧ Below W.heap.size W w' := by
  rw [← hr]; exact same12_any W v u L M h k hl
theorem rose_c (W : World) (v u : Value) (was now : List (List En)) (h : PEE W v was) (k : PEE W u now) (hU : ∀ l ∈ was, UE l) (kU : ∀ l ∈ now, UE l) (hl : was.length ≤ 1000) (kl : now.length ≤ 1000) (hl2 : ∀ l ∈ was, l.length ≤ 1000) (kl2 : ∀ l ∈ now, l.length ≤ 1000) (r : Bool) (hr : decide (diffL now was = []) = r) :
    Calls Try.prog 47 #[v, u] W fun e w' => e = .returned (.bool r) ∧ Below W.heap.size W w' := by
  rw [← hr]; exact rose_any W v u was now h k hU kU hl kl hl2 kl2
theorem sum_c (W : World) (u : Value) (now : List (List En)) (k : PEE W u now) (kU : ∀ l ∈ now, UE l) (kl : now.length ≤ 1000) (kl2 : ∀ l ∈ now, l.length ≤ 1000) (r : Int) (hr : sumL now = r) :
    Calls Try.prog 48 #[u] W fun e w' => e = .returned (.int .i64 r) ∧ Below W.heap.size W w' := by
  rw [← hr]; exact sum_any W u now k kU kl kl2
set_option maxRecDepth 100000 in
set_option maxHeartbeats 8000000 in
theorem alive12_any (W : World) : Calls Try.prog 41 #[] W fun e w' => e = .returned (.bool true) ∧ Below W.heap.size W w' := by
  go_enter Try.func41, Try.ntmps41
  go_wp2_with fail
  obtain ⟨w4, hw4⟩ : ∃ w4, ((((W.alloc (.cells #[.int .u64 1, .int .i64 3] tE)).alloc (.cells #[.slice (some ⟨W.heap.size, 0, none⟩) 1 1] tEs)).alloc (.cells #[.int .u64 1, .int .i64 3, .int .u64 2, .int .i64 2] tE)).alloc (.cells #[.slice (some ⟨W.heap.size + 1 + 1, 0, none⟩) 2 2] tEs)) = w4 := ⟨_, rfl⟩
  have hb4 : Below W.heap.size W w4 := by rw [← hw4]; exact ((((Below.refl _ W).alloc (Nat.le_refl _) _).alloc (by simp) _).alloc (by simp; omega) _).alloc (by simp; omega) _
  have f1 : Blk w4 W.heap.size tE (cellsOf cE [(1, 3)]) := by rw [← hw4]; exact (((Blk.new W [.int .u64 1, .int .i64 3] tE).alloc _).alloc _).alloc _
  have f2 : Blk w4 (W.heap.size + 1) tEs [.slice (some ⟨W.heap.size, 0, none⟩) 1 1] := by rw [← hw4]; exact ((Blk.new2 W _ [.slice (some ⟨W.heap.size, 0, none⟩) 1 1] tEs).alloc _).alloc _
  have f3 : Blk w4 (W.heap.size + 1 + 1) tE (cellsOf cE [(1, 3), (2, 2)]) := by
    rw [← hw4]
    have := (Blk.new2 (W.alloc (.cells #[.int .u64 1, .int .i64 3] tE)) (.cells #[.slice (some ⟨W.heap.size, 0, none⟩) 1 1] tEs) [.int .u64 1, .int .i64 3, .int .u64 2, .int .i64 2] tE).alloc (.cells #[.slice (some ⟨W.heap.size + 1 + 1, 0, none⟩) 2 2] tEs)
    rw [World.size_alloc] at this
    exact this
  have f4 : Blk w4 (W.heap.size + 1 + 1 + 1) tEs [.slice (some ⟨W.heap.size + 1 + 1, 0, none⟩) 2 2] := by
    rw [← hw4]
    have := Blk.new2 ((W.alloc (.cells #[.int .u64 1, .int .i64 3] tE)).alloc (.cells #[.slice (some ⟨W.heap.size, 0, none⟩) 1 1] tEs)) (.cells #[.int .u64 1, .int .i64 3, .int .u64 2, .int .i64 2] tE) [.slice (some ⟨W.heap.size + 1 + 1, 0, none⟩) 2 2] tEs
    rw [World.size_alloc, World.size_alloc] at this
    exact this
  have hO : PEE w4 (.slice (some ⟨W.heap.size + 1, 0, none⟩) 1 1) L0 := pee_one (l := [(1, 3)]) f2 (pe_blk (l := [(1, 3)]) f1 (by decide) (by decide))
  have hN : PEE w4 (.slice (some ⟨W.heap.size + 1 + 1 + 1, 0, none⟩) 1 1) N0 := pee_one (l := [(1, 3), (2, 2)]) f4 (pe_blk (l := [(1, 3), (2, 2)]) f3 (by decide) (by decide))
  have HO := Lib.hid hO; have HN := Lib.hid hN; have HB4 := Lib.hid hb4; have HF3 := Lib.hid f3; have HF4 := Lib.hid f4
  rw [hw4]
  obtain ⟨n, hn⟩ : ∃ n, W.heap.size = n := ⟨_, rfl⟩
  simp only [hn] at HO HN HF3 HF4 ⊢
  have HNN := Lib.hid hn
  clear hw4 hb4 f1 f2 f3 f4 hO hN hn
  have hdf := diff_any w4 _ _ L0 N0 HO.out HN.out L0_u N0_u (by decide) (by decide) (by decide) (by decide)
  rw [diff0] at hdf
  refine hdf.mono ?_; rintro e w5 ⟨o5, rfl, ho5, hb5⟩
  clear hdf
  have hp5 := pc_ownT ho5
  obtain ⟨b3, off3, c3, e5, hl5, -⟩ := hp5.at (i := 0) (q := (0, 2, 2)) rfl
  obtain rfl : o5 = .slice (some ⟨b3, off3, none⟩) 1 c3 := e5
  have HO := Lib.hid (HO.out.below hb5); have HN := Lib.hid (HN.out.below hb5); have HB5 := Lib.hid (HB4.out.trans (hb5.mono HB4.out.size)); have HF3 := Lib.hid (HF3.out.belowS hb5); have HF4 := Lib.hid (HF4.out.belowS hb5)
  have HP5 := Lib.hid hp5
  clear hb5 ho5 hl5 hp5
  go_wp2_with fail
  refine (write_any w5 _ D0 HP5.out (by intro q hq; simp [D0] at hq; subst hq; exact ⟨⟨by decide, by decide⟩, ⟨by decide, by decide⟩, ⟨by decide, by decide⟩⟩) (by decide)).mono ?_; rintro e w6 ⟨o6, rfl, ho6, hb6⟩
  obtain ⟨A6, c6, rfl⟩ := own_sl ho6
  have HO := Lib.hid (HO.out.below hb6); have HN := Lib.hid (HN.out.below hb6); have HB6 := Lib.hid (HB5.out.trans (hb6.mono HB5.out.size)); have HF3 := Lib.hid (HF3.out.belowS hb6); have HF4 := Lib.hid (HF4.out.belowS hb6); have HP6 := Lib.hid (HP5.out.below hb6)
  have HO6 := Lib.hid ho6
  clear hb6 ho6
  go_wp2_with fail
  refine (reread_c w6 _ D0 A6 c6 (by intro q hq; simp [D0] at hq; subst hq; decide) (by decide) HO6.out).mono ?_; rintro e w7 ⟨o7, rfl, hp7, hb7⟩
  obtain ⟨A7, c7, rfl, -⟩ := id hp7
  have HO := Lib.hid (HO.out.below hb7); have HN := Lib.hid (HN.out.below hb7); have HB7 := Lib.hid (HB6.out.trans (hb7.mono HB6.out.size)); have HF3 := Lib.hid (HF3.out.belowS hb7); have HF4 := Lib.hid (HF4.out.belowS hb7); have HP7 := Lib.hid (HP6.out.below hb7)
  have HQ7 := Lib.hid hp7
  clear hb7 hp7
  obtain ⟨b9, off9, c9, e9, hl9, r0, r1, r2⟩ := HP7.out.at (i := 0) (q := (0, 2, 2)) rfl
  injection e9 with e9 ex1 ex2
  clear ex1 ex2
  injection e9 with e9
  injection e9 with e9 e10
  subst e9; subst e10
  rw [Nat.zero_mul, Nat.add_zero] at r0 r1 r2
  dsimp only at r0 r1 r2
  have s0 := HF4.out.cell (i := 0) rfl
  have s1 := HF3.out.cell (i := 2) rfl
  have s2 := HF3.out.cell (i := 3) rfl
  go_wp2_with fail
  have hkeep : ∀ A B : World, Below A.heap.size A B → (A.cell? ⟨b3, off3, none⟩ = some (.int .i64 0) ∧ A.cell? ⟨b3, off3 + 1, none⟩ = some (.int .u64 2) ∧ A.cell? ⟨b3, off3 + 2, none⟩ = some (.int .i64 2) ∧ A.cell? ⟨n + 1 + 1 + 1, 0, none⟩ = some (.slice (some ⟨n + 1 + 1, 0, none⟩) 2 2) ∧ A.cell? ⟨n + 1 + 1, 2, none⟩ = some (.int .u64 2) ∧ A.cell? ⟨n + 1 + 1, 3, none⟩ = some (.int .i64 2)) → (B.cell? ⟨b3, off3, none⟩ = some (.int .i64 0) ∧ B.cell? ⟨b3, off3 + 1, none⟩ = some (.int .u64 2) ∧ B.cell? ⟨b3, off3 + 2, none⟩ = some (.int .i64 2) ∧ B.cell? ⟨n + 1 + 1 + 1, 0, none⟩ = some (.slice (some ⟨n + 1 + 1, 0, none⟩) 2 2) ∧ B.cell? ⟨n + 1 + 1, 2, none⟩ = some (.int .u64 2) ∧ B.cell? ⟨n + 1 + 1, 3, none⟩ = some (.int .i64 2)) := fun A B hb ⟨h1, h2, h3, h4, h5, h6⟩ => ⟨(hb.cell (cell_spot h1).2).trans h1, (hb.cell (cell_spot h2).2).trans h2, (hb.cell (cell_spot h3).2).trans h3, (hb.cell (cell_spot h4).2).trans h4, (hb.cell (cell_spot h5).2).trans h5, (hb.cell (cell_spot h6).2).trans h6⟩
  have hdr : Below w7.heap.size w7 w7.drew := (Below.refl _ _).drew
  have hs0 : w7.drew.cell? ⟨b3, off3, none⟩ = some (.int .i64 0) ∧ w7.drew.cell? ⟨b3, off3 + 1, none⟩ = some (.int .u64 2) ∧ w7.drew.cell? ⟨b3, off3 + 2, none⟩ = some (.int .i64 2) ∧ w7.drew.cell? ⟨n + 1 + 1 + 1, 0, none⟩ = some (.slice (some ⟨n + 1 + 1, 0, none⟩) 2 2) ∧ w7.drew.cell? ⟨n + 1 + 1, 2, none⟩ = some (.int .u64 2) ∧ w7.drew.cell? ⟨n + 1 + 1, 3, none⟩ = some (.int .i64 2) := hkeep _ _ hdr ⟨r0, r1, r2, s0, s1, s2⟩
  have hA1 := apply_any w7.drew _ _ L0 D0 (HO.out.below hdr) (HP7.out.below hdr) L0_u (by intro c hc; simp [D0] at hc; subst hc; exact ⟨by decide, by decide⟩) (by decide) (by decide) (by decide)
  rw [apply0] at hA1
  have HA1 := Lib.hid hA1; have HK := Lib.hid hkeep; have HO8 := Lib.hid (HO.out.below hdr); have HN8 := Lib.hid (HN.out.below hdr); have HP8 := Lib.hid (HP7.out.below hdr); have HQ8 := Lib.hid (HQ7.out.below hdr); have HB8 := Lib.hid (HB7.out.trans (hdr.mono HB7.out.size))
  clear hkeep hdr r0 r1 r2 s0 s1 s2 hA1
  go_region_held3 (fun w' => w'.cell? ⟨b3, off3, none⟩ = some (.int .i64 0) ∧ w'.cell? ⟨b3, off3 + 1, none⟩ = some (.int .u64 2) ∧ w'.cell? ⟨b3, off3 + 2, none⟩ = some (.int .i64 2) ∧ w'.cell? ⟨n + 1 + 1 + 1, 0, none⟩ = some (.slice (some ⟨n + 1 + 1, 0, none⟩) 2 2) ∧ w'.cell? ⟨n + 1 + 1, 2, none⟩ = some (.int .u64 2) ∧ w'.cell? ⟨n + 1 + 1, 3, none⟩ = some (.int .i64 2)) (assumption) ((first | (go_at_call 48; refine (sum_c x7 _ N0 hN7 N0_u (by decide) (by decide) 5 sum0).mono ?_; rintro e x8 ⟨rfl, hb8⟩; have hs8 := HK.out _ _ hb8 hs7) | (go_at_call 43; refine (same12_c x6 _ _ D0 D0 (pc_ownT (own_below ho5 hb6)) (pc_ownT ho6) (by decide) true (by decide +kernel)).mono ?_; rintro e x7 ⟨rfl, hb7⟩; have hs7 := HK.out _ _ hb7 hs6; have hN7 := hN6.below hb7) | (go_at_call 44; refine (as_any x5 _ D0 hP5 (by decide)).mono ?_; rintro e x6 ⟨o6, rfl, ho6, hb6⟩; have hs6 := HK.out _ _ hb6 hs5; have hN6 := hN5.below hb6) | (go_at_call 44; refine (as_any x4 _ D0 hQ4 (by decide)).mono ?_; rintro e x5 ⟨o5, rfl, ho5, hb5⟩; have hs5 := HK.out _ _ hb5 hs4; have hP5 := hP4.below hb5; have hN5 := hN4.below hb5) | (go_at_call 47; refine (rose_c x3 _ _ N0 L0 hN3 hO3 N0_u L0_u (by decide) (by decide) (by decide) (by decide) false (by decide +kernel)).mono ?_; rintro e x4 ⟨rfl, hb4⟩; have hs4 := HK.out _ _ hb4 hs3; have hN4 := hN3.below hb4; have hP4 := HP8.out.below (hb1.trans ((hb2.mono hb1.size).trans ((hb3.mono (Nat.le_trans hb1.size hb2.size)).trans (hb4.mono (Nat.le_trans (Nat.le_trans hb1.size hb2.size) hb3.size))))); have hQ4 := HQ8.out.below (hb1.trans ((hb2.mono hb1.size).trans ((hb3.mono (Nat.le_trans hb1.size hb2.size)).trans (hb4.mono (Nat.le_trans (Nat.le_trans hb1.size hb2.size) hb3.size)))))) | (go_at_call 47; refine (rose_c x2 _ _ L0 N0 hO2 hN2 L0_u N0_u (by decide) (by decide) (by decide) (by decide) true (by decide +kernel)).mono ?_; rintro e x3 ⟨rfl, hb3⟩; have hs3 := HK.out _ _ hb3 hs2; have hO3 := hO2.below hb3; have hN3 := hN2.below hb3) | (go_at_call 53; refine (books_c x1 _ _ N0 N0 (hL1.pee (by decide)) hN1 (by decide) (by decide) true (by decide +kernel)).mono ?_; rintro e x2 ⟨rfl, hb2⟩; have hs2 := HK.out _ _ hb2 hs1; have hO2 := hO1.below hb2; have hN2 := hN1.below hb2) | (go_at_call 50; refine HA1.out.mono ?_; rintro e x1 ⟨o1, vs1, rfl, hL1, hb1⟩; have hs1 := HK.out _ _ hb1 hs0; have hO1 := HO8.out.below hb1; have hN1 := HN8.out.below hb1)))
  have c8 := hb8
  have c7 := hb7.trans (c8.mono hb7.size)
  have c6 := hb6.trans (c7.mono hb6.size)
  have c5 := hb5.trans (c6.mono hb5.size)
  have c4 := hb4.trans (c5.mono hb4.size)
  have c3 := hb3.trans (c4.mono hb3.size)
  have c2 := hb2.trans (c3.mono hb2.size)
  have c1 := hb1.trans (c2.mono hb1.size)
  have HE := Lib.hid (HB8.out.trans (c1.mono HB8.out.size))
  clear c1 c2 c3 c4 c5 c6 c7 c8
  go_wp2_with fail
  go_ret
  exact ⟨rfl, HE.out⟩
end Go.Proofs.Ytnlhgnioedalpaa.Pri

/- DeltaBooks. -/
set_option linter.unusedSimpArgs false
set_option linter.unusedVariables false
namespace Go.Proofs.Ytnlhgnioedalpaa.Pri
open Go.RowKit Go.Proofs.YtnlhgnioedalpaaW.PrintWords Go.Proofs.Ytnlhgnioedalpaa.PPricePlays Go.Maps
open Go.Proofs.Ytnlhgnioedalpaa.Cod (PC)
attribute [local go_sem] Oper.semAt_some

theorem few_of {L : List (List En)} (h : fewB L 20 40 = true) : L.length ≤ 20 ∧ ∀ l ∈ L, l.length ≤ 40 := by
  unfold fewB at h
  rw [Bool.and_eq_true, decide_eq_true_eq, List.all_eq_true] at h
  exact ⟨by omega, fun l hl => by have := of_decide_eq_true (h.2 l hl); omega⟩
theorem few_c (W : World) (v : Value) (L : List (List En)) (h : PEE W v L) (r : Bool) (hr : fewB L 20 40 = r) :
    Calls Try.prog 42 #[v] W fun e w' => e = .returned (.bool r) ∧ Below W.heap.size W w' := by
  rw [← hr]; exact few12_any W v L h
theorem rsum_c (W : World) (u : Value) (now : List (List En)) (k : PEE W u now) (kU : ∀ l ∈ now, UE l) (kl : now.length ≤ 1000) (kl2 : ∀ l ∈ now, l.length ≤ 1000) (r : Int) (hr : sumL now = r) :
    Calls Try.prog 49 #[u] W fun e w' => e = .returned (.int .i64 r) ∧ Below W.heap.size W w' := by
  rw [← hr]; exact rsum_any W u now k kU kl kl2
set_option maxRecDepth 100000 in
set_option maxHeartbeats 8000000 in
theorem books_core (W : World) (v u : Value) (old now : List (List En)) (h : PEE W v old) (k : PEE W u now) (hU : ∀ l ∈ old, UE l) (kU : ∀ l ∈ now, UE l) :
    Calls Try.prog 10 #[v, u] W fun e w' => e = .returned (.bool true) ∧ Below W.heap.size W w' := by
  have H := Lib.hid h; have K := Lib.hid k
  obtain ⟨A1, c1, rfl, -⟩ := h
  obtain ⟨A2, c2, rfl, -⟩ := k
  obtain ⟨f1, hf1⟩ : ∃ r, fewB old 20 40 = r := ⟨_, rfl⟩
  obtain ⟨f2, hf2⟩ : ∃ r, fewB now 20 40 = r := ⟨_, rfl⟩
  have HF1 := Lib.hid hf1; have HF2 := Lib.hid hf2
  clear hf1 hf2
  cases f1 with
  | false =>
    go_enter Try.func10, Try.ntmps10
    go_wp2_with fail
    refine (alive12_any _).mono ?_; rintro e w1 ⟨rfl, hb1⟩
    go_wp2_with fail
    refine (few_c w1 _ old (H.out.below hb1) false HF1.out).mono ?_; rintro e w2 ⟨rfl, hb2⟩
    have HB2 := Lib.hid (hb1.trans (hb2.mono hb1.size))
    clear hb1 hb2
    go_wp2_with fail
    go_ret
    exact ⟨rfl, HB2.out⟩
  | true =>
  cases f2 with
  | false =>
    go_enter Try.func10, Try.ntmps10
    go_wp2_with fail
    refine (alive12_any _).mono ?_; rintro e w1 ⟨rfl, hb1⟩
    go_wp2_with fail
    refine (few_c w1 _ old (H.out.below hb1) true HF1.out).mono ?_; rintro e w2 ⟨rfl, hb2⟩
    have HB2 := Lib.hid (hb1.trans (hb2.mono hb1.size))
    clear hb1 hb2
    go_wp2_with fail
    refine (few_c w2 _ now (K.out.below HB2.out) false HF2.out).mono ?_; rintro e w3 ⟨rfl, hb3⟩
    have HB3 := Lib.hid (HB2.out.trans (hb3.mono HB2.out.size))
    clear hb3
    go_wp2_with fail
    go_ret
    exact ⟨rfl, HB3.out⟩
  | true =>
    obtain ⟨l1, l2⟩ := few_of HF1.out
    obtain ⟨k1, k2⟩ := few_of HF2.out
    have l1' : old.length ≤ 1000 := by omega
    have k1' : now.length ≤ 1000 := by omega
    have l2' : ∀ l ∈ old, l.length ≤ 1000 := fun l hl => by have := l2 l hl; omega
    have k2' : ∀ l ∈ now, l.length ≤ 1000 := fun l hl => by have := k2 l hl; omega
    have hdl : ∀ a b : List (List En), a.length ≤ 20 → (∀ l ∈ a, l.length ≤ 40) → (diffL b a).length ≤ 1000 := fun a b h1 h2 => by
      unfold diffL
      refine Nat.le_trans (List.length_filter_le _ _) ?_
      have h3 := ch_len (ls := a.map ofL) (m := 40) (fun l hl => by
        rw [List.mem_map] at hl
        obtain ⟨l0, h0, rfl⟩ := hl
        have := h2 l0 h0
        have := ofL_len l0
        omega) a.length
      have h4 : a.length * 40 ≤ 20 * 40 := Nat.mul_le_mul_right _ h1
      omega
    have hd1 := hdl now old k1 k2
    have hd2 := hdl old now l1 l2
    clear hdl l1 l2 k1 k2
    have H5 := fun (w : World) (hb : Below W.heap.size W w) => diff_any w _ _ old now (H.out.below hb) (K.out.below hb) hU kU l1' k1' l2' k2'
    have H6 := fun (w : World) (hb : Below W.heap.size W w) => rdiff_any w _ _ old now (H.out.below hb) (K.out.below hb) hU kU l1' k1' l2' k2'
    have H7 := fun (w : World) (hb : Below W.heap.size W w) => rdiff_any w _ _ now old (K.out.below hb) (H.out.below hb) kU hU k1' l1' k2' l2'
    obtain ⟨D, hD⟩ : ∃ D, diffL old now = D := ⟨_, rfl⟩
    obtain ⟨E, hE⟩ : ∃ E, diffL now old = E := ⟨_, rfl⟩
    obtain ⟨r, hr⟩ : ∃ r, decide (diffL now old = []) = r := ⟨_, rfl⟩
    obtain ⟨s, hs⟩ : ∃ s, sumL now = s := ⟨_, rfl⟩
    have hrE : decide (E = []) = r := by rw [← hE]; exact hr
    rw [hD] at H5 H6 hd1
    rw [hE] at H7 hd2
    have HH5 := Lib.hid H5; have HH6 := Lib.hid H6; have HH7 := Lib.hid H7; have HR := Lib.hid hr; have HS := Lib.hid hs; have HRE := Lib.hid hrE
    clear H5 H6 H7 hr hs hD hE hrE
    go_enter Try.func10, Try.ntmps10
    go_wp2_with fail
    refine (alive12_any _).mono ?_; rintro e w1 ⟨rfl, hb1⟩
    go_wp2_with fail
    refine (few_c w1 _ old (H.out.below hb1) true HF1.out).mono ?_; rintro e w2 ⟨rfl, hb2⟩
    have HB2 := Lib.hid (hb1.trans (hb2.mono hb1.size))
    clear hb1 hb2
    go_wp2_with fail
    refine (few_c w2 _ now (K.out.below HB2.out) true HF2.out).mono ?_; rintro e w3 ⟨rfl, hb3⟩
    have HB3 := Lib.hid (HB2.out.trans (hb3.mono HB2.out.size))
    clear hb3
    go_wp2_with fail
    refine (HH5.out w3 HB3.out).mono ?_; rintro e w4 ⟨o4, rfl, ho4, hb4⟩
    obtain ⟨A4, c4, rfl⟩ := own_sl ho4
    have HP4 := Lib.hid (pc_ownT ho4); have HB4 := Lib.hid (HB3.out.trans (hb4.mono HB3.out.size))
    clear ho4 hb4
    go_wp2_with fail
    refine (as_any w4 _ D HP4.out (by omega)).mono ?_; rintro e w5 ⟨o5, rfl, ho5, hb5⟩
    obtain ⟨A5, c5, rfl⟩ := own_sl ho5
    have HP5 := Lib.hid (pc_ownT ho5); have HB5 := Lib.hid (HB4.out.trans (hb5.mono HB4.out.size))
    clear ho5 hb5
    go_wp2_with fail
    refine (HH6.out w5 HB5.out).mono ?_; rintro e w6 ⟨o6, rfl, ho6, hb6⟩
    obtain ⟨A6, c6, rfl⟩ := own_sl ho6
    have HP6 := Lib.hid (pc_ownT ho6); have HB6 := Lib.hid (HB5.out.trans (hb6.mono HB5.out.size)); have HP5 := Lib.hid (HP5.out.below hb6)
    clear ho6 hb6
    go_wp2_with fail
    refine (same12_c w6 _ _ D D HP5.out HP6.out (by omega) true (by simp)).mono ?_; rintro e w7 ⟨rfl, hb7⟩
    have HB7 := Lib.hid (HB6.out.trans (hb7.mono HB6.out.size))
    clear hb7
    go_wp2_with fail
    refine (rose_c w7 _ _ old now (H.out.below HB7.out) (K.out.below HB7.out) hU kU l1' k1' l2' k2' r HR.out).mono ?_; rintro e w8 ⟨rfl, hb8⟩
    have HB8 := Lib.hid (HB7.out.trans (hb8.mono HB7.out.size))
    clear hb8
    go_wp2_with fail
    refine (HH7.out w8 HB8.out).mono ?_; rintro e w9 ⟨o9, rfl, ho9, hb9⟩
    obtain ⟨A9, c9, rfl⟩ := own_sl ho9
    have HB9 := Lib.hid (HB8.out.trans (hb9.mono HB8.out.size))
    clear ho9 hb9
    cases E with
    | nil =>
      have hr1 : r = true := HRE.out.symm
      subst hr1
      go_wp2_with fail
      refine (sum_c w9 _ now (K.out.below HB9.out) kU k1' k2' s HS.out).mono ?_; rintro e w10 ⟨rfl, hb10⟩
      have HB10 := Lib.hid (HB9.out.trans (hb10.mono HB9.out.size))
      clear hb10
      go_wp2_with fail
      refine (rsum_c w10 _ now (K.out.below HB10.out) kU k1' k2' s HS.out).mono ?_; rintro e w11 ⟨rfl, hb11⟩
      have HB11 := Lib.hid (HB10.out.trans (hb11.mono HB10.out.size))
      have hss : (s == s) = true := by simp
      clear hb11
      go_wp2_with fail
      go_ret
      exact ⟨rfl, HB11.out⟩
    | cons q E =>
      have hr1 : r = false := HRE.out.symm
      subst hr1
      obtain ⟨m, hm⟩ : ∃ m, (q :: E).length = m := ⟨_, rfl⟩
      have hm1 : ¬ (m : Int) = 0 := by rw [← hm, List.length_cons]; omega
      have hm0 : ((m : Int) == 0) = false := by simpa using hm1
      rw [hm]
      clear hm hd2
      go_wp2_with fail
      refine (sum_c w9 _ now (K.out.below HB9.out) kU k1' k2' s HS.out).mono ?_; rintro e w10 ⟨rfl, hb10⟩
      have HB10 := Lib.hid (HB9.out.trans (hb10.mono HB9.out.size))
      clear hb10
      go_wp2_with fail
      refine (rsum_c w10 _ now (K.out.below HB10.out) kU k1' k2' s HS.out).mono ?_; rintro e w11 ⟨rfl, hb11⟩
      have HB11 := Lib.hid (HB10.out.trans (hb11.mono HB10.out.size))
      have hss : (s == s) = true := by simp
      clear hb11
      go_wp2_with fail
      go_ret
      exact ⟨rfl, HB11.out⟩
theorem pd_row41 {W : World} {z : List (Go.Proofs.Ytnlhgnioedalpaa.PDeltaBooks.S41)} {A : Option Addr} {c : Nat} (hc : z.length ≤ c) (hA : A = none → c = 0) (hC : Go.Proofs.Ytnlhgnioedalpaa.PDeltaBooks.k41.C W A z.length z) : PE W (.slice A z.length c) (z.map (fun x => (x.f0, x.f1))) := by
  refine ⟨A, c, by rw [List.length_map], by rw [List.length_map]; exact hc, hA, ?_⟩
  rw [List.length_map]
  refine ⟨by simp, hC.2.1, fun hpos => ?_⟩
  obtain ⟨a, rfl, hr⟩ := hC.2.2 hpos
  refine ⟨a, rfl, fun j x hx => ?_⟩
  rw [List.getElem?_map, List.getElem?_map] at hx
  cases hq : z[j]? with
  | none => rw [hq] at hx; simp at hx
  | some q =>
    rw [hq] at hx
    obtain ⟨cs, hl, hk, hcc⟩ := hr j q hq
    obtain rfl := Go.Proofs.Ytnlhgnioedalpaa.PDeltaBooks.k41_open hk
    obtain rfl : (⟨q.f0, q.f1⟩ : S41) = x := by simpa [toE] using hx
    exact ⟨_, hl, k41_mk W _, hcc⟩
theorem books12_row (W : World) (z : List (List (Go.Proofs.Ytnlhgnioedalpaa.PDeltaBooks.S41))) (A : Option Addr) (c : Nat) (_ : z.length ≤ c) (_ : A = none → c = 0) (hC : (sliceZ (Go.Proofs.Ytnlhgnioedalpaa.PDeltaBooks.k41)).C W A z.length z) (_ : z.length ≤ maxLen) (hG : ∀ x ∈ z, x.length ≤ maxLen ∧ ∀ y ∈ x, (Lit.int .u64 y.f0).wf = true ∧ (Lit.int .i64 y.f1).wf = true)
    (z1 : List (List (Go.Proofs.Ytnlhgnioedalpaa.PDeltaBooks.S41))) (A1 : Option Addr) (c1 : Nat) (_ : z1.length ≤ c1) (_ : A1 = none → c1 = 0) (hC1 : (sliceZ (Go.Proofs.Ytnlhgnioedalpaa.PDeltaBooks.k41)).C W A1 z1.length z1) (_ : z1.length ≤ maxLen) (hG1 : ∀ x ∈ z1, x.length ≤ maxLen ∧ ∀ y ∈ x, (Lit.int .u64 y.f0).wf = true ∧ (Lit.int .i64 y.f1).wf = true) :
    Calls Try.prog 10 #[.slice A z.length c, .slice A1 z1.length c1] W fun e w' => e = .returned (.bool true) ∧ Below W.heap.size W w' := by
  have h1 : PEE W (.slice A z.length c) (z.map (fun x => x.map (fun y => (y.f0, y.f1)))) := pee_of (fun x A1 c1 a b d => pd_row41 a b d) hC
  have h2 : PEE W (.slice A1 z1.length c1) (z1.map (fun x => x.map (fun y => (y.f0, y.f1)))) := pee_of (fun x A1 c1 a b d => pd_row41 a b d) hC1
  exact books_core W _ _ _ _ h1 h2 (fun l hl e he => by
    obtain ⟨x, hx, rfl⟩ := List.mem_map.1 hl
    obtain ⟨y, hy, rfl⟩ := List.mem_map.1 he
    exact U_wf ((hG x hx).2 y hy).1) (fun l hl e he => by
    obtain ⟨x, hx, rfl⟩ := List.mem_map.1 hl
    obtain ⟨y, hy, rfl⟩ := List.mem_map.1 he
    exact U_wf ((hG1 x hx).2 y hy).1)
end Go.Proofs.Ytnlhgnioedalpaa.Pri
