/- DelX, DelY, DelZ, DeltaBooks, DeltaTight, DelSt, laid together. -/
import Derived.Test.YtnlhgnioedalpaaGr14
import Derived.Test.YtnlhgnioedalpaaPDeltaBooksx0

/- delta: law12's alive. -/
set_option linter.unusedSimpArgs false
set_option linter.unusedVariables false
namespace Go.Proofs.Ytnlhgnioedalpaa.Pri
open Go.RowKit Go.Proofs.YtnlhgnioedalpaaW.PrintWords Go.Proofs.Ytnlhgnioedalpaa.PPricePlays Go.Maps
open Go.Proofs.Ytnlhgnioedalpaa.Cod (PC cP3 cP3_length pc_own infoC grown_own KTy.setOther wrL readC readC_wr write_any read_any goodC)
attribute [local go_sem] Oper.semAt_some

def L0 : List (List En) := [[(1, 3)]]
def N0 : List (List En) := [[(1, 3), (2, 2)]]
def D0 : List Ch := [(0, 2, 2)]
theorem L0_u : ∀ l ∈ L0, UE l := by
  intro l hl e he
  simp [L0] at hl
  subst hl
  simp at he
  subst he
  exact ⟨by decide, by decide⟩
theorem N0_u : ∀ l ∈ N0, UE l := by
  intro l hl e he
  simp [N0] at hl
  subst hl
  simp at he
  rcases he with rfl | rfl <;> exact ⟨by decide, by decide⟩
theorem diff0 : diffL L0 N0 = D0 := by decide +kernel
theorem apply0 : applyL L0 D0 = N0 := by decide +kernel
theorem sum0 : sumL N0 = 5 := by decide +kernel
theorem uv_bytes (cs : List Ch) : ∀ x ∈ wrL cs, 0 ≤ x ∧ x < 256 := by
  intro x hx
  unfold wrL at hx
  rw [List.mem_append] at hx
  rcases hx with hx | hx
  · exact CodL.uv_byte _ x hx
  · rw [List.mem_flatMap] at hx
    obtain ⟨q, _, hx⟩ := hx
    unfold Cod.wrC at hx
    rw [List.mem_append, List.mem_append] at hx
    rcases hx with (hx | hx) | hx <;> exact CodL.uv_byte _ x hx
theorem pee_one {W : World} {b : Nat} {A : Option Addr} {l : List En} {c : Nat} {t : TypeId} (hb : Blk W b t [.slice A l.length c]) (hp : PE W (.slice A l.length c) l) : PEE W (.slice (some ⟨b, 0, none⟩) 1 1) [l] := by
  refine ⟨_, 1, rfl, fun i l' hi => ?_⟩
  have hi0 : i = 0 := by have := (List.getElem?_eq_some_iff.1 hi).1; simpa using this
  subst hi0
  obtain rfl : l = l' := by simpa using hi
  exact ⟨b, 0, A, c, rfl, hb.lt, hb.cell rfl, hp⟩
theorem cap_own {w : World} {base n c : Nat} {e : TypeId} {A : Option Addr} {xs : List Value} (h : w.ownsRow base e 1 (.slice A n c) n xs) : A = none → c = 0 := fun hA => by
  subst hA
  rcases h.2 with ⟨h1, _⟩ | ⟨g, cap, cur, h1, _⟩
  · injection h1
  · cases h1
def okC3 (cs : List Ch) : Prop := ∀ q ∈ cs, (0 ≤ q.1 ∧ q.1 < 64) ∧ (0 ≤ q.2.1 ∧ q.2.1 < 18446744073709551616) ∧ (-9223372036854775808 ≤ q.2.2 ∧ q.2.2 ≤ 9223372036854775807)
theorem good_ok {cs : List Ch} (h : okC3 cs) : ∀ q ∈ cs, goodC q := fun q hq => ⟨⟨by have := (h q hq).1; omega, by have := (h q hq).1; omega⟩, (h q hq).2.1, (h q hq).2.2⟩
theorem reread_c (W : World) (B : Nat) (cs : List Ch) (A : Option Addr) (c : Nat) (h0 : okC3 cs) (hl : cs.length ≤ 4096) (ho : W.ownsRow B 5 1 (.slice A (wrL cs).length c) (wrL cs).length (nums .u8 (wrL cs))) :
    Calls Try.prog 51 #[.slice A (wrL cs).length c] W fun e w' => ∃ v, e = .returned (.tuple #[v, .int .i64 0]) ∧ PC w' v cs ∧ Below W.heap.size W w' := by
  have hfl := Cod.flat_len (wr := Cod.wrC) (m := 30) cs (fun z hz' => Cod.wrC_len (good_ok h0 z hz'))
  have hul := CodL.uv_len10 (n := cs.length) (by omega)
  have h := read_any W (wrL cs) A c (C_own ho).2.2 (cap_own ho) (uv_bytes cs) (by unfold wrL; rw [List.length_append]; omega) (by rw [Cod.allC_wr h0 hl]; dsimp only; omega)
  rw [readC_wr h0 hl] at h
  exact h
theorem books_c (W : World) (v u : Value) (L M : List (List En)) (h : PEE W v L) (k : PEE W u M) (hl : L.length ≤ 1000000) (hl2 : ∀ l ∈ L, l.length ≤ 1000000) (r : Bool) (hr : decide (L = M) = r) :
    Calls Try.prog 53 #[v, u] W fun e w' => e = .returned (.bool r) ∧ Below W.heap.size W w' := by
  rw [← hr]; exact books_any W v u L M h k hl hl2
theorem same12_c (W : World) (v u : Value) (L M : List Ch) (h : PC W v L) (k : PC W u M) (hl : L.length ≤ 1000000) (r : Bool) (hr : decide (L = M) = r) :
    Calls Try.prog 43 #[v, u] W fun e w' => e = .returned (.bool r) ∧ Below W.heap.size W w' := by
  rw [← hr]; exact same12_any W v u L M h k hl
theorem rose_c (W : World) (v u : Value) (was now : List (List En)) (h : PEE W v was) (k : PEE W u now) (hU : ∀ l ∈ was, UE l) (kU : ∀ l ∈ now, UE l) (hl : was.length ≤ 1000) (kl : now.length ≤ 1000) (hl2 : ∀ l ∈ was, l.length ≤ 1000) (kl2 : ∀ l ∈ now, l.length ≤ 1000) (r : Bool) (hr : decide (diffL now was = []) = r) :
    Calls Try.prog 47 #[v, u] W fun e w' => e = .returned (.bool r) ∧ Below W.heap.size W w' := by
  rw [← hr]; exact rose_any W v u was now h k hU kU hl kl hl2 kl2
theorem sum_c (W : World) (u : Value) (now : List (List En)) (k : PEE W u now) (kU : ∀ l ∈ now, UE l) (kl : now.length ≤ 1000) (kl2 : ∀ l ∈ now, l.length ≤ 1000) (r : Int) (hr : sumL now = r) :
    Calls Try.prog 48 #[u] W fun e w' => e = .returned (.int .i64 r) ∧ Below W.heap.size W w' := by
  rw [← hr]; exact sum_any W u now k kU kl kl2
set_option maxRecDepth 100000 in
set_option maxHeartbeats 8000000 in
theorem alive12_any (W : World) : Calls Try.prog 41 #[] W fun e w' => e = .returned (.bool true) ∧ Below W.heap.size W w' := by
  go_enter Try.func41, Try.ntmps41
  go_wp2_with fail
  obtain ⟨w4, hw4⟩ : ∃ w4, ((((W.alloc (.cells #[.int .u64 1, .int .i64 3] tE)).alloc (.cells #[.slice (some ⟨W.heap.size, 0, none⟩) 1 1] tEs)).alloc (.cells #[.int .u64 1, .int .i64 3, .int .u64 2, .int .i64 2] tE)).alloc (.cells #[.slice (some ⟨W.heap.size + 1 + 1, 0, none⟩) 2 2] tEs)) = w4 := ⟨_, rfl⟩
  have hb4 : Below W.heap.size W w4 := by rw [← hw4]; exact ((((Below.refl _ W).alloc (Nat.le_refl _) _).alloc (by simp) _).alloc (by simp; omega) _).alloc (by simp; omega) _
  have f1 : Blk w4 W.heap.size tE (cellsOf cE [(1, 3)]) := by rw [← hw4]; exact (((Blk.new W [.int .u64 1, .int .i64 3] tE).alloc _).alloc _).alloc _
  have f2 : Blk w4 (W.heap.size + 1) tEs [.slice (some ⟨W.heap.size, 0, none⟩) 1 1] := by rw [← hw4]; exact ((Blk.new2 W _ [.slice (some ⟨W.heap.size, 0, none⟩) 1 1] tEs).alloc _).alloc _
  have f3 : Blk w4 (W.heap.size + 1 + 1) tE (cellsOf cE [(1, 3), (2, 2)]) := by
    rw [← hw4]
    have := (Blk.new2 (W.alloc (.cells #[.int .u64 1, .int .i64 3] tE)) (.cells #[.slice (some ⟨W.heap.size, 0, none⟩) 1 1] tEs) [.int .u64 1, .int .i64 3, .int .u64 2, .int .i64 2] tE).alloc (.cells #[.slice (some ⟨W.heap.size + 1 + 1, 0, none⟩) 2 2] tEs)
    rw [World.size_alloc] at this
    exact this
  have f4 : Blk w4 (W.heap.size + 1 + 1 + 1) tEs [.slice (some ⟨W.heap.size + 1 + 1, 0, none⟩) 2 2] := by
    rw [← hw4]
    have := Blk.new2 ((W.alloc (.cells #[.int .u64 1, .int .i64 3] tE)).alloc (.cells #[.slice (some ⟨W.heap.size, 0, none⟩) 1 1] tEs)) (.cells #[.int .u64 1, .int .i64 3, .int .u64 2, .int .i64 2] tE) [.slice (some ⟨W.heap.size + 1 + 1, 0, none⟩) 2 2] tEs
    rw [World.size_alloc, World.size_alloc] at this
    exact this
  have hO : PEE w4 (.slice (some ⟨W.heap.size + 1, 0, none⟩) 1 1) L0 := pee_one (l := [(1, 3)]) f2 (pe_blk (l := [(1, 3)]) f1 (by decide) (by decide))
  have hN : PEE w4 (.slice (some ⟨W.heap.size + 1 + 1 + 1, 0, none⟩) 1 1) N0 := pee_one (l := [(1, 3), (2, 2)]) f4 (pe_blk (l := [(1, 3), (2, 2)]) f3 (by decide) (by decide))
  have HO := Lib.hid hO; have HN := Lib.hid hN; have HB4 := Lib.hid hb4; have HF3 := Lib.hid f3; have HF4 := Lib.hid f4
  rw [hw4]
  obtain ⟨n, hn⟩ : ∃ n, W.heap.size = n := ⟨_, rfl⟩
  simp only [hn] at HO HN HF3 HF4 ⊢
  have HNN := Lib.hid hn
  clear hw4 hb4 f1 f2 f3 f4 hO hN hn
  have hdf := diff_any w4 _ _ L0 N0 HO.out HN.out L0_u N0_u (by decide) (by decide) (by decide) (by decide)
  rw [diff0] at hdf
  refine hdf.mono ?_; rintro e w5 ⟨o5, rfl, ho5, hb5⟩
  clear hdf
  have hp5 := pc_ownT ho5
  obtain ⟨b3, off3, c3, e5, hl5, -⟩ := hp5.at (i := 0) (q := (0, 2, 2)) rfl
  obtain rfl : o5 = .slice (some ⟨b3, off3, none⟩) 1 c3 := e5
  have HO := Lib.hid (HO.out.below hb5); have HN := Lib.hid (HN.out.below hb5); have HB5 := Lib.hid (HB4.out.trans (hb5.mono HB4.out.size)); have HF3 := Lib.hid (HF3.out.belowS hb5); have HF4 := Lib.hid (HF4.out.belowS hb5)
  have HP5 := Lib.hid hp5
  clear hb5 ho5 hl5 hp5
  go_wp2_with fail
  refine (write_any w5 _ D0 HP5.out (by intro q hq; simp [D0] at hq; subst hq; exact ⟨⟨by decide, by decide⟩, ⟨by decide, by decide⟩, ⟨by decide, by decide⟩⟩) (by decide)).mono ?_; rintro e w6 ⟨o6, rfl, ho6, hb6⟩
  obtain ⟨A6, c6, rfl⟩ := own_sl ho6
  have HO := Lib.hid (HO.out.below hb6); have HN := Lib.hid (HN.out.below hb6); have HB6 := Lib.hid (HB5.out.trans (hb6.mono HB5.out.size)); have HF3 := Lib.hid (HF3.out.belowS hb6); have HF4 := Lib.hid (HF4.out.belowS hb6); have HP6 := Lib.hid (HP5.out.below hb6)
  have HO6 := Lib.hid ho6
  clear hb6 ho6
  go_wp2_with fail
  refine (reread_c w6 _ D0 A6 c6 (by intro q hq; simp [D0] at hq; subst hq; decide) (by decide) HO6.out).mono ?_; rintro e w7 ⟨o7, rfl, hp7, hb7⟩
  obtain ⟨A7, c7, rfl, -⟩ := id hp7
  have HO := Lib.hid (HO.out.below hb7); have HN := Lib.hid (HN.out.below hb7); have HB7 := Lib.hid (HB6.out.trans (hb7.mono HB6.out.size)); have HF3 := Lib.hid (HF3.out.belowS hb7); have HF4 := Lib.hid (HF4.out.belowS hb7); have HP7 := Lib.hid (HP6.out.below hb7)
  have HQ7 := Lib.hid hp7
  clear hb7 hp7
  obtain ⟨b9, off9, c9, e9, hl9, r0, r1, r2⟩ := HP7.out.at (i := 0) (q := (0, 2, 2)) rfl
  injection e9 with e9 ex1 ex2
  clear ex1 ex2
  injection e9 with e9
  injection e9 with e9 e10
  subst e9; subst e10
  rw [Nat.zero_mul, Nat.add_zero] at r0 r1 r2
  dsimp only at r0 r1 r2
  have s0 := HF4.out.cell (i := 0) rfl
  have s1 := HF3.out.cell (i := 2) rfl
  have s2 := HF3.out.cell (i := 3) rfl
  go_wp2_with fail
  have hkeep : ∀ A B : World, Below A.heap.size A B → (A.cell? ⟨b3, off3, none⟩ = some (.int .i64 0) ∧ A.cell? ⟨b3, off3 + 1, none⟩ = some (.int .u64 2) ∧ A.cell? ⟨b3, off3 + 2, none⟩ = some (.int .i64 2) ∧ A.cell? ⟨n + 1 + 1 + 1, 0, none⟩ = some (.slice (some ⟨n + 1 + 1, 0, none⟩) 2 2) ∧ A.cell? ⟨n + 1 + 1, 2, none⟩ = some (.int .u64 2) ∧ A.cell? ⟨n + 1 + 1, 3, none⟩ = some (.int .i64 2)) → (B.cell? ⟨b3, off3, none⟩ = some (.int .i64 0) ∧ B.cell? ⟨b3, off3 + 1, none⟩ = some (.int .u64 2) ∧ B.cell? ⟨b3, off3 + 2, none⟩ = some (.int .i64 2) ∧ B.cell? ⟨n + 1 + 1 + 1, 0, none⟩ = some (.slice (some ⟨n + 1 + 1, 0, none⟩) 2 2) ∧ B.cell? ⟨n + 1 + 1, 2, none⟩ = some (.int .u64 2) ∧ B.cell? ⟨n + 1 + 1, 3, none⟩ = some (.int .i64 2)) := fun A B hb ⟨h1, h2, h3, h4, h5, h6⟩ => ⟨(hb.cell (cell_spot h1).2).trans h1, (hb.cell (cell_spot h2).2).trans h2, (hb.cell (cell_spot h3).2).trans h3, (hb.cell (cell_spot h4).2).trans h4, (hb.cell (cell_spot h5).2).trans h5, (hb.cell (cell_spot h6).2).trans h6⟩
  have hdr : Below w7.heap.size w7 w7.drew := (Below.refl _ _).drew
  have hs0 : w7.drew.cell? ⟨b3, off3, none⟩ = some (.int .i64 0) ∧ w7.drew.cell? ⟨b3, off3 + 1, none⟩ = some (.int .u64 2) ∧ w7.drew.cell? ⟨b3, off3 + 2, none⟩ = some (.int .i64 2) ∧ w7.drew.cell? ⟨n + 1 + 1 + 1, 0, none⟩ = some (.slice (some ⟨n + 1 + 1, 0, none⟩) 2 2) ∧ w7.drew.cell? ⟨n + 1 + 1, 2, none⟩ = some (.int .u64 2) ∧ w7.drew.cell? ⟨n + 1 + 1, 3, none⟩ = some (.int .i64 2) := hkeep _ _ hdr ⟨r0, r1, r2, s0, s1, s2⟩
  have hA1 := apply_any w7.drew _ _ L0 D0 (HO.out.below hdr) (HP7.out.below hdr) L0_u (by intro c hc; simp [D0] at hc; subst hc; exact ⟨by decide, by decide⟩) (by decide) (by decide) (by decide)
  rw [apply0] at hA1
  have HA1 := Lib.hid hA1; have HK := Lib.hid hkeep; have HO8 := Lib.hid (HO.out.below hdr); have HN8 := Lib.hid (HN.out.below hdr); have HP8 := Lib.hid (HP7.out.below hdr); have HQ8 := Lib.hid (HQ7.out.below hdr); have HB8 := Lib.hid (HB7.out.trans (hdr.mono HB7.out.size))
  clear hkeep hdr r0 r1 r2 s0 s1 s2 hA1
  go_region_held3 (fun w' => w'.cell? ⟨b3, off3, none⟩ = some (.int .i64 0) ∧ w'.cell? ⟨b3, off3 + 1, none⟩ = some (.int .u64 2) ∧ w'.cell? ⟨b3, off3 + 2, none⟩ = some (.int .i64 2) ∧ w'.cell? ⟨n + 1 + 1 + 1, 0, none⟩ = some (.slice (some ⟨n + 1 + 1, 0, none⟩) 2 2) ∧ w'.cell? ⟨n + 1 + 1, 2, none⟩ = some (.int .u64 2) ∧ w'.cell? ⟨n + 1 + 1, 3, none⟩ = some (.int .i64 2)) (assumption) ((first | (go_at_call 48; refine (sum_c x7 _ N0 hN7 N0_u (by decide) (by decide) 5 sum0).mono ?_; rintro e x8 ⟨rfl, hb8⟩; have hs8 := HK.out _ _ hb8 hs7) | (go_at_call 43; refine (same12_c x6 _ _ D0 D0 (pc_ownT (own_below ho5 hb6)) (pc_ownT ho6) (by decide) true (by decide +kernel)).mono ?_; rintro e x7 ⟨rfl, hb7⟩; have hs7 := HK.out _ _ hb7 hs6; have hN7 := hN6.below hb7) | (go_at_call 44; refine (as_any x5 _ D0 hP5 (by decide)).mono ?_; rintro e x6 ⟨o6, rfl, ho6, hb6⟩; have hs6 := HK.out _ _ hb6 hs5; have hN6 := hN5.below hb6) | (go_at_call 44; refine (as_any x4 _ D0 hQ4 (by decide)).mono ?_; rintro e x5 ⟨o5, rfl, ho5, hb5⟩; have hs5 := HK.out _ _ hb5 hs4; have hP5 := hP4.below hb5; have hN5 := hN4.below hb5) | (go_at_call 47; refine (rose_c x3 _ _ N0 L0 hN3 hO3 N0_u L0_u (by decide) (by decide) (by decide) (by decide) false (by decide +kernel)).mono ?_; rintro e x4 ⟨rfl, hb4⟩; have hs4 := HK.out _ _ hb4 hs3; have hN4 := hN3.below hb4; have hP4 := HP8.out.below (hb1.trans ((hb2.mono hb1.size).trans ((hb3.mono (Nat.le_trans hb1.size hb2.size)).trans (hb4.mono (Nat.le_trans (Nat.le_trans hb1.size hb2.size) hb3.size))))); have hQ4 := HQ8.out.below (hb1.trans ((hb2.mono hb1.size).trans ((hb3.mono (Nat.le_trans hb1.size hb2.size)).trans (hb4.mono (Nat.le_trans (Nat.le_trans hb1.size hb2.size) hb3.size)))))) | (go_at_call 47; refine (rose_c x2 _ _ L0 N0 hO2 hN2 L0_u N0_u (by decide) (by decide) (by decide) (by decide) true (by decide +kernel)).mono ?_; rintro e x3 ⟨rfl, hb3⟩; have hs3 := HK.out _ _ hb3 hs2; have hO3 := hO2.below hb3; have hN3 := hN2.below hb3) | (go_at_call 53; refine (books_c x1 _ _ N0 N0 (hL1.pee (by decide)) hN1 (by decide) (by decide) true (by decide +kernel)).mono ?_; rintro e x2 ⟨rfl, hb2⟩; have hs2 := HK.out _ _ hb2 hs1; have hO2 := hO1.below hb2; have hN2 := hN1.below hb2) | (go_at_call 50; refine HA1.out.mono ?_; rintro e x1 ⟨o1, vs1, rfl, hL1, hb1⟩; have hs1 := HK.out _ _ hb1 hs0; have hO1 := HO8.out.below hb1; have hN1 := HN8.out.below hb1)))
  have c8 := hb8
  have c7 := hb7.trans (c8.mono hb7.size)
  have c6 := hb6.trans (c7.mono hb6.size)
  have c5 := hb5.trans (c6.mono hb5.size)
  have c4 := hb4.trans (c5.mono hb4.size)
  have c3 := hb3.trans (c4.mono hb3.size)
  have c2 := hb2.trans (c3.mono hb2.size)
  have c1 := hb1.trans (c2.mono hb1.size)
  have HE := Lib.hid (HB8.out.trans (c1.mono HB8.out.size))
  clear c1 c2 c3 c4 c5 c6 c7 c8
  go_wp2_with fail
  go_ret
  exact ⟨rfl, HE.out⟩
end Go.Proofs.Ytnlhgnioedalpaa.Pri

/- delta: a book that was applied to. -/
set_option linter.unusedSimpArgs false
set_option linter.unusedVariables false
namespace Go.Proofs.Ytnlhgnioedalpaa.Pri
open Go.RowKit Go.Proofs.YtnlhgnioedalpaaW.PrintWords Go.Proofs.Ytnlhgnioedalpaa.PPricePlays Go.Maps
open Go.Proofs.Ytnlhgnioedalpaa.Cod (PC)

/-- all entries of a book -/
def tot (b : List (List En)) : Nat := (b.map List.length).sum
theorem tot_nil : tot [] = 0 := rfl
theorem tot_cons (l : List En) (b : List (List En)) : tot (l :: b) = l.length + tot b := by unfold tot; rw [List.map_cons, List.sum_cons]
theorem tot_app (a b : List (List En)) : tot (a ++ b) = tot a + tot b := by unfold tot; rw [List.map_append, List.sum_append]
theorem tot_rep (n : Nat) : tot (List.replicate n []) = 0 := by
  induction n with
  | zero => rfl
  | succ n ih => rw [List.replicate_succ, tot_cons, ih]; rfl
theorem tot_ext (b : List (List En)) (n : Nat) : tot (extB b n) = tot b := by unfold extB; rw [tot_app, tot_rep, Nat.add_zero]
theorem tot_set : ∀ (b : List (List En)) (i : Nat) (ys : List En), i < b.length → tot (b.set i ys) + (b.getD i []).length = tot b + ys.length
  | [], i, ys, h => by simp at h
  | l :: b, 0, ys, h => by
    rw [List.set_cons_zero, tot_cons, tot_cons]
    simp only [List.getD_cons_zero]
    omega
  | l :: b, i + 1, ys, h => by
    rw [List.set_cons_succ, tot_cons, tot_cons, List.getD_cons_succ]
    have := tot_set b i ys (by simpa using h)
    omega
theorem tot_step (b : List (List En)) (c : Ch) : tot (stepB b c) ≤ tot b + 1 := by
  unfold stepB
  split
  · have h1 := tot_set (extB b (c.1.toNat + 1)) c.1.toNat (putP (b.getD c.1.toNat []) c.2.1 c.2.2) (by rw [ext_len]; omega)
    rw [ext_at, tot_ext] at h1
    have h2 := put_len (b.getD c.1.toNat []) c.2.1 c.2.2
    omega
  · omega
theorem tot_fold : ∀ (cs : List Ch) (b : List (List En)), tot (cs.foldl stepB b) ≤ tot b + cs.length
  | [], b => Nat.le_refl _
  | c :: cs, b => by
    rw [List.foldl_cons, List.length_cons]
    have h1 := tot_fold cs (stepB b c)
    have h2 := tot_step b c
    omega
theorem tot_of : ∀ b : List (List En), tot (b.map ofL) ≤ tot b
  | [] => Nat.le_refl _
  | l :: b => by
    rw [List.map_cons, tot_cons, tot_cons]
    have := tot_of b
    have := ofL_len l
    omega
theorem tot_take : ∀ (b : List (List En)) (k : Nat), tot (b.take (k + 1)) = tot (b.take k) + (b.getD k []).length
  | [], k => by simp [tot_nil]
  | l :: b, 0 => by rw [List.take_succ_cons, tot_cons]; simp [tot_nil]
  | l :: b, k + 1 => by
    rw [List.take_succ_cons, List.take_succ_cons, tot_cons, tot_cons, tot_take b k, List.getD_cons_succ]
    omega
theorem ch_tot (b : List (List En)) : ∀ k, (chT b k).length = tot (b.take k)
  | 0 => by unfold chT; simp [tot_nil]
  | k + 1 => by rw [chT_succ, List.length_append, List.length_map, ch_tot b k, tot_take]
theorem tot_at : ∀ (b : List (List En)) (i : Nat), (b.getD i []).length ≤ tot b
  | [], i => by simp
  | l :: b, 0 => by rw [tot_cons]; simp
  | l :: b, i + 1 => by rw [tot_cons, List.getD_cons_succ]; have := tot_at b i; omega
theorem diff_len (was now : List (List En)) : (diffL was now).length ≤ tot now := by
  unfold diffL
  refine Nat.le_trans (List.length_filter_le _ _) ?_
  rw [ch_tot, List.take_of_length_le (by rw [List.length_map]; exact Nat.le_refl _)]
  exact tot_of now
theorem tot_apply (old : List (List En)) (cs : List Ch) : tot (applyL old cs) ≤ tot old + cs.length := by
  unfold applyL
  have h1 := tot_fold cs (old.map ofL)
  have h2 := tot_of old
  omega
theorem memL_at {L : List (List En)} {l : List En} (h : l ∈ L) : ∃ i : Nat, L.getD i [] = l := by
  obtain ⟨i, hi, rfl⟩ := List.getElem_of_mem h
  exact ⟨i, by rw [List.getD_eq_getElem?_getD, List.getElem?_eq_getElem hi]; rfl⟩
/-- a book that is fit -/
structure Fit (b : List (List En)) : Prop where
  ti : ∀ i, Tight (b.getD i [])
  tot : tot b ≤ 900
  len : b.length ≤ 64
theorem Fit.ue {b : List (List En)} (h : Fit b) : ∀ l ∈ b, UE l := fun l hl e he => by
  obtain ⟨i, rfl⟩ := memL_at hl
  exact ((h.ti i).ok e he).1
theorem Fit.short {b : List (List En)} (h : Fit b) : ∀ l ∈ b, l.length ≤ 1000 := fun l hl => by
  obtain ⟨i, rfl⟩ := memL_at hl
  have := tot_at b i
  have := h.tot
  omega
theorem Fit.ok {was now : List (List En)} (h : Fit now) : okC3 (diffL was now) := fun q hq => by
  obtain ⟨i, hi, e, he, rfl, _⟩ := diff_mem.1 hq
  rw [(h.ti i).of_self] at he
  have hk := (h.ti i).ok e he
  have h4 : e.2 ≤ 2199023255552 := hk.2.2.2
  have h5 : 0 ≤ e.1 ∧ e.1 < 18446744073709551616 := hk.1
  have := h.len
  dsimp only
  exact ⟨⟨by omega, by omega⟩, h5, by omega, by omega⟩
end Go.Proofs.Ytnlhgnioedalpaa.Pri

/- delta: Steps. -/
set_option linter.unusedSimpArgs false
set_option linter.unusedVariables false
namespace Go.Proofs.Ytnlhgnioedalpaa.Pri
open Go.RowKit Go.Proofs.YtnlhgnioedalpaaW.PrintWords Go.Proofs.Ytnlhgnioedalpaa.PPricePlays Go.Maps
open Go.Proofs.Ytnlhgnioedalpaa.Cod (PC pc_own)
attribute [local go_sem] Oper.semAt_some

/-- the books behind so many rows -/
def bk (rows : List (List Ch)) : Nat → List (List En)
  | 0 => []
  | k + 1 => applyL (bk rows k) (rows.getD k [])
/-- and the copy -/
def cop (rows : List (List Ch)) : Nat → List (List En)
  | 0 => []
  | k + 1 => applyL (cop rows k) (diffL (bk rows k) (bk rows (k + 1)))
theorem row_mem {rows : List (List Ch)} {k : Nat} {P : Ch → Prop} (h : ∀ r ∈ rows, ∀ c ∈ r, P c) : ∀ c ∈ rows.getD k [], P c := by
  intro c hc
  by_cases hk : k < rows.length
  · rw [List.getD_eq_getElem?_getD, List.getElem?_eq_getElem hk] at hc
    exact h _ (List.getElem_mem hk) c hc
  · rw [List.getD_eq_getElem?_getD, List.getElem?_eq_none (by omega)] at hc
    simp at hc
theorem row_len {rows : List (List Ch)} {k : Nat} (h : ∀ r ∈ rows, r.length ≤ 20) : (rows.getD k []).length ≤ 20 := by
  by_cases hk : k < rows.length
  · rw [List.getD_eq_getElem?_getD, List.getElem?_eq_getElem hk]
    exact h _ (List.getElem_mem hk)
  · rw [List.getD_eq_getElem?_getD, List.getElem?_eq_none (by omega)]
    simp
theorem ti_ue {b : List (List En)} (h : ∀ i, Tight (b.getD i [])) : ∀ l ∈ b, UE l := fun l hl e he => by
  obtain ⟨i, rfl⟩ := memL_at hl
  exact ((h i).ok e he).1
theorem bk_all {rows : List (List Ch)} (hU : ∀ r ∈ rows, ∀ c ∈ r, U c.2.1) (hl : ∀ r ∈ rows, r.length ≤ 20) : ∀ k, (∀ i, Tight ((bk rows k).getD i [])) ∧ tot (bk rows k) ≤ 20 * k ∧ (bk rows k).length ≤ 64
  | 0 => ⟨fun i => by simp [bk]; exact Tight.nil, by simp [bk, tot_nil], by simp [bk]⟩
  | k + 1 => by
    obtain ⟨h1, h2, h3⟩ := bk_all hU hl k
    refine ⟨apply_tight (ti_ue h1) (row_mem hU), ?_, apply_len64 h3⟩
    have h4 := tot_apply (bk rows k) (rows.getD k [])
    have h5 := row_len (k := k) hl
    show tot (applyL (bk rows k) (rows.getD k [])) ≤ _
    omega
theorem bk_fit {rows : List (List Ch)} (hU : ∀ r ∈ rows, ∀ c ∈ r, U c.2.1) (hl : ∀ r ∈ rows, r.length ≤ 20) {k : Nat} (hk : k ≤ 40) : Fit (bk rows k) := by
  obtain ⟨h1, h2, h3⟩ := bk_all hU hl k
  exact ⟨h1, by omega, h3⟩
theorem cop_at {rows : List (List Ch)} (hU : ∀ r ∈ rows, ∀ c ∈ r, U c.2.1) (hl : ∀ r ∈ rows, r.length ≤ 20) : ∀ k i, (cop rows k).getD i [] = (bk rows k).getD i []
  | 0, i => rfl
  | k + 1, i => by
    obtain ⟨h1, h2, h3⟩ := bk_all hU hl k
    obtain ⟨g1, g2, g3⟩ := bk_all hU hl (k + 1)
    have hc := cop_at hU hl k
    exact back_at (cop := cop rows k) (old := bk rows k) (now := bk rows (k + 1)) (ti_ue (fun j => by rw [hc]; exact h1 j)) g1 (fun j => by rw [hc]) (fun j t => apply_mono j t) g3 i
theorem cop_len (rows : List (List Ch)) : ∀ k, (cop rows k).length ≤ 64
  | 0 => by simp [cop]
  | k + 1 => apply_len64 (cop_len rows k)
theorem cop_ue {rows : List (List Ch)} (hU : ∀ r ∈ rows, ∀ c ∈ r, U c.2.1) (hl : ∀ r ∈ rows, r.length ≤ 20) (k : Nat) : ∀ l ∈ cop rows k, UE l := ti_ue (fun j => by rw [cop_at hU hl]; exact (bk_all hU hl k).1 j)
theorem cop_short {rows : List (List Ch)} (hU : ∀ r ∈ rows, ∀ c ∈ r, U c.2.1) (hl : ∀ r ∈ rows, r.length ≤ 20) {k : Nat} (hk : k ≤ 40) : ∀ l ∈ cop rows k, l.length ≤ 1000 := fun l hm => by
  obtain ⟨i, rfl⟩ := memL_at hm
  rw [cop_at hU hl]
  have := tot_at (bk rows k) i
  have := (bk_all hU hl k).2.1
  omega

abbrev tEss : TypeId := 68
abbrev tE3 : TypeId := 95
/-- books in a row, each at its value -/
def P3 (W : World) (v : Value) (vals : List Value) (bs : List (List (List En))) : Prop := ∃ A c, v = .slice A bs.length c ∧ ∀ (k : Nat) b, bs[k]? = some b → ∃ g off u, A = some ⟨g, off, none⟩ ∧ g < W.heap.size ∧ vals[k]? = some u ∧ W.cell? ⟨g, off + k, none⟩ = some u ∧ PEE W u b
theorem P3.below {W W' : World} {v : Value} {vals : List Value} {bs : List (List (List En))} (h : P3 W v vals bs) (hb : Below W.heap.size W W') : P3 W' v vals bs := by
  obtain ⟨A, c, rfl, h1⟩ := h
  refine ⟨A, c, rfl, fun k b hk => ?_⟩
  obtain ⟨g, off, u, e, hg, hu, hc, hp⟩ := h1 k b hk
  exact ⟨g, off, u, e, Nat.lt_of_lt_of_le hg hb.size, hu, (hb.cell (p := ⟨g, off + k, none⟩) hg).trans hc, hp.below hb⟩
theorem P3.at {W : World} {v : Value} {vals : List Value} {bs : List (List (List En))} (h : P3 W v vals bs) {k : Nat} {b : List (List En)} (hk : bs[k]? = some b) : ∃ g off c A1 c1, v = .slice (some ⟨g, off, none⟩) bs.length c ∧ vals[k]? = some (.slice A1 b.length c1) ∧ W.cell? ⟨g, off + k, none⟩ = some (.slice A1 b.length c1) ∧ PEE W (.slice A1 b.length c1) b := by
  obtain ⟨A, c, rfl, h1⟩ := h
  obtain ⟨g, off, u, rfl, hg, hu, hc, hp⟩ := h1 k b hk
  obtain ⟨A1, c1, rfl, -⟩ := id hp
  exact ⟨g, off, c, A1, c1, rfl, hu, hc, hp⟩
theorem pee_nil (W : World) : PEE W (.slice none 0 0) [] := ⟨none, 0, rfl, fun i l h => by simp at h⟩
def prevB (bs : List (List (List En))) (k : Nat) : List (List En) := if k = 0 then [] else bs.getD (k - 1) []
def prevV (vals : List Value) (k : Nat) : Value := if k = 0 then .slice none 0 0 else vals.getD (k - 1) undef
theorem P3.prev {W : World} {v : Value} {vals : List Value} {bs : List (List (List En))} (h : P3 W v vals bs) {k : Nat} (hk : k ≤ bs.length) : ∃ A1 c1, prevV vals k = .slice A1 (prevB bs k).length c1 ∧ PEE W (.slice A1 (prevB bs k).length c1) (prevB bs k) := by
  unfold prevV prevB
  by_cases h0 : k = 0
  · rw [if_pos h0, if_pos h0]; exact ⟨none, 0, rfl, pee_nil W⟩
  · rw [if_neg h0, if_neg h0]
    have hx : bs[k - 1]? = some bs[k - 1] := List.getElem?_eq_getElem (by omega)
    obtain ⟨g, off, c, A1, c1, _, hv, _, hp⟩ := h.at hx
    have e : bs.getD (k - 1) [] = bs[k - 1] := by rw [List.getD_eq_getElem?_getD, hx]; rfl
    rw [e, List.getD_eq_getElem?_getD, hv]
    exact ⟨A1, c1, rfl, hp⟩
theorem steps_any (W : World) (A : Option Addr) (n c : Nat) :
    Calls Try.prog 55 #[.slice A n c] W fun e w' => e = .returned (.func (.func 92) #[] #[.pointer (some ⟨W.heap.size, 0, none⟩)]) ∧ w' = W.alloc (.cells #[.slice A n c] tE3) := by
  go_enter Try.func55, Try.ntmps55
  go_wp2_with fail
  go_ret
  exact ⟨rfl, rfl⟩
def stD (bs : List (List (List En))) (k : Nat) : List Ch := diffL (prevB bs k) (bs.getD k [])
set_option maxRecDepth 100000 in
set_option maxHeartbeats 4000000 in
theorem steps_iter (n : Nat) (Bb : Nat) (o : Value) (vals : List Value) (bs : List (List (List En))) (hbs : ∀ b ∈ bs, Fit b) (hsm : bs.length ≤ 1000) (Inv : Nat → World → Prop)
    (hI : ∀ k W, Inv k W → W.cell? ⟨Bb, 0, none⟩ = some o ∧ P3 W o vals bs) (hbel : ∀ k W W', Inv k W → Below W.heap.size W W' → Inv k W') :
    IterOk Fence.wide n Try.prog 92 #[.pointer (some ⟨Bb, 0, none⟩)] (fun x : Nat × Value => #[x.2])
      (Inv 0) (fun x W => x.1 < bs.length ∧ PC W x.2 (stD bs x.1) ∧ Inv x.1 W) (fun x W => Inv (x.1 + 1) W) (Inv bs.length) := by
  intro l Rc JX W1 hRc hJX hR0 hS0 hY
  refine callsIn_of_wp Try.func92 rfl trivial ?_ rfl
  simp only [Try.ntmps92, List.size_toArray, List.length_cons, List.length_nil, Nat.reduceAdd, Nat.reduceSub, Array.replicate_succ, Array.replicate_zero, List.push_toArray, List.append_toArray, List.nil_append, List.cons_append]
  obtain ⟨cB, hP3⟩ := hI _ _ hS0
  obtain ⟨A, c, rfl, -⟩ := id hP3
  have HI := Lib.hid hI; have HBEL := Lib.hid hbel; have HRC := Lib.hid hRc
  have HY := Lib.hid hY
  clear hP3 hI hbel hRc hY
  gi_wp2_with fail
  clear cB
  gi_loopw [3, 8] (fun s i wr => ∃ k : Nat, k ≤ bs.length ∧ i = .int .i64 k ∧ s = prevV vals k ∧ Rc wr ∧ Inv k wr) (fun _ i _ => bs.length - (intOf i).toNat)
  case atStart => exact ⟨0, Nat.zero_le _, rfl, rfl, hR0, hS0⟩
  case round =>
    obtain ⟨k, hk, rfl, rfl, hr, hi0⟩ := hrel
    by_cases hlt : k < bs.length
    · have kl : (k : Int) < (bs.length : Int) := by omega
      obtain ⟨cB, hP⟩ := HI.out _ _ hi0
      obtain ⟨b, hb⟩ : ∃ b, bs[k] = b := ⟨_, rfl⟩
      have hb2 : bs[k]? = some b := by rw [List.getElem?_eq_getElem hlt, hb]
      have hgd : bs.getD k [] = b := by rw [List.getD_eq_getElem?_getD, hb2]; rfl
      have hfb := hbs _ (List.mem_of_getElem? hb2)
      have hfp : Fit (prevB bs k) := by
        unfold prevB
        split
        · exact ⟨fun i => by simp; exact Tight.nil, by simp [tot_nil], by simp⟩
        · have hx : bs[k - 1]? = some bs[k - 1] := List.getElem?_eq_getElem (by omega)
          rw [List.getD_eq_getElem?_getD, hx]
          exact hbs _ (List.getElem_mem (by omega))
      obtain ⟨g, off, c4, A1, c1, e1, hv, r0, hpe⟩ := hP.at hb2
      obtain ⟨rfl, rfl⟩ : A = some ⟨g, off, none⟩ ∧ c = c4 := by injection e1 with e1 e2 e3; exact ⟨e1, e3⟩
      obtain ⟨A2, c2, hpv, hpp⟩ := hP.prev hk
      have hnv : prevV vals (k + 1) = .slice A1 b.length c1 := by unfold prevV; rw [if_neg (by omega), Nat.add_sub_cancel, List.getD_eq_getElem?_getD, hv]; rfl
      have hdf := diff_any wr _ _ _ _ hpp hpe hfp.ue hfb.ue (by have := hfp.len; omega) (by have := hfb.len; omega) hfp.short hfb.short
      have hst : stD bs k = diffL (prevB bs k) b := by unfold stD; rw [hgd]
      rw [← hst] at hdf
      rw [hpv]
      have HDF := Lib.hid hdf; have HI0 := Lib.hid hi0; have HR := Lib.hid hr; have HNV := Lib.hid hnv
      clear cB hP hb hb2 hgd hfb hfp e1 hv hpe hpv hpp hnv hdf hst hi0 hr
      gi_wp2_with fail
      refine ⟨trivial, ?_⟩
      refine ⟨fun h => (by cases h), ?_⟩
      refine (callsIn_wide.2 HDF.out).mono ?_; rintro e w3 ⟨o3, rfl, ho3, hb3⟩
      obtain ⟨A3, c3, rfl⟩ := own_sl ho3
      have hy0 := HY.out (k, .slice A3 (stD bs k).length c3) w3 ⟨hlt, pc_own ho3, HBEL.out _ _ _ HI0.out hb3⟩ (HRC.out _ _ HR.out (belowOthers hb3))
      obtain ⟨fn, tmps, assign, body, hy, hRn⟩ := hy0
      have HRN := Lib.hid hRn
      clear ho3 hb3 hRn
      gi_wp2_with fail
      refine ⟨fun h => (by cases h), ?_⟩
      refine RoundIn.mono HRN.out ?_
      rintro e W3 (⟨rfl, hi3, hr3⟩ | ⟨rfl, hJ⟩)
      · gi_wp2_with fail
        go_roundw
        case rel => exact ⟨k + 1, by omega, by simp, HNV.out.symm, hr3, hi3⟩
        case measure => simp [intOf]; omega
      · gi_wp2_with fail
        refine bodyPost_ret (results_none rfl _ _ _) rfl ?_
        exact ⟨⟨_, rfl⟩, .inr hJ⟩
    · obtain rfl : k = bs.length := by omega
      gi_wp2_with fail
      go_end0
      exact ⟨⟨_, rfl⟩, .inl ⟨hi0, hr⟩⟩
end Go.Proofs.Ytnlhgnioedalpaa.Pri

/- DeltaBooks. -/
set_option linter.unusedSimpArgs false
set_option linter.unusedVariables false
namespace Go.Proofs.Ytnlhgnioedalpaa.Pri
open Go.RowKit Go.Proofs.YtnlhgnioedalpaaW.PrintWords Go.Proofs.Ytnlhgnioedalpaa.PPricePlays Go.Maps
open Go.Proofs.Ytnlhgnioedalpaa.Cod (PC)
attribute [local go_sem] Oper.semAt_some

end Go.Proofs.Ytnlhgnioedalpaa.Pri

/- DeltaTight. -/
set_option linter.unusedSimpArgs false
set_option linter.unusedVariables false
namespace Go.Proofs.Ytnlhgnioedalpaa.Pri
open Go.RowKit Go.Proofs.YtnlhgnioedalpaaW.PrintWords Go.Proofs.Ytnlhgnioedalpaa.PPricePlays Go.Maps
open Go.Proofs.Ytnlhgnioedalpaa.Cod (PC cP3 cP3_length pc_own infoC)
attribute [local go_sem] Oper.semAt_some

def frC (x : Go.Proofs.Ytnlhgnioedalpaa.PDeltaBooks.S93) : Ch := (x.f0, x.f1.f0, x.f1.f1)
theorem pd_row93 {W : World} {z : List (Go.Proofs.Ytnlhgnioedalpaa.PDeltaBooks.S93)} {A : Option Addr} {c : Nat} (hC : Go.Proofs.Ytnlhgnioedalpaa.PDeltaBooks.k93.C W A z.length z) : PC W (.slice A z.length c) (z.map frC) := by
  refine ⟨A, c, by rw [List.length_map], fun i q hq => ?_⟩
  rw [List.getElem?_map] at hq
  cases hz : z[i]? with
  | none => rw [hz] at hq; simp at hq
  | some x =>
    rw [hz] at hq
    obtain rfl : frC x = q := by simpa using hq
    have hlt := (List.getElem?_eq_some_iff.1 hz).1
    obtain ⟨a, rfl, hr⟩ := hC.2.2 (by omega)
    obtain ⟨cs0, _, hk0, hc0⟩ := hr 0 _ (List.getElem?_eq_getElem (by omega))
    obtain rfl := Go.Proofs.Ytnlhgnioedalpaa.PDeltaBooks.k93_open hk0
    have hsp := cell_spot (by simpa [Addr.add] using hc0 0 _ rfl)
    obtain ⟨b, off, s⟩ := a
    obtain rfl : s = none := by injection hsp.1
    obtain ⟨cs, _, hk, hc⟩ := hr i _ hz
    obtain rfl := Go.Proofs.Ytnlhgnioedalpaa.PDeltaBooks.k93_open hk
    have h3 := hc 0 _ rfl
    have h4 := hc 1 _ rfl
    have h5 := hc 2 _ rfl
    rw [addr_add] at h3 h4 h5
    exact ⟨b, off, rfl, hsp.2, h3, h4, h5⟩
end Go.Proofs.Ytnlhgnioedalpaa.Pri

/- delta: books of books in memory; rows of changes; what DeltaSteps keeps. -/
set_option linter.unusedSimpArgs false
set_option linter.unusedVariables false
namespace Go.Proofs.Ytnlhgnioedalpaa.Pri
open Go.RowKit Go.Proofs.YtnlhgnioedalpaaW.PrintWords Go.Proofs.Ytnlhgnioedalpaa.PPricePlays Go.Maps
open Go.Proofs.Ytnlhgnioedalpaa.Cod (PC pc_own)
attribute [local go_sem] Oper.semAt_some

theorem infoEss : (Try.prog.info? 68).map (fun i => (i.zero, i.size, i.bytes)) = some (some (.slice none 0 0), 1, 24) := by kernel_rfl
theorem bk_upto {rows : List (List Ch)} (hU : ∀ r ∈ rows, ∀ c ∈ r, U c.2.1) : ∀ k, (∀ j, j < k → (rows.getD j []).length ≤ 20) → (∀ i, Tight ((bk rows k).getD i [])) ∧ tot (bk rows k) ≤ 20 * k ∧ (bk rows k).length ≤ 64
  | 0, _ => ⟨fun i => by simp [bk]; exact Tight.nil, by simp [bk, tot_nil], by simp [bk]⟩
  | k + 1, hl => by
    obtain ⟨h1, h2, h3⟩ := bk_upto hU k (fun j hj => hl j (by omega))
    refine ⟨apply_tight (ti_ue h1) (row_mem hU), ?_, apply_len64 h3⟩
    have h4 := tot_apply (bk rows k) (rows.getD k [])
    have h5 := hl k (by omega)
    show tot (applyL (bk rows k) (rows.getD k [])) ≤ _
    omega
theorem bk_fit2 {rows : List (List Ch)} (hU : ∀ r ∈ rows, ∀ c ∈ r, U c.2.1) {k : Nat} (hk : k ≤ 40) (hl : ∀ j, j < k → (rows.getD j []).length ≤ 20) : Fit (bk rows k) := by
  obtain ⟨h1, h2, h3⟩ := bk_upto hU k hl
  exact ⟨h1, by omega, h3⟩
def bks (rows : List (List Ch)) (n : Nat) : List (List (List En)) := (List.range n).map (fun j => bk rows (j + 1))
theorem bks_len (rows : List (List Ch)) (n : Nat) : (bks rows n).length = n := by simp [bks]
theorem bks_at {rows : List (List Ch)} {n k : Nat} (h : k < n) : (bks rows n)[k]? = some (bk rows (k + 1)) := by
  unfold bks
  rw [List.getElem?_map, List.getElem?_range h]
  rfl
theorem bks_succ (rows : List (List Ch)) (n : Nat) : bks rows (n + 1) = bks rows n ++ [bk rows (n + 1)] := by
  unfold bks
  rw [List.range_succ, List.map_append]
  rfl
theorem bks_st {rows : List (List Ch)} {n k : Nat} (h : k < n) : stD (bks rows n) k = diffL (bk rows k) (bk rows (k + 1)) := by
  unfold stD prevB
  have e1 : (bks rows n).getD k [] = bk rows (k + 1) := by rw [List.getD_eq_getElem?_getD, bks_at h]; rfl
  rw [e1]
  by_cases h0 : k = 0
  · subst h0; rw [if_pos rfl]; rfl
  · rw [if_neg h0, List.getD_eq_getElem?_getD, bks_at (show k - 1 < n by omega)]
    show diffL (bk rows (k - 1 + 1)) _ = _
    rw [show k - 1 + 1 = k by omega]
theorem cop_succ {rows : List (List Ch)} {n k : Nat} (h : k < n) : cop rows (k + 1) = applyL (cop rows k) (stD (bks rows n) k) := by rw [bks_st h]; rfl
/-- rows of changes that are read -/
def PCC (W : World) (v : Value) (rows : List (List Ch)) : Prop := ∃ A c, v = .slice A rows.length c ∧ ∀ (i : Nat) r, rows[i]? = some r → ∃ b off A1 c1, A = some ⟨b, off, none⟩ ∧ b < W.heap.size ∧ W.cell? ⟨b, off + i, none⟩ = some (.slice A1 r.length c1) ∧ PC W (.slice A1 r.length c1) r
theorem PCC.below {W W' : World} {v : Value} {L : List (List Ch)} (h : PCC W v L) (hb : Below W.heap.size W W') : PCC W' v L := by
  obtain ⟨A, c, rfl, h1⟩ := h
  refine ⟨A, c, rfl, fun i l hl => ?_⟩
  obtain ⟨b, off, A1, c1, rfl, hlt, hc, hp⟩ := h1 i l hl
  exact ⟨b, off, A1, c1, rfl, Nat.lt_of_lt_of_le hlt hb.size, (hb.cell (p := ⟨b, off + i, none⟩) hlt).trans hc, hp.below hb⟩
theorem PCC.at {W : World} {v : Value} {L : List (List Ch)} (h : PCC W v L) {k : Nat} {l : List Ch} (hl : L[k]? = some l) : ∃ b off c A1 c1, v = .slice (some ⟨b, off, none⟩) L.length c ∧ W.cell? ⟨b, off + k, none⟩ = some (.slice A1 l.length c1) ∧ PC W (.slice A1 l.length c1) l := by
  obtain ⟨A, c, rfl, h1⟩ := h
  obtain ⟨b, off, A1, c1, rfl, hlt, hc, hp⟩ := h1 k l hl
  exact ⟨b, off, c, A1, c1, rfl, hc, hp⟩
theorem PC.row {A B : World} {row : Option Nat} {v : Value} {cs : List Ch} (h : PC A v cs) (hg : A.grownBy B row) (hr : RowOk A row) : PC B v cs := by
  obtain ⟨a, c, rfl, h1⟩ := h
  refine ⟨a, c, rfl, fun i q hq => ?_⟩
  obtain ⟨b, off, e, hb, c0, c1, c2⟩ := h1 i q hq
  have hne : row ≠ some b := fun e2 => by
    obtain ⟨o, ho, hno⟩ := hr b e2
    unfold World.cell? at c0
    rw [ho] at c0
    cases o <;> simp [Obj.isCells] at hno c0
  have hk := hg.block b hb (fun e2 => hne e2.symm)
  exact ⟨b, off, e, Nat.lt_of_lt_of_le hb hg.size, (World.cell?_of_block hk).trans c0, (World.cell?_of_block hk).trans c1, (World.cell?_of_block hk).trans c2⟩
/-! lists of the call's own stay where other memory is written -/
theorem own_typed {A C : World} {B n size : Nat} {e u : TypeId} {v : Value} {xs : List Value} {row : Option Nat} (h : A.ownsRow B e size v n xs) (hg : A.grownBy C row) (hr : ∀ r, row = some r → ∃ cs fr, A.heap[r]? = some (.cells cs u fr)) (hu : u ≠ e) : C.ownsRow B e size v n xs := by
  refine h.kept hg ?_
  cases hv : v.ownBlock with
  | none => exact .inl rfl
  | some q =>
    refine .inr (fun e2 => ?_)
    obtain ⟨_, cs, fr, hc⟩ := own_typ h q hv
    obtain ⟨cs2, fr2, hc2⟩ := hr q e2.symm
    rw [hc] at hc2
    injection hc2 with hc2
    injection hc2 with _ hc2
    exact hu hc2.symm
theorem LR.typed {A C : World} {B : Nat} {ls : List (List En)} {vs : List Value} {o : Value} {u : TypeId} {row : Option Nat} (h : LR B ls vs o A) (hg : A.grownBy C row) (hr : ∀ r, row = some r → ∃ cs fr, A.heap[r]? = some (.cells cs u fr)) (h1 : u ≠ tEs) (h2 : u ≠ tE) : LR B ls vs o C :=
  ⟨h.n, own_typed h.own hg hr h1, fun i v l a b => own_typed (h.each i v l a b) hg hr h2⟩
theorem LR.weaken {A : World} {B B' : Nat} {ls : List (List En)} {vs : List Value} {o : Value} (h : LR B ls vs o A) (hB : B' ≤ B) : LR B' ls vs o A :=
  ⟨h.n, own_weaken h.own hB, fun i v l a b => own_weaken (h.each i v l a b) hB⟩
theorem own_off {w : World} {base n size : Nat} {e : TypeId} {v : Value} {xs : List Value} (h : w.ownsRow base e size v n xs) {b : Nat} (hb : b < base) : v.ownBlock ≠ some b := fun e2 => by have := (own_spot h b e2).1; omega
theorem LR.cell {A : World} {B : Nat} {ls : List (List En)} {vs : List Value} {o : Value} (h : LR B ls vs o A) {b : Nat} (hb : b < B) (x : Value) : LR B ls vs o (A.setCell ⟨b, 0, none⟩ x) :=
  ⟨h.n, own_setCell h.own (own_off h.own hb) 0 x, fun i v l a c => own_setCell (h.each i v l a c) (own_off (h.each i v l a c) hb) 0 x⟩
theorem LR.row {A C : World} {B : Nat} {ls : List (List En)} {vs : List Value} {o : Value} {row : Option Nat} (h : LR B ls vs o A) (hg : A.grownBy C row) (hr : RowOk A row) : LR B ls vs o C :=
  ⟨h.n, own_row h.own hg hr, fun i v l a b => own_row (h.each i v l a b) hg hr⟩
theorem lr_nil (W : World) : LR W.heap.size [] [] (.slice (some ⟨W.heap.size, 0, none⟩) 0 0) (W.alloc (.cells #[] tEs)) := ⟨rfl, own0 W tEs 1, fun i v l a b => by simp at a⟩
/-- books of the call's own -/
structure BB (B : Nat) (bs : List (List (List En))) (vals : List Value) (o : Value) (A : World) : Prop where
  n : vals.length = bs.length
  own : A.ownsRow B tEss 1 o bs.length vals
  each : ∀ (i : Nat) v b, vals[i]? = some v → bs[i]? = some b → ∃ vs, LR B b vs v A
theorem BB.below {B : Nat} {bs : List (List (List En))} {vals : List Value} {o : Value} {A C : World} (h : BB B bs vals o A) (hb : Below A.heap.size A C) : BB B bs vals o C :=
  ⟨h.n, own_below h.own hb, fun i v b a c => by obtain ⟨vs, hl⟩ := h.each i v b a c; exact ⟨vs, hl.below hb⟩⟩
theorem BB.typed {A C : World} {B : Nat} {bs : List (List (List En))} {vals : List Value} {o : Value} {u : TypeId} {row : Option Nat} (h : BB B bs vals o A) (hg : A.grownBy C row) (hr : ∀ r, row = some r → ∃ cs fr, A.heap[r]? = some (.cells cs u fr)) (h0 : u ≠ tEss) (h1 : u ≠ tEs) (h2 : u ≠ tE) : BB B bs vals o C :=
  ⟨h.n, own_typed h.own hg hr h0, fun i v b a c => by obtain ⟨vs, hl⟩ := h.each i v b a c; exact ⟨vs, hl.typed hg hr h1 h2⟩⟩
theorem BB.push {B : Nat} {bs : List (List (List En))} {vals : List Value} {o o' v : Value} {A C : World} {b : List (List En)} {vs : List Value} (h : BB B bs vals o A) (hv : LR B b vs v A) (hown : C.ownsRow B tEss 1 o' (bs.length + 1) (vals ++ [v])) (hg : A.grownBy C o.ownBlock) : BB B (bs ++ [b]) (vals ++ [v]) o' C := by
  have hr := fun r e => (own_typ h.own r e).2
  refine ⟨by simp [h.n], by rw [List.length_append]; exact hown, fun i x l hx hl => ?_⟩
  by_cases hi : i < bs.length
  · rw [List.getElem?_append_left (by rw [h.n]; exact hi)] at hx
    rw [List.getElem?_append_left hi] at hl
    obtain ⟨ws, hw⟩ := h.each i x l hx hl
    exact ⟨ws, hw.typed hg hr (by decide) (by decide)⟩
  · have hi2 : i = bs.length := by have := (List.getElem?_eq_some_iff.1 hl).1; simp at this; omega
    subst hi2
    rw [List.getElem?_append_right (by rw [h.n]; exact Nat.le_refl _), h.n, Nat.sub_self] at hx
    rw [List.getElem?_append_right (Nat.le_refl _), Nat.sub_self] at hl
    obtain rfl : v = x := by simpa using hx
    obtain rfl : b = l := by simpa using hl
    exact ⟨vs, hv.typed hg hr (by decide) (by decide)⟩
theorem BB.p3 {B : Nat} {bs : List (List (List En))} {vals : List Value} {o : Value} {A : World} (h : BB B bs vals o A) (hl : ∀ b ∈ bs, ∀ l ∈ b, l.length ≤ 1099511627776) : P3 A o vals bs := by
  obtain ⟨Ao, co, rfl⟩ := own_sl h.own
  refine ⟨Ao, co, rfl, fun i b hi => ?_⟩
  have hk : i < bs.length := (List.getElem?_eq_some_iff.1 hi).1
  have hkv : i < vals.length := by rw [h.n]; exact hk
  rcases h.own.2 with ⟨h1, h2⟩ | ⟨g, cap, cur, e1, h2, h3, h4, h5, h6, h7⟩
  · omega
  · injection e1 with e1 _ e3
    subst e1; subst e3
    have hb : Blk A g tEss cur.toList := by unfold Blk; rw [Array.toArray_toList]; exact h3
    obtain ⟨vs, ho⟩ := h.each i vals[i] b (List.getElem?_eq_getElem hkv) hi
    refine ⟨g, 0, vals[i], rfl, hb.lt, List.getElem?_eq_getElem hkv, ?_, ho.pee (hl b (List.mem_of_getElem? hi))⟩
    rw [Nat.zero_add]
    refine hb.cell ?_
    have h8 : (cur.toList.take (bs.length * 1))[i]? = some vals[i] := by rw [h7]; exact List.getElem?_eq_getElem hkv
    rw [List.getElem?_take, if_pos (by omega)] at h8
    exact h8
theorem rsame_t (W : World) (v u : Value) (l m : List En) (h : PE W v l) (k : PE W u m) (hl : l.length ≤ 1099511627776) (e : l = m) :
    Calls Try.prog 16 #[v, u] W fun e w' => e = .returned (.bool true) ∧ Below W.heap.size W w' := rsame_c W v u l m h k hl true (decide_eq_true e)
end Go.Proofs.Ytnlhgnioedalpaa.Pri
