/- DelX, DelY, DeltaBooks, DeltaTight, DeltaBack, laid together. -/
import Derived.Test.YtnlhgnioedalpaaGr15
import Derived.Test.YtnlhgnioedalpaaPDeltaBooksx0

/- delta: law12's alive. -/
set_option linter.unusedSimpArgs false
set_option linter.unusedVariables false
namespace Go.Proofs.Ytnlhgnioedalpaa.Pri
open Go.RowKit Go.Proofs.YtnlhgnioedalpaaW.PrintWords Go.Proofs.Ytnlhgnioedalpaa.PPricePlays Go.Maps
open Go.Proofs.Ytnlhgnioedalpaa.Cod (PC cP3 cP3_length pc_own infoC grown_own KTy.setOther wrL readC readC_wr write_any read_any goodC)
attribute [local go_sem] Oper.semAt_some

def L0 : List (List En) := [[(1, 3)]]
def N0 : List (List En) := [[(1, 3), (2, 2)]]
def D0 : List Ch := [(0, 2, 2)]
theorem L0_u : ∀ l ∈ L0, UE l := by
  intro l hl e he
  simp [L0] at hl
  subst hl
  simp at he
  subst he
  exact ⟨by decide, by decide⟩
theorem N0_u : ∀ l ∈ N0, UE l := by
  intro l hl e he
  simp [N0] at hl
  subst hl
  simp at he
  rcases he with rfl | rfl <;> exact ⟨by decide, by decide⟩
theorem diff0 : diffL L0 N0 = D0 := by decide +kernel
theorem apply0 : applyL L0 D0 = N0 := by decide +kernel
theorem sum0 : sumL N0 = 5 := by decide +kernel
theorem uv_bytes (cs : List Ch) : ∀ x ∈ wrL cs, 0 ≤ x ∧ x < 256 := by
  intro x hx
  unfold wrL at hx
  rw [List.mem_append] at hx
  rcases hx with hx | hx
  · exact CodL.uv_byte _ x hx
  · rw [List.mem_flatMap] at hx
    obtain ⟨q, _, hx⟩ := hx
    unfold Cod.wrC at hx
    rw [List.mem_append, List.mem_append] at hx
    rcases hx with (hx | hx) | hx <;> exact CodL.uv_byte _ x hx
theorem pee_one {W : World} {b : Nat} {A : Option Addr} {l : List En} {c : Nat} {t : TypeId} (hb : Blk W b t [.slice A l.length c]) (hp : PE W (.slice A l.length c) l) : PEE W (.slice (some ⟨b, 0, none⟩) 1 1) [l] := by
  refine ⟨_, 1, rfl, fun i l' hi => ?_⟩
  have hi0 : i = 0 := by have := (List.getElem?_eq_some_iff.1 hi).1; simpa using this
  subst hi0
  obtain rfl : l = l' := by simpa using hi
  exact ⟨b, 0, A, c, rfl, hb.lt, hb.cell rfl, hp⟩
theorem cap_own {w : World} {base n c : Nat} {e : TypeId} {A : Option Addr} {xs : List Value} (h : w.ownsRow base e 1 (.slice A n c) n xs) : A = none → c = 0 := fun hA => by
  subst hA
  rcases h.2 with ⟨h1, _⟩ | ⟨g, cap, cur, h1, _⟩
  · injection h1
  · cases h1
def okC3 (cs : List Ch) : Prop := ∀ q ∈ cs, (0 ≤ q.1 ∧ q.1 < 64) ∧ (0 ≤ q.2.1 ∧ q.2.1 < 18446744073709551616) ∧ (-9223372036854775808 ≤ q.2.2 ∧ q.2.2 ≤ 9223372036854775807)
theorem good_ok {cs : List Ch} (h : okC3 cs) : ∀ q ∈ cs, goodC q := fun q hq => ⟨⟨by have := (h q hq).1; omega, by have := (h q hq).1; omega⟩, (h q hq).2.1, (h q hq).2.2⟩
theorem reread_c (W : World) (B : Nat) (cs : List Ch) (A : Option Addr) (c : Nat) (h0 : okC3 cs) (hl : cs.length ≤ 4096) (ho : W.ownsRow B 5 1 (.slice A (wrL cs).length c) (wrL cs).length (nums .u8 (wrL cs))) :
    Calls Try.prog 51 #[.slice A (wrL cs).length c] W fun e w' => ∃ v, e = .returned (.tuple #[v, .int .i64 0]) ∧ PC w' v cs ∧ Below W.heap.size W w' := by
  have hfl := Cod.flat_len (wr := Cod.wrC) (m := 30) cs (fun z hz' => Cod.wrC_len (good_ok h0 z hz'))
  have hul := CodL.uv_len10 (n := cs.length) (by omega)
  have h := read_any W (wrL cs) A c (C_own ho).2.2 (cap_own ho) (uv_bytes cs) (by unfold wrL; rw [List.length_append]; omega) (by rw [Cod.allC_wr h0 hl]; dsimp only; omega)
  rw [readC_wr h0 hl] at h
  exact h
theorem books_c (W : World) (v u : Value) (L M : List (List En)) (h : PEE W v L) (k : PEE W u M) (hl : L.length ≤ 1000000) (hl2 : ∀ l ∈ L, l.length ≤ 1000000) (r : Bool) (hr : decide (L = M) = r) :
    Calls Try.prog 53 #[v, u] W fun e w' => e = .returned (.bool r) ∧ Below W.heap.size W w' := by
  rw [← hr]; exact books_any W v u L M h k hl hl2
theorem same12_c (W : World) (v u : Value) (L M : List Ch) (h : PC W v L) (k : PC W u M) (hl : L.length ≤ 1000000) (r : Bool) (hr : decide (L = M) = r) :
    Calls Try.prog 43 #[v, u] W fun e w' => e = .returned (.bool r) ∧ Below W.heap.size W w' := by
  rw [← hr]; exact same12_any W v u L M h k hl
theorem rose_c (W : World) (v u : Value) (was now : List (List En)) (h : PEE W v was) (k : PEE W u now) (hU : ∀ l ∈ was, UE l) (kU : ∀ l ∈ now, UE l) (hl : was.length ≤ 1000) (kl : now.length ≤ 1000) (hl2 : ∀ l ∈ was, l.length ≤ 1000) (kl2 : ∀ l ∈ now, l.length ≤ 1000) (r : Bool) (hr : decide (diffL now was = []) = r) :
    Calls Try.prog 47 #[v, u] W fun e w' => e = .returned (.bool r) ∧ Below W.heap.size W w' := by
  rw [← hr]; exact rose_any W v u was now h k hU kU hl kl hl2 kl2
theorem sum_c (W : World) (u : Value) (now : List (List En)) (k : PEE W u now) (kU : ∀ l ∈ now, UE l) (kl : now.length ≤ 1000) (kl2 : ∀ l ∈ now, l.length ≤ 1000) (r : Int) (hr : sumL now = r) :
    Calls Try.prog 48 #[u] W fun e w' => e = .returned (.int .i64 r) ∧ Below W.heap.size W w' := by
  rw [← hr]; exact sum_any W u now k kU kl kl2
set_option maxRecDepth 100000 in
set_option maxHeartbeats 8000000 in
theorem alive12_any (W : World) : Calls Try.prog 41 #[] W fun e w' => e = .returned (.bool true) ∧ Below W.heap.size W w' := by
  go_enter Try.func41, Try.ntmps41
  go_wp2_with fail
  obtain ⟨w4, hw4⟩ : ∃ w4, ((((W.alloc (.cells #[.int .u64 1, .int .i64 3] tE)).alloc (.cells #[.slice (some ⟨W.heap.size, 0, none⟩) 1 1] tEs)).alloc (.cells #[.int .u64 1, .int .i64 3, .int .u64 2, .int .i64 2] tE)).alloc (.cells #[.slice (some ⟨W.heap.size + 1 + 1, 0, none⟩) 2 2] tEs)) = w4 := ⟨_, rfl⟩
  have hb4 : Below W.heap.size W w4 := by rw [← hw4]; exact ((((Below.refl _ W).alloc (Nat.le_refl _) _).alloc (by simp) _).alloc (by simp; omega) _).alloc (by simp; omega) _
  have f1 : Blk w4 W.heap.size tE (cellsOf cE [(1, 3)]) := by rw [← hw4]; exact (((Blk.new W [.int .u64 1, .int .i64 3] tE).alloc _).alloc _).alloc _
  have f2 : Blk w4 (W.heap.size + 1) tEs [.slice (some ⟨W.heap.size, 0, none⟩) 1 1] := by rw [← hw4]; exact ((Blk.new2 W _ [.slice (some ⟨W.heap.size, 0, none⟩) 1 1] tEs).alloc _).alloc _
  have f3 : Blk w4 (W.heap.size + 1 + 1) tE (cellsOf cE [(1, 3), (2, 2)]) := by
    rw [← hw4]
    have := (Blk.new2 (W.alloc (.cells #[.int .u64 1, .int .i64 3] tE)) (.cells #[.slice (some ⟨W.heap.size, 0, none⟩) 1 1] tEs) [.int .u64 1, .int .i64 3, .int .u64 2, .int .i64 2] tE).alloc (.cells #[.slice (some ⟨W.heap.size + 1 + 1, 0, none⟩) 2 2] tEs)
    rw [World.size_alloc] at this
    exact this
  have f4 : Blk w4 (W.heap.size + 1 + 1 + 1) tEs [.slice (some ⟨W.heap.size + 1 + 1, 0, none⟩) 2 2] := by
    rw [← hw4]
    have := Blk.new2 ((W.alloc (.cells #[.int .u64 1, .int .i64 3] tE)).alloc (.cells #[.slice (some ⟨W.heap.size, 0, none⟩) 1 1] tEs)) (.cells #[.int .u64 1, .int .i64 3, .int .u64 2, .int .i64 2] tE) [.slice (some ⟨W.heap.size + 1 + 1, 0, none⟩) 2 2] tEs
    rw [World.size_alloc, World.size_alloc] at this
    exact this
  have hO : PEE w4 (.slice (some ⟨W.heap.size + 1, 0, none⟩) 1 1) L0 := pee_one (l := [(1, 3)]) f2 (pe_blk (l := [(1, 3)]) f1 (by decide) (by decide))
  have hN : PEE w4 (.slice (some ⟨W.heap.size + 1 + 1 + 1, 0, none⟩) 1 1) N0 := pee_one (l := [(1, 3), (2, 2)]) f4 (pe_blk (l := [(1, 3), (2, 2)]) f3 (by decide) (by decide))
  have HO := Lib.hid hO; have HN := Lib.hid hN; have HB4 := Lib.hid hb4; have HF3 := Lib.hid f3; have HF4 := Lib.hid f4
  rw [hw4]
  obtain ⟨n, hn⟩ : ∃ n, W.heap.size = n := ⟨_, rfl⟩
  simp only [hn] at HO HN HF3 HF4 ⊢
  have HNN := Lib.hid hn
  clear hw4 hb4 f1 f2 f3 f4 hO hN hn
  have hdf := diff_any w4 _ _ L0 N0 HO.out HN.out L0_u N0_u (by decide) (by decide) (by decide) (by decide)
  rw [diff0] at hdf
  refine hdf.mono ?_; rintro e w5 ⟨o5, rfl, ho5, hb5⟩
  clear hdf
  have hp5 := pc_ownT ho5
  obtain ⟨b3, off3, c3, e5, hl5, -⟩ := hp5.at (i := 0) (q := (0, 2, 2)) rfl
  obtain rfl : o5 = .slice (some ⟨b3, off3, none⟩) 1 c3 := e5
  have HO := Lib.hid (HO.out.below hb5); have HN := Lib.hid (HN.out.below hb5); have HB5 := Lib.hid (HB4.out.trans (hb5.mono HB4.out.size)); have HF3 := Lib.hid (HF3.out.belowS hb5); have HF4 := Lib.hid (HF4.out.belowS hb5)
  have HP5 := Lib.hid hp5
  clear hb5 ho5 hl5 hp5
  go_wp2_with fail
  refine (write_any w5 _ D0 HP5.out (by intro q hq; simp [D0] at hq; subst hq; exact ⟨⟨by decide, by decide⟩, ⟨by decide, by decide⟩, ⟨by decide, by decide⟩⟩) (by decide)).mono ?_; rintro e w6 ⟨o6, rfl, ho6, hb6⟩
  obtain ⟨A6, c6, rfl⟩ := own_sl ho6
  have HO := Lib.hid (HO.out.below hb6); have HN := Lib.hid (HN.out.below hb6); have HB6 := Lib.hid (HB5.out.trans (hb6.mono HB5.out.size)); have HF3 := Lib.hid (HF3.out.belowS hb6); have HF4 := Lib.hid (HF4.out.belowS hb6); have HP6 := Lib.hid (HP5.out.below hb6)
  have HO6 := Lib.hid ho6
  clear hb6 ho6
  go_wp2_with fail
  refine (reread_c w6 _ D0 A6 c6 (by intro q hq; simp [D0] at hq; subst hq; decide) (by decide) HO6.out).mono ?_; rintro e w7 ⟨o7, rfl, hp7, hb7⟩
  obtain ⟨A7, c7, rfl, -⟩ := id hp7
  have HO := Lib.hid (HO.out.below hb7); have HN := Lib.hid (HN.out.below hb7); have HB7 := Lib.hid (HB6.out.trans (hb7.mono HB6.out.size)); have HF3 := Lib.hid (HF3.out.belowS hb7); have HF4 := Lib.hid (HF4.out.belowS hb7); have HP7 := Lib.hid (HP6.out.below hb7)
  have HQ7 := Lib.hid hp7
  clear hb7 hp7
  obtain ⟨b9, off9, c9, e9, hl9, r0, r1, r2⟩ := HP7.out.at (i := 0) (q := (0, 2, 2)) rfl
  injection e9 with e9 ex1 ex2
  clear ex1 ex2
  injection e9 with e9
  injection e9 with e9 e10
  subst e9; subst e10
  rw [Nat.zero_mul, Nat.add_zero] at r0 r1 r2
  dsimp only at r0 r1 r2
  have s0 := HF4.out.cell (i := 0) rfl
  have s1 := HF3.out.cell (i := 2) rfl
  have s2 := HF3.out.cell (i := 3) rfl
  go_wp2_with fail
  have hkeep : ∀ A B : World, Below A.heap.size A B → (A.cell? ⟨b3, off3, none⟩ = some (.int .i64 0) ∧ A.cell? ⟨b3, off3 + 1, none⟩ = some (.int .u64 2) ∧ A.cell? ⟨b3, off3 + 2, none⟩ = some (.int .i64 2) ∧ A.cell? ⟨n + 1 + 1 + 1, 0, none⟩ = some (.slice (some ⟨n + 1 + 1, 0, none⟩) 2 2) ∧ A.cell? ⟨n + 1 + 1, 2, none⟩ = some (.int .u64 2) ∧ A.cell? ⟨n + 1 + 1, 3, none⟩ = some (.int .i64 2)) → (B.cell? ⟨b3, off3, none⟩ = some (.int .i64 0) ∧ B.cell? ⟨b3, off3 + 1, none⟩ = some (.int .u64 2) ∧ B.cell? ⟨b3, off3 + 2, none⟩ = some (.int .i64 2) ∧ B.cell? ⟨n + 1 + 1 + 1, 0, none⟩ = some (.slice (some ⟨n + 1 + 1, 0, none⟩) 2 2) ∧ B.cell? ⟨n + 1 + 1, 2, none⟩ = some (.int .u64 2) ∧ B.cell? ⟨n + 1 + 1, 3, none⟩ = some (.int .i64 2)) := fun A B hb ⟨h1, h2, h3, h4, h5, h6⟩ => ⟨(hb.cell (cell_spot h1).2).trans h1, (hb.cell (cell_spot h2).2).trans h2, (hb.cell (cell_spot h3).2).trans h3, (hb.cell (cell_spot h4).2).trans h4, (hb.cell (cell_spot h5).2).trans h5, (hb.cell (cell_spot h6).2).trans h6⟩
  have hdr : Below w7.heap.size w7 w7.drew := (Below.refl _ _).drew
  have hs0 : w7.drew.cell? ⟨b3, off3, none⟩ = some (.int .i64 0) ∧ w7.drew.cell? ⟨b3, off3 + 1, none⟩ = some (.int .u64 2) ∧ w7.drew.cell? ⟨b3, off3 + 2, none⟩ = some (.int .i64 2) ∧ w7.drew.cell? ⟨n + 1 + 1 + 1, 0, none⟩ = some (.slice (some ⟨n + 1 + 1, 0, none⟩) 2 2) ∧ w7.drew.cell? ⟨n + 1 + 1, 2, none⟩ = some (.int .u64 2) ∧ w7.drew.cell? ⟨n + 1 + 1, 3, none⟩ = some (.int .i64 2) := hkeep _ _ hdr ⟨r0, r1, r2, s0, s1, s2⟩
  have hA1 := apply_any w7.drew _ _ L0 D0 (HO.out.below hdr) (HP7.out.below hdr) L0_u (by intro c hc; simp [D0] at hc; subst hc; exact ⟨by decide, by decide⟩) (by decide) (by decide) (by decide)
  rw [apply0] at hA1
  have HA1 := Lib.hid hA1; have HK := Lib.hid hkeep; have HO8 := Lib.hid (HO.out.below hdr); have HN8 := Lib.hid (HN.out.below hdr); have HP8 := Lib.hid (HP7.out.below hdr); have HQ8 := Lib.hid (HQ7.out.below hdr); have HB8 := Lib.hid (HB7.out.trans (hdr.mono HB7.out.size))
  clear hkeep hdr r0 r1 r2 s0 s1 s2 hA1
  go_region_held3 (fun w' => w'.cell? ⟨b3, off3, none⟩ = some (.int .i64 0) ∧ w'.cell? ⟨b3, off3 + 1, none⟩ = some (.int .u64 2) ∧ w'.cell? ⟨b3, off3 + 2, none⟩ = some (.int .i64 2) ∧ w'.cell? ⟨n + 1 + 1 + 1, 0, none⟩ = some (.slice (some ⟨n + 1 + 1, 0, none⟩) 2 2) ∧ w'.cell? ⟨n + 1 + 1, 2, none⟩ = some (.int .u64 2) ∧ w'.cell? ⟨n + 1 + 1, 3, none⟩ = some (.int .i64 2)) (assumption) ((first | (go_at_call 48; refine (sum_c x7 _ N0 hN7 N0_u (by decide) (by decide) 5 sum0).mono ?_; rintro e x8 ⟨rfl, hb8⟩; have hs8 := HK.out _ _ hb8 hs7) | (go_at_call 43; refine (same12_c x6 _ _ D0 D0 (pc_ownT (own_below ho5 hb6)) (pc_ownT ho6) (by decide) true (by decide +kernel)).mono ?_; rintro e x7 ⟨rfl, hb7⟩; have hs7 := HK.out _ _ hb7 hs6; have hN7 := hN6.below hb7) | (go_at_call 44; refine (as_any x5 _ D0 hP5 (by decide)).mono ?_; rintro e x6 ⟨o6, rfl, ho6, hb6⟩; have hs6 := HK.out _ _ hb6 hs5; have hN6 := hN5.below hb6) | (go_at_call 44; refine (as_any x4 _ D0 hQ4 (by decide)).mono ?_; rintro e x5 ⟨o5, rfl, ho5, hb5⟩; have hs5 := HK.out _ _ hb5 hs4; have hP5 := hP4.below hb5; have hN5 := hN4.below hb5) | (go_at_call 47; refine (rose_c x3 _ _ N0 L0 hN3 hO3 N0_u L0_u (by decide) (by decide) (by decide) (by decide) false (by decide +kernel)).mono ?_; rintro e x4 ⟨rfl, hb4⟩; have hs4 := HK.out _ _ hb4 hs3; have hN4 := hN3.below hb4; have hP4 := HP8.out.below (hb1.trans ((hb2.mono hb1.size).trans ((hb3.mono (Nat.le_trans hb1.size hb2.size)).trans (hb4.mono (Nat.le_trans (Nat.le_trans hb1.size hb2.size) hb3.size))))); have hQ4 := HQ8.out.below (hb1.trans ((hb2.mono hb1.size).trans ((hb3.mono (Nat.le_trans hb1.size hb2.size)).trans (hb4.mono (Nat.le_trans (Nat.le_trans hb1.size hb2.size) hb3.size)))))) | (go_at_call 47; refine (rose_c x2 _ _ L0 N0 hO2 hN2 L0_u N0_u (by decide) (by decide) (by decide) (by decide) true (by decide +kernel)).mono ?_; rintro e x3 ⟨rfl, hb3⟩; have hs3 := HK.out _ _ hb3 hs2; have hO3 := hO2.below hb3; have hN3 := hN2.below hb3) | (go_at_call 53; refine (books_c x1 _ _ N0 N0 (hL1.pee (by decide)) hN1 (by decide) (by decide) true (by decide +kernel)).mono ?_; rintro e x2 ⟨rfl, hb2⟩; have hs2 := HK.out _ _ hb2 hs1; have hO2 := hO1.below hb2; have hN2 := hN1.below hb2) | (go_at_call 50; refine HA1.out.mono ?_; rintro e x1 ⟨o1, vs1, rfl, hL1, hb1⟩; have hs1 := HK.out _ _ hb1 hs0; have hO1 := HO8.out.below hb1; have hN1 := HN8.out.below hb1)))
  have c8 := hb8
  have c7 := hb7.trans (c8.mono hb7.size)
  have c6 := hb6.trans (c7.mono hb6.size)
  have c5 := hb5.trans (c6.mono hb5.size)
  have c4 := hb4.trans (c5.mono hb4.size)
  have c3 := hb3.trans (c4.mono hb3.size)
  have c2 := hb2.trans (c3.mono hb2.size)
  have c1 := hb1.trans (c2.mono hb1.size)
  have HE := Lib.hid (HB8.out.trans (c1.mono HB8.out.size))
  clear c1 c2 c3 c4 c5 c6 c7 c8
  go_wp2_with fail
  go_ret
  exact ⟨rfl, HE.out⟩
end Go.Proofs.Ytnlhgnioedalpaa.Pri

/- delta: a book that was applied to. -/
set_option linter.unusedSimpArgs false
set_option linter.unusedVariables false
namespace Go.Proofs.Ytnlhgnioedalpaa.Pri
open Go.RowKit Go.Proofs.YtnlhgnioedalpaaW.PrintWords Go.Proofs.Ytnlhgnioedalpaa.PPricePlays Go.Maps
open Go.Proofs.Ytnlhgnioedalpaa.Cod (PC)

/-- all entries of a book -/
def tot (b : List (List En)) : Nat := (b.map List.length).sum
theorem tot_nil : tot [] = 0 := rfl
theorem tot_cons (l : List En) (b : List (List En)) : tot (l :: b) = l.length + tot b := by unfold tot; rw [List.map_cons, List.sum_cons]
theorem tot_app (a b : List (List En)) : tot (a ++ b) = tot a + tot b := by unfold tot; rw [List.map_append, List.sum_append]
theorem tot_rep (n : Nat) : tot (List.replicate n []) = 0 := by
  induction n with
  | zero => rfl
  | succ n ih => rw [List.replicate_succ, tot_cons, ih]; rfl
theorem tot_ext (b : List (List En)) (n : Nat) : tot (extB b n) = tot b := by unfold extB; rw [tot_app, tot_rep, Nat.add_zero]
theorem tot_set : ∀ (b : List (List En)) (i : Nat) (ys : List En), i < b.length → tot (b.set i ys) + (b.getD i []).length = tot b + ys.length
  | [], i, ys, h => by simp at h
  | l :: b, 0, ys, h => by
    rw [List.set_cons_zero, tot_cons, tot_cons]
    simp only [List.getD_cons_zero]
    omega
  | l :: b, i + 1, ys, h => by
    rw [List.set_cons_succ, tot_cons, tot_cons, List.getD_cons_succ]
    have := tot_set b i ys (by simpa using h)
    omega
theorem tot_step (b : List (List En)) (c : Ch) : tot (stepB b c) ≤ tot b + 1 := by
  unfold stepB
  split
  · have h1 := tot_set (extB b (c.1.toNat + 1)) c.1.toNat (putP (b.getD c.1.toNat []) c.2.1 c.2.2) (by rw [ext_len]; omega)
    rw [ext_at, tot_ext] at h1
    have h2 := put_len (b.getD c.1.toNat []) c.2.1 c.2.2
    omega
  · omega
theorem tot_fold : ∀ (cs : List Ch) (b : List (List En)), tot (cs.foldl stepB b) ≤ tot b + cs.length
  | [], b => Nat.le_refl _
  | c :: cs, b => by
    rw [List.foldl_cons, List.length_cons]
    have h1 := tot_fold cs (stepB b c)
    have h2 := tot_step b c
    omega
theorem tot_of : ∀ b : List (List En), tot (b.map ofL) ≤ tot b
  | [] => Nat.le_refl _
  | l :: b => by
    rw [List.map_cons, tot_cons, tot_cons]
    have := tot_of b
    have := ofL_len l
    omega
theorem tot_le {m : Nat} : ∀ b : List (List En), (∀ l ∈ b, l.length ≤ m) → tot b ≤ b.length * m
  | [], _ => by rw [tot_nil]; omega
  | l :: b, h => by
    rw [tot_cons, List.length_cons, Nat.add_mul]
    have := tot_le b (fun x hx => h x (List.mem_cons_of_mem _ hx))
    have := h l List.mem_cons_self
    omega
theorem tot_take : ∀ (b : List (List En)) (k : Nat), tot (b.take (k + 1)) = tot (b.take k) + (b.getD k []).length
  | [], k => by simp [tot_nil]
  | l :: b, 0 => by rw [List.take_succ_cons, tot_cons]; simp [tot_nil]
  | l :: b, k + 1 => by
    rw [List.take_succ_cons, List.take_succ_cons, tot_cons, tot_cons, tot_take b k, List.getD_cons_succ]
    omega
theorem ch_tot (b : List (List En)) : ∀ k, (chT b k).length = tot (b.take k)
  | 0 => by unfold chT; simp [tot_nil]
  | k + 1 => by rw [chT_succ, List.length_append, List.length_map, ch_tot b k, tot_take]
theorem tot_at : ∀ (b : List (List En)) (i : Nat), (b.getD i []).length ≤ tot b
  | [], i => by simp
  | l :: b, 0 => by rw [tot_cons]; simp
  | l :: b, i + 1 => by rw [tot_cons, List.getD_cons_succ]; have := tot_at b i; omega
theorem diff_len (was now : List (List En)) : (diffL was now).length ≤ tot now := by
  unfold diffL
  refine Nat.le_trans (List.length_filter_le _ _) ?_
  rw [ch_tot, List.take_of_length_le (by rw [List.length_map]; exact Nat.le_refl _)]
  exact tot_of now
theorem tot_apply (old : List (List En)) (cs : List Ch) : tot (applyL old cs) ≤ tot old + cs.length := by
  unfold applyL
  have h1 := tot_fold cs (old.map ofL)
  have h2 := tot_of old
  omega
theorem memL_at {L : List (List En)} {l : List En} (h : l ∈ L) : ∃ i : Nat, L.getD i [] = l := by
  obtain ⟨i, hi, rfl⟩ := List.getElem_of_mem h
  exact ⟨i, by rw [List.getD_eq_getElem?_getD, List.getElem?_eq_getElem hi]; rfl⟩
/-- a book that is fit -/
structure Fit (b : List (List En)) : Prop where
  ti : ∀ i, Tight (b.getD i [])
  tot : tot b ≤ 900
  len : b.length ≤ 64
theorem Fit.ue {b : List (List En)} (h : Fit b) : ∀ l ∈ b, UE l := fun l hl e he => by
  obtain ⟨i, rfl⟩ := memL_at hl
  exact ((h.ti i).ok e he).1
theorem Fit.short {b : List (List En)} (h : Fit b) : ∀ l ∈ b, l.length ≤ 1000 := fun l hl => by
  obtain ⟨i, rfl⟩ := memL_at hl
  have := tot_at b i
  have := h.tot
  omega
theorem fit_apply {old : List (List En)} {cs : List Ch} (hU : ∀ l ∈ old, UE l) (hc : ∀ c ∈ cs, U c.2.1) (ht : tot old + cs.length ≤ 900) (hl : old.length ≤ 64) : Fit (applyL old cs) :=
  ⟨apply_tight hU hc, Nat.le_trans (tot_apply old cs) ht, apply_len64 hl⟩
theorem Fit.ok {was now : List (List En)} (h : Fit now) : okC3 (diffL was now) := fun q hq => by
  obtain ⟨i, hi, e, he, rfl, _⟩ := diff_mem.1 hq
  rw [(h.ti i).of_self] at he
  have hk := (h.ti i).ok e he
  have h4 : e.2 ≤ 2199023255552 := hk.2.2.2
  have h5 : 0 ≤ e.1 ∧ e.1 < 18446744073709551616 := hk.1
  have := h.len
  dsimp only
  exact ⟨⟨by omega, by omega⟩, h5, by omega, by omega⟩
theorem Fit.self {b : List (List En)} (h : Fit b) : diffL b b = [] := rose_none h.ti (fun i t => by rw [(h.ti i).of_self]; exact Int.le_refl _)
theorem sum_pos {now : List (List En)} (hU : ∀ l ∈ now, UE l) : 0 ≤ sumL now := (sum_rng _ 0 (fun q hq => (ch_ask hU hq).1) (by decide) (by decide)).1
theorem few_tot {old : List (List En)} (h : old.length ≤ 20 ∧ ∀ l ∈ old, l.length ≤ 40) : tot old ≤ 800 := by
  have h1 := tot_le old h.2
  have h2 : old.length * 40 ≤ 20 * 40 := Nat.mul_le_mul_right _ h.1
  omega
/-- the beginning of a book -/
theorem PEE.pre {W : World} {A : Option Addr} {n c : Nat} {L : List (List En)} (h : PEE W (.slice A n c) L) (m c' : Nat) (hm : m ≤ L.length) : PEE W (.slice A m c') (L.take m) := by
  obtain ⟨A2, c2, e, hq⟩ := h
  injection e with e1 e2 e3
  subst e1
  refine ⟨A, c', by rw [List.length_take]; congr 1; omega, fun i l hl => ?_⟩
  rw [List.getElem?_take] at hl
  split at hl
  · exact hq i l hl
  · cases hl
end Go.Proofs.Ytnlhgnioedalpaa.Pri

/- DeltaBooks. -/
set_option linter.unusedSimpArgs false
set_option linter.unusedVariables false
namespace Go.Proofs.Ytnlhgnioedalpaa.Pri
open Go.RowKit Go.Proofs.YtnlhgnioedalpaaW.PrintWords Go.Proofs.Ytnlhgnioedalpaa.PPricePlays Go.Maps
open Go.Proofs.Ytnlhgnioedalpaa.Cod (PC)
attribute [local go_sem] Oper.semAt_some

theorem few_of {L : List (List En)} (h : fewB L 20 40 = true) : L.length ≤ 20 ∧ ∀ l ∈ L, l.length ≤ 40 := by
  unfold fewB at h
  rw [Bool.and_eq_true, decide_eq_true_eq, List.all_eq_true] at h
  exact ⟨by omega, fun l hl => by have := of_decide_eq_true (h.2 l hl); omega⟩
theorem few_c (W : World) (v : Value) (L : List (List En)) (h : PEE W v L) (r : Bool) (hr : fewB L 20 40 = r) :
    Calls Try.prog 42 #[v] W fun e w' => e = .returned (.bool r) ∧ Below W.heap.size W w' := by
  rw [← hr]; exact few12_any W v L h
theorem pd_row41 {W : World} {z : List (Go.Proofs.Ytnlhgnioedalpaa.PDeltaBooks.S41)} {A : Option Addr} {c : Nat} (hc : z.length ≤ c) (hA : A = none → c = 0) (hC : Go.Proofs.Ytnlhgnioedalpaa.PDeltaBooks.k41.C W A z.length z) : PE W (.slice A z.length c) (z.map (fun x => (x.f0, x.f1))) := by
  refine ⟨A, c, by rw [List.length_map], by rw [List.length_map]; exact hc, hA, ?_⟩
  rw [List.length_map]
  refine ⟨by simp, hC.2.1, fun hpos => ?_⟩
  obtain ⟨a, rfl, hr⟩ := hC.2.2 hpos
  refine ⟨a, rfl, fun j x hx => ?_⟩
  rw [List.getElem?_map, List.getElem?_map] at hx
  cases hq : z[j]? with
  | none => rw [hq] at hx; simp at hx
  | some q =>
    rw [hq] at hx
    obtain ⟨cs, hl, hk, hcc⟩ := hr j q hq
    obtain rfl := Go.Proofs.Ytnlhgnioedalpaa.PDeltaBooks.k41_open hk
    obtain rfl : (⟨q.f0, q.f1⟩ : S41) = x := by simpa [toE] using hx
    exact ⟨_, hl, k41_mk W _, hcc⟩
end Go.Proofs.Ytnlhgnioedalpaa.Pri

/- DeltaTight. -/
set_option linter.unusedSimpArgs false
set_option linter.unusedVariables false
namespace Go.Proofs.Ytnlhgnioedalpaa.Pri
open Go.RowKit Go.Proofs.YtnlhgnioedalpaaW.PrintWords Go.Proofs.Ytnlhgnioedalpaa.PPricePlays Go.Maps
open Go.Proofs.Ytnlhgnioedalpaa.Cod (PC cP3 cP3_length pc_own infoC)
attribute [local go_sem] Oper.semAt_some

def frC (x : Go.Proofs.Ytnlhgnioedalpaa.PDeltaBooks.S93) : Ch := (x.f0, x.f1.f0, x.f1.f1)
theorem pd_row93 {W : World} {z : List (Go.Proofs.Ytnlhgnioedalpaa.PDeltaBooks.S93)} {A : Option Addr} {c : Nat} (hC : Go.Proofs.Ytnlhgnioedalpaa.PDeltaBooks.k93.C W A z.length z) : PC W (.slice A z.length c) (z.map frC) := by
  refine ⟨A, c, by rw [List.length_map], fun i q hq => ?_⟩
  rw [List.getElem?_map] at hq
  cases hz : z[i]? with
  | none => rw [hz] at hq; simp at hq
  | some x =>
    rw [hz] at hq
    obtain rfl : frC x = q := by simpa using hq
    have hlt := (List.getElem?_eq_some_iff.1 hz).1
    obtain ⟨a, rfl, hr⟩ := hC.2.2 (by omega)
    obtain ⟨cs0, _, hk0, hc0⟩ := hr 0 _ (List.getElem?_eq_getElem (by omega))
    obtain rfl := Go.Proofs.Ytnlhgnioedalpaa.PDeltaBooks.k93_open hk0
    have hsp := cell_spot (by simpa [Addr.add] using hc0 0 _ rfl)
    obtain ⟨b, off, s⟩ := a
    obtain rfl : s = none := by injection hsp.1
    obtain ⟨cs, _, hk, hc⟩ := hr i _ hz
    obtain rfl := Go.Proofs.Ytnlhgnioedalpaa.PDeltaBooks.k93_open hk
    have h3 := hc 0 _ rfl
    have h4 := hc 1 _ rfl
    have h5 := hc 2 _ rfl
    rw [addr_add] at h3 h4 h5
    exact ⟨b, off, rfl, hsp.2, h3, h4, h5⟩
end Go.Proofs.Ytnlhgnioedalpaa.Pri

/- DeltaBack. -/
set_option linter.unusedSimpArgs false
set_option linter.unusedVariables false
namespace Go.Proofs.Ytnlhgnioedalpaa.Pri
open Go.RowKit Go.Proofs.YtnlhgnioedalpaaW.PrintWords Go.Proofs.Ytnlhgnioedalpaa.PPricePlays Go.Maps
open Go.Proofs.Ytnlhgnioedalpaa.Cod (PC cP3 cP3_length pc_own infoC wrL write_any)
attribute [local go_sem] Oper.semAt_some

theorem most_c (W : World) (v : Value) (cs : List Ch) (h : PC W v cs) (hl : cs.length ≤ 1000000) (hb : ∀ q ∈ cs, 0 ≤ q.1 ∧ q.1 < 64) (m : Int) (hm : mostL cs = m) :
    Calls Try.prog 54 #[v] W fun e w' => e = .returned (.int .i64 m) ∧ Below W.heap.size W w' := by
  rw [← hm]; exact most_any W v cs h hl hb
theorem okC3.rng {cs : List Ch} (h : okC3 cs) : ∀ q ∈ cs, 0 ≤ q.1 ∧ q.1 < 64 := fun q hq => (h q hq).1
set_option maxRecDepth 100000 in
set_option maxHeartbeats 8000000 in
theorem back_core (W : World) (v u : Value) (old : List (List En)) (cs : List Ch) (h : PEE W v old) (k : PC W u cs) (hU : ∀ l ∈ old, UE l) (kU : ∀ c ∈ cs, U c.2.1) :
    Calls Try.prog 11 #[v, u] W fun e w' => e = .returned (.bool true) ∧ Below W.heap.size W w' := by
  have H := Lib.hid h; have K := Lib.hid k
  obtain ⟨A1, c1, rfl, -⟩ := h
  obtain ⟨A, c, rfl, -⟩ := k
  obtain ⟨f1, hf1⟩ : ∃ r, fewB old 20 40 = r := ⟨_, rfl⟩
  have HF1 := Lib.hid hf1
  clear hf1
  cases f1 with
  | false =>
    go_enter Try.func11, Try.ntmps11
    go_wp2_with fail
    refine (alive12_any _).mono ?_; rintro e w1 ⟨rfl, hb1⟩
    go_wp2_with fail
    refine (few_c w1 _ old (H.out.below hb1) false HF1.out).mono ?_; rintro e w2 ⟨rfl, hb2⟩
    have HB2 := Lib.hid (hb1.trans (hb2.mono hb1.size))
    clear hb1 hb2
    go_wp2_with fail
    go_ret
    exact ⟨rfl, HB2.out⟩
  | true =>
  by_cases hcl : (60 : Int) < (cs.length : Int)
  · go_enter Try.func11, Try.ntmps11
    go_wp2_with fail
    refine (alive12_any _).mono ?_; rintro e w1 ⟨rfl, hb1⟩
    go_wp2_with fail
    refine (few_c w1 _ old (H.out.below hb1) true HF1.out).mono ?_; rintro e w2 ⟨rfl, hb2⟩
    have HB2 := Lib.hid (hb1.trans (hb2.mono hb1.size))
    clear hb1 hb2
    go_wp2_with fail
    go_ret
    exact ⟨rfl, HB2.out⟩
  have hfw := few_of HF1.out
  have l1' : old.length ≤ 1000 := by omega
  have l2' : ∀ l ∈ old, l.length ≤ 1000 := fun l hl => by have := hfw.2 l hl; omega
  have hft := few_tot hfw
  have hfit := fit_apply hU kU (show tot old + cs.length ≤ 900 by omega) (by omega)
  have hmo := fun i t => apply_mono (old := old) (cs := cs) i t
  have hol : old.length ≤ (applyL old cs).length := by
    by_cases h0 : old.length ≤ (applyL old cs).length
    · exact h0
    · have := (apply_len (old := old) (cs := cs) (k := (applyL old cs).length)).2 (.inl (by omega))
      omega
  have HA := Lib.hid (fun (w : World) (hb : Below W.heap.size W w) => apply_any w _ _ old cs (H.out.below hb) (K.out.below hb) hU kU l1' l2' (by omega))
  obtain ⟨now, hnow⟩ : ∃ now, applyL old cs = now := ⟨_, rfl⟩
  rw [hnow] at HA hfit hmo hol
  have hrose : decide (diffL now old = []) = true := decide_eq_true (rose_none hfit.ti hmo)
  have hself : decide (diffL now now = []) = true := decide_eq_true hfit.self
  have hok := hfit.ok (was := old)
  have hdn := diff_len old now
  have htk := back_take hU hfit.ti hmo hfit.len hol
  have hre := fun (i : Nat) hi => back_rest (i := i) hU hfit.ti hmo hfit.len hi
  have hml := most_le (old := old) (now := now)
  have hm0 := mostL_nonneg (diffL old now)
  have hd0 := hfit.tot
  have hnl := hfit.len
  have HD := Lib.hid (fun (w : World) (u2 : Value) (hb : Below W.heap.size W w) (hp : PEE w u2 now) => diff_any w _ u2 old now (H.out.below hb) hp hU hfit.ue l1' (by omega) l2' hfit.short)
  have hsd := hfit.self
  have HDS := Lib.hid (fun (w : World) (u2 : Value) (hp : PEE w u2 now) => diff_any w u2 u2 now now hp hp hfit.ue hfit.ue (by omega) (by omega) hfit.short hfit.short)
  obtain ⟨D, hD⟩ : ∃ D, diffL old now = D := ⟨_, rfl⟩
  obtain ⟨mD, hmD⟩ : ∃ mD, mostL D = mD := ⟨_, rfl⟩
  rw [hD] at hok hdn htk hre hml hm0 HD
  rw [hmD] at htk hre hml hm0
  rw [hsd] at HDS
  have huD : ∀ q ∈ D, U q.2.1 := fun q hq => (hok q hq).2.1
  obtain ⟨M, hM⟩ : ∃ M, max old.length mD.toNat = M := ⟨_, rfl⟩
  have hMI : max (old.length : Int) mD = (M : Int) := by omega
  have hMn : M ≤ now.length := by omega
  rw [hM] at htk hre
  have hdl : D.length ≤ 1000 := by omega
  have HA3 := Lib.hid (fun (w : World) (u2 : Value) (hb : Below W.heap.size W w) (hp : PC w u2 D) => apply_any w _ u2 old D (H.out.below hb) hp hU huD l1' l2' (by omega))
  obtain ⟨L9, hL9⟩ : ∃ L9, now.take M = L9 := ⟨_, rfl⟩
  have hl9 : L9.length = M := by rw [← hL9, List.length_take]; omega
  have HL9 := Lib.hid hL9; have HL9L := Lib.hid hl9
  rw [hL9] at htk
  have HFIT := Lib.hid hfit; have HRO := Lib.hid hrose; have HSE := Lib.hid hself; have HOK := Lib.hid hok; have HTK := Lib.hid htk; have HRE := Lib.hid hre; have HMD := Lib.hid hmD; have HMI := Lib.hid hMI
  obtain ⟨s, hs⟩ : ∃ s, sumL now = s := ⟨_, rfl⟩
  have hs0 : 0 ≤ s := by rw [← hs]; exact sum_pos hfit.ue
  have HS := Lib.hid hs
  clear hfw l2' hft hfit hmo hol hnow hrose hself hok hdn htk hre hml hd0 hsd hD hmD hM hMI hs hm0 hL9 hl9
  go_enter Try.func11, Try.ntmps11
  go_wp2_with fail
  refine (alive12_any _).mono ?_; rintro e w1 ⟨rfl, hb1⟩
  go_wp2_with fail
  refine (few_c w1 _ old (H.out.below hb1) true HF1.out).mono ?_; rintro e w2 ⟨rfl, hb2⟩
  have HB2 := Lib.hid (hb1.trans (hb2.mono hb1.size))
  clear hb1 hb2
  go_wp2_with fail
  refine (HA.out w2 HB2.out).mono ?_; rintro e w3 ⟨o3, vs3, rfl, hL3, hb3⟩
  have hp3 := hL3.pee (fun l hl => by have := HFIT.out.short l hl; omega)
  have hcap : ∃ A3 c3, o3 = .slice A3 now.length c3 ∧ now.length ≤ c3 ∧ (A3 = none → c3 = 0) := by
    rcases hL3.own.2 with ⟨h1, h2⟩ | ⟨g, cap, cur, h1, h2, h3, h4, _⟩
    · exact ⟨none, 0, by rw [h1, h2], by omega, fun _ => rfl⟩
    · exact ⟨_, cap, h1, h4, fun e => by cases e⟩
  obtain ⟨A3, c3, rfl, hc3, hn3⟩ := hcap
  have HP3 := Lib.hid hp3; have HB3 := Lib.hid (HB2.out.trans (hb3.mono HB2.out.size)); have HN3 := Lib.hid hn3
  clear hL3 hp3 hb3 hn3
  go_wp2_with fail
  refine (rose_c w3 _ _ old now (H.out.below HB3.out) HP3.out hU HFIT.out.ue l1' (by omega) (fun l hl => by have := few_of HF1.out; have := this.2 l hl; omega) HFIT.out.short true HRO.out).mono ?_; rintro e w4 ⟨rfl, hb4⟩
  have HB4 := Lib.hid (HB3.out.trans (hb4.mono HB3.out.size)); have HP4 := Lib.hid (HP3.out.below hb4)
  clear hb4
  go_wp2_with fail
  refine (sum_c w4 _ now HP4.out HFIT.out.ue (by omega) HFIT.out.short s HS.out).mono ?_; rintro e w5 ⟨rfl, hb5⟩
  have HB5 := Lib.hid (HB4.out.trans (hb5.mono HB4.out.size)); have HP5 := Lib.hid (HP4.out.below hb5)
  clear hb5
  have hs1 : ¬ s < 0 := by omega
  go_wp2_with fail
  refine (HD.out w5 _ HB5.out HP5.out).mono ?_; rintro e w6 ⟨o6, rfl, ho6, hb6⟩
  obtain ⟨A6, c6, rfl⟩ := own_sl ho6
  have HC6 := Lib.hid (pc_ownT ho6); have HB6 := Lib.hid (HB5.out.trans (hb6.mono HB5.out.size)); have HP6 := Lib.hid (HP5.out.below hb6)
  clear ho6 hb6
  go_wp2_with fail
  refine (write_any w6 _ D HC6.out (good_ok HOK.out) (by omega)).mono ?_; rintro e w7 ⟨o7, rfl, ho7, hb7⟩
  obtain ⟨A7, c7, rfl⟩ := own_sl ho7
  have HO7 := Lib.hid ho7; have HB7 := Lib.hid (HB6.out.trans (hb7.mono HB6.out.size)); have HP7 := Lib.hid (HP6.out.below hb7)
  clear ho7 hb7
  go_wp2_with fail
  refine (reread_c w7 _ D A7 c7 HOK.out (by omega) HO7.out).mono ?_; rintro e w8 ⟨o8, rfl, hp8, hb8⟩
  obtain ⟨A8, c8, rfl, -⟩ := id hp8
  have HC8 := Lib.hid hp8; have HB8 := Lib.hid (HB7.out.trans (hb8.mono HB7.out.size)); have HP8 := Lib.hid (HP7.out.below hb8)
  clear hp8 hb8
  go_wp2_with fail
  refine (HA3.out w8 _ HB8.out HC8.out).mono ?_; rintro e w9 ⟨o9, vs9, rfl, hL9, hb9⟩
  rw [HTK.out] at hL9
  have hp9 := hL9.pee (fun l hl => by rw [← HL9.out] at hl; have := HFIT.out.short l (List.mem_of_mem_take hl); omega)
  have ho9 := hL9.own
  rw [HL9L.out] at ho9
  obtain ⟨A9, c9, rfl⟩ := own_sl ho9
  have HP9 := Lib.hid hp9; have HB9 := Lib.hid (HB8.out.trans (hb9.mono HB8.out.size)); have HQ9 := Lib.hid (HP8.out.below hb9); have HC9 := Lib.hid (HC8.out.below hb9)
  clear hL9 hp9 hb9 ho9
  go_wp2_with fail
  refine (most_c w9 _ D HC9.out (by omega) HOK.out.rng mD HMD.out).mono ?_; rintro e w10 ⟨rfl, hb10⟩
  have HB10 := Lib.hid (HB9.out.trans (hb10.mono HB9.out.size)); have HQ10 := Lib.hid (HQ9.out.below hb10); have HC10 := Lib.hid (HC9.out.below hb10); have HP10 := Lib.hid (HP9.out.below hb10)
  clear hb10
  have hmi := HMI.out
  go_wp2_with fail
  have hq10 := HQ10.out.pre M c3 hMn
  rw [HL9.out] at hq10
  refine (books_c w10 _ _ L9 L9 HP10.out hq10 (by have := HL9L.out; omega) (fun l hl => by rw [← HL9.out] at hl; have := HFIT.out.short l (List.mem_of_mem_take hl); omega) true (by simp)).mono ?_; rintro e w11 ⟨rfl, hb11⟩
  have HB11 := Lib.hid (HB10.out.trans (hb11.mono HB10.out.size)); have HQ11 := Lib.hid (HQ10.out.below hb11); have HC11 := Lib.hid (HC10.out.below hb11)
  clear hb11 hq10
  go_wp2_with fail
  refine (most_c w11 _ D HC11.out (by omega) HOK.out.rng mD HMD.out).mono ?_; rintro e w12 ⟨rfl, hb12⟩
  have HB12 := Lib.hid (HB11.out.trans (hb12.mono HB11.out.size)); have HQ12 := Lib.hid (HQ11.out.below hb12)
  clear hb12
  go_wp2_with fail
  go_loopw [8] (fun i ws => ∃ m : Nat, M ≤ m ∧ m ≤ now.length ∧ i = .int .i64 (m : Int) ∧ Below w12.heap.size w12 ws) (fun i _ => now.length - (intOf i).toNat)
  case atStart => exact ⟨M, Nat.le_refl _, hMn, by first | rfl | rw [hmi], Below.refl _ w12⟩
  case round =>
    obtain ⟨m, hm1, hm2, rfl, hB⟩ := hrel
    by_cases hlt : m < now.length
    · have hx2 : now[m]? = some [] := by
        have h1 := HRE.out m hm1
        rw [List.getD_eq_getElem?_getD, List.getElem?_eq_getElem hlt] at h1
        rw [List.getElem?_eq_getElem hlt]
        exact congrArg some h1
      obtain ⟨b3, off3, c5, A5, c6', e1, hlb, r0, -⟩ := (HQ12.out.below hB).at hx2
      obtain ⟨rfl, rfl⟩ : A3 = some ⟨b3, off3, none⟩ ∧ c3 = c5 := by injection e1 with e1 e2 e3; exact ⟨e1, e3⟩
      simp only [List.length_nil] at r0
      have HB := Lib.hid hB
      clear hx2 e1 hB
      go_wp2_with fail
      go_roundw
      case rel => exact ⟨m + 1, by omega, by omega, by simp, HB.out⟩
      case measure => simp [intOf]; omega
    · obtain rfl : m = now.length := by omega
      have HB13 := Lib.hid (HB12.out.trans (hB.mono HB12.out.size)); have HQ13 := Lib.hid (HQ12.out.below hB)
      clear hB
      go_wp2_with fail
      refine (HDS.out wr _ HQ13.out).mono ?_; rintro e w14 ⟨o14, rfl, ho14, hb14⟩
      obtain ⟨A14, c14, rfl⟩ := own_sl ho14
      have HB14 := Lib.hid (HB13.out.trans (hb14.mono HB13.out.size)); have HQ14 := Lib.hid (HQ13.out.below hb14)
      clear ho14 hb14
      go_wp2_with fail
      refine (rose_c w14 _ _ now now HQ14.out HQ14.out HFIT.out.ue HFIT.out.ue (by omega) (by omega) HFIT.out.short HFIT.out.short true HSE.out).mono ?_; rintro e w15 ⟨rfl, hb15⟩
      have HB15 := Lib.hid (HB14.out.trans (hb15.mono HB14.out.size))
      clear hb15
      go_wp2_with fail
      go_ret
      exact ⟨rfl, HB15.out⟩
theorem back_row (W : World) (z : List (List (Go.Proofs.Ytnlhgnioedalpaa.PDeltaBooks.S41))) (A : Option Addr) (c : Nat) (_ : z.length ≤ c) (_ : A = none → c = 0) (hC : (sliceZ (Go.Proofs.Ytnlhgnioedalpaa.PDeltaBooks.k41)).C W A z.length z) (_ : z.length ≤ maxLen) (hG : ∀ x ∈ z, x.length ≤ maxLen ∧ ∀ y ∈ x, (Lit.int .u64 y.f0).wf = true ∧ (Lit.int .i64 y.f1).wf = true)
    (z1 : List (Go.Proofs.Ytnlhgnioedalpaa.PDeltaBooks.S93)) (A1 : Option Addr) (c1 : Nat) (_ : z1.length ≤ c1) (_ : A1 = none → c1 = 0) (hC1 : (Go.Proofs.Ytnlhgnioedalpaa.PDeltaBooks.k93).C W A1 z1.length z1) (_ : z1.length ≤ maxLen) (hG1 : ∀ x ∈ z1, (Lit.int .i64 x.f0).wf = true ∧ (Lit.int .u64 x.f1.f0).wf = true ∧ (Lit.int .i64 x.f1.f1).wf = true) :
    Calls Try.prog 11 #[.slice A z.length c, .slice A1 z1.length c1] W fun e w' => e = .returned (.bool true) ∧ Below W.heap.size W w' := by
  have h1 : PEE W (.slice A z.length c) (z.map (fun x => x.map (fun y => (y.f0, y.f1)))) := pee_of (fun x A1 c1 a b d => pd_row41 a b d) hC
  exact back_core W _ _ _ _ h1 (pd_row93 hC1) (fun l hl e he => by
    obtain ⟨x, hx, rfl⟩ := List.mem_map.1 hl
    obtain ⟨y, hy, rfl⟩ := List.mem_map.1 he
    exact U_wf ((hG x hx).2 y hy).1) (fun q hq => by
    obtain ⟨x, hx, rfl⟩ := List.mem_map.1 hq
    exact U_wf (hG1 x hx).2.1)
end Go.Proofs.Ytnlhgnioedalpaa.Pri
