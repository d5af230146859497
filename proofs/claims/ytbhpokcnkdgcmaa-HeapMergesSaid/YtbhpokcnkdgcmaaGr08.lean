/- MgW, laid together. -/
import Derived.Test.YtbhpokcnkdgcmaaGr07

/- heap: all of lists comes in order: the walk. -/
set_option linter.unusedSimpArgs false
set_option linter.unusedVariables false
namespace Go.Proofs.Ytbhpokcnkdgcmaa.HeapM
open Go.RowKit Go.Shelf Go.Proofs.Ytbhpokcnkdgcmaa.HeapL
attribute [local go_sem] Oper.semAt_some

section
variable {vals : List (Nat × Nat × Nat)} {L : List (List Pr)} {Inv : List (List Pr) → World → Prop} {Rc : World → Prop} {B1 n1 l c0 bnd : Nat}
theorem MJ.below (hK : ∀ R A C, Inv R A → Below bnd A C → Inv R C) (hRc : ∀ A A', Rc A → KU n1 A A' → Rc A') (hbn : bnd ≤ n1) {R S : List (List Pr)} {xs : List MT} {A C : World} (h : MJ vals L Inv Rc B1 n1 l c0 R S xs A) (hb : Below A.heap.size A C) : MJ vals L Inv Rc B1 n1 l c0 R S xs C := by
  have hl := h.by_.lt
  obtain ⟨T, h1, h2⟩ := h.hs
  exact ⟨h.hr, hK _ _ _ h.inv (hb.mono (by omega)), hRc _ _ h.rc (KU.grown (gbN hb) (fun r e => by cases e)), h.by_.belowS hb, h.bp.belowS hb, T, h1, h2.below hb⟩
theorem MJ.fr (hK : ∀ R A C, Inv R A → Below bnd A C → Inv R C) (hRc : ∀ A A', Rc A → KU n1 A A' → Rc A') (hbn : bnd ≤ n1) {R S S' : List (List Pr)} {xs ys : List MT} {A C : World} {c' : Nat} (h : MJ vals L Inv Rc B1 n1 l c0 R S xs A) (hf : Fr (n1 + 1) (n1 + 1) tME A C) (hr : HR (rdV vals L) S' ys) (hs : ∃ T, T ≤ c' ∧ HS C (n1 + 1) (n1 + 1) ltM FM #[.pointer (some ⟨B1, 0, none⟩)] ys T) : MJ vals L Inv Rc B1 n1 l c' R S' ys C := by
  obtain ⟨T, _, h2⟩ := h.hs
  obtain ⟨es, _, hM⟩ := h2.length
  obtain ⟨_, vv, hPb, _⟩ := hM
  exact ⟨hr, hK _ _ _ h.inv (hf.below.mono (by omega)), hRc _ _ h.rc (fr_ku hf hPb), hf.blk h.by_ (by omega) (by decide), hf.blk h.bp (by omega) (by decide), hs⟩
theorem MJ.row (hK : ∀ R A C, Inv R A → Below bnd A C → Inv R C) (hRc : ∀ A A', Rc A → KU n1 A A' → Rc A') (hbn : bnd ≤ n1) {R S : List (List Pr)} {xs : List MT} {A C : World} {row : Option Nat} (h : MJ vals L Inv Rc B1 n1 l c0 R S xs A) (hg : A.grownBy C row) (hr : ∀ r, row = some r → n1 ≤ r ∧ ∃ o : Obj, A.heap[r]? = some o ∧ o.isCells = false) : MJ vals L Inv Rc B1 n1 l c0 R S xs C := by
  have hl := h.by_.lt
  obtain ⟨T, h1, h2⟩ := h.hs
  exact ⟨h.hr, hK _ _ _ h.inv (below_gb hg (fun r e => by have := (hr r e).1; omega) (by omega)), hRc _ _ h.rc (KU.grown hg (fun r e => .inl (hr r e).1)), blk_nc h.by_ hg (fun r e => (hr r e).2), blk_nc h.bp hg (fun r e => (hr r e).2), T, h1,
    HS.own (n1 + 1) (n1 + 1) ltM FM #[.pointer (some ⟨B1, 0, none⟩)] (fun _ : Unit => xs) (fun _ => T) () A C row h2 hg (fun r e => (hr r e).2)⟩
end
/-- between two things -/
def MD (vals : List (Nat × Nat × Nat)) (L : List (List Pr)) (Inv : List (List Pr) → World → Prop) (Rc : World → Prop) (B1 n1 l Bd : Nat) (m : Nat) (xs : List MT) (W' : World) : Prop :=
  ∃ R c0, m = totR R ∧ c0 + totR R ≤ L.length + totR L ∧ xs.length + totR R ≤ L.length + totR L ∧ MJ vals L Inv Rc B1 n1 l c0 R R xs W' ∧ Blk W' Bd tMP [.pointer (some ⟨n1 + 1, 0, none⟩)]
/-- and while one is handed out -/
def MM (vals : List (Nat × Nat × Nat)) (L : List (List Pr)) (Inv : List (List Pr) → World → Prop) (Rc : World → Prop) (B1 n1 l Bd : Nat) (g : Gh) (W' : World) : Prop :=
  ∃ (R : List (List Pr)) (k : Nat) (es : List Pr) (c0 : Nat), g.1 = totR R ∧ c0 + totR R ≤ L.length + totR L ∧ g.2.2.length + 1 + totR R ≤ L.length + totR L ∧ g.2.1.2.2.1 = (k : Int) ∧ R[k]? = some ((g.2.1.1, g.2.1.2.1) :: es) ∧ rdV vals L g.2.1.2.2.2.1 g.2.1.2.2.2.2.1 g.2.1.2.2.2.2.2 es ∧
    (∀ (j : Nat) q fs, R[j]? = some (q :: fs) → g.2.1.1 ≤ q.1 ∧ (j < k → g.2.1.1 < q.1)) ∧ MJ vals L Inv Rc B1 n1 l c0 R (R.set k []) g.2.2 W' ∧ Blk W' Bd tMP [.pointer (some ⟨n1 + 1, 0, none⟩)]

set_option maxRecDepth 100000 in
set_option maxHeartbeats 16000000 in
theorem merge_iter (n B1 B2 bnd : Nat) (o : Value) (vals : List (Nat × Nat × Nat)) (L : List (List Pr)) (hL8 : L.length ≤ 1000) (hLt : totR L ≤ 1000000) (Inv : List (List Pr) → World → Prop) (h12 : B1 < bnd ∧ B2 < bnd)
    (hI : ∀ R W, Inv R W → Blk W B1 tBf [.func (.func 31) #[] #[]] ∧ Blk W B2 tPss [o] ∧ PLS W o vals L) (hK : ∀ R A C, Inv R A → Below bnd A C → Inv R C) :
    IterOk3 Fence.wide n Try.prog 107 #[.pointer (some ⟨B1, 0, none⟩), .pointer (some ⟨B2, 0, none⟩)] TsM (fun x : List (List Pr) × Nat × Pr × List Pr => #[.agg #[.int .i64 x.2.2.1.1, .int .i64 x.2.2.1.2]])
      (fun W => bnd ≤ W.heap.size ∧ Inv L W) (fun x W => x.1[x.2.1]? = some (x.2.2.1 :: x.2.2.2) ∧ (∀ (j : Nat) q fs, x.1[j]? = some (q :: fs) → x.2.2.1.1 ≤ q.1 ∧ (j < x.2.1 → x.2.2.1.1 < q.1)) ∧ Inv x.1 W) (fun x W => Inv (x.1.set x.2.1 x.2.2.2) W) (fun W => ∃ R, (∀ l ∈ R, l = []) ∧ Inv R W) := by
  intro l Rc JX W1 hRc hJX hR0 hS0 hY
  obtain ⟨hbw, hI0⟩ := hS0
  show CallsIn Fence.wide n Try.prog 107 #[.func (.yield l) #[] #[], .pointer (some ⟨B1, 0, none⟩), .pointer (some ⟨B2, 0, none⟩)] W1 _
  refine (callsIn_wide (n := n)).2 ((callsIn_wide (n := 4)).1 ?_)
  refine callsIn_of_wp_marks Try.func107 rfl trivial ?_ rfl
  refine wpIn_wide.2 ?_
  simp only [Try.ntmps107, List.size_toArray, List.length_cons, List.length_nil, Nat.reduceAdd, Nat.reduceSub, Array.replicate_succ, Array.replicate_zero, List.push_toArray, List.append_toArray, List.nil_append, List.cons_append]
  obtain ⟨n1, hn1⟩ : ∃ n1, W1.heap.size = n1 := ⟨_, rfl⟩
  rw [hn1] at hRc hJX hY
  have hbn : bnd ≤ n1 := by omega
  have hal : Below W1.heap.size W1 (W1.alloc (.cells #[.func (.yield l) #[] #[]] tYf)) := (Below.refl _ W1).alloc (Nat.le_refl _) _
  have hby := Blk.new W1 [.func (.yield l) #[] #[]] tYf
  have HN1 := Lib.hid hn1; have HI := Lib.hid hI; have HK := Lib.hid hK; have HRC := Lib.hid hRc; have HJX := Lib.hid hJX; have HY := Lib.hid hY
  have HAL := Lib.hid hal; have HBY := Lib.hid hby; have HI0 := Lib.hid hI0; have HR0 := Lib.hid hR0
  clear hn1 hI hK hRc hJX hY hal hby hI0 hR0
  go_wp2_with fail
  refine (new_hs ltM _ FM #[.pointer (some ⟨B1, 0, none⟩)]).mono ?_; rintro e w2 ⟨rfl, hS2, hw2⟩
  have e1 : (W1.alloc (.cells #[.func (.yield l) #[] #[]] tYf)).heap.size = n1 + 1 := by rw [World.size_alloc, HN1.out]
  rw [e1] at hS2
  simp only [e1] at hw2 ⊢
  have hal2 : Below (W1.alloc (.cells #[.func (.yield l) #[] #[]] tYf)).heap.size (W1.alloc (.cells #[.func (.yield l) #[] #[]] tYf)) w2 := by rw [hw2]; exact (Below.refl _ _).alloc (Nat.le_refl _) _
  have hz2 : w2.heap.size = n1 + 2 := by rw [hw2, World.size_alloc, e1]
  obtain ⟨w3, hw3⟩ : ∃ w3, w2.alloc (.cells #[.pointer (some ⟨n1 + 1, 0, none⟩)] tMP) = w3 := ⟨_, rfl⟩
  have hal3 : Below w2.heap.size w2 w3 := by rw [← hw3]; exact (Below.refl _ _).alloc (Nat.le_refl _) _
  have hb13 : Below W1.heap.size W1 w3 := (HAL.out.trans (hal2.mono HAL.out.size)).trans (hal3.mono (Nat.le_trans HAL.out.size hal2.size))
  have hbp : Blk w3 (n1 + 2) tMP [.pointer (some ⟨n1 + 1, 0, none⟩)] := by rw [← hw3, ← hz2]; exact Blk.new w2 [.pointer (some ⟨n1 + 1, 0, none⟩)] tMP
  have hJ0 : MJ vals L Inv Rc B1 n1 l 0 L [] [] w3 :=
    ⟨HR.nil _, HK.out _ _ _ HI0.out (hb13.mono hbw), HRC.out _ _ HR0.out (KU.grown (gbN hb13) (fun r e => by cases e)), by have := (HBY.out.belowS hal2).belowS hal3; rw [HN1.out] at this; exact this, hbp, 0, Nat.le_refl _, hS2.below hal3⟩
  have HJ0 := Lib.hid hJ0; have HW3 := Lib.hid hw3; have HZ2 := Lib.hid hz2
  obtain ⟨-, hb2c, hpls⟩ := HI.out _ _ hJ0.inv
  obtain ⟨A, c, rfl, -⟩ := id hpls
  have cB2 := hb2c.cell (i := 0) rfl
  rw [← hw3] at cB2
  clear hS2 hw2 hal2 hz2 hw3 hal3 hb13 hbp hJ0 hb2c hpls
  go_wp2_with fail
  simp only [HZ2.out, HW3.out]
  clear cB2
  go_loopw [12] (fun i wr => ∃ (k : Nat) (xs : List MT), k ≤ L.length ∧ i = .int .i64 (k : Int) ∧ xs.length ≤ k ∧ MJ vals L Inv Rc B1 n1 l k L (L.take k) xs wr) (fun i _ => L.length - (intOf i).toNat)
  case atStart => exact ⟨0, [], Nat.zero_le _, rfl, Nat.le_refl _, HJ0.out⟩
  case round =>
    obtain ⟨k, xs, hk, rfl, hxl, hJ⟩ := hrel
    obtain ⟨hb1c, hb2c, hpls⟩ := HI.out _ _ hJ.inv
    have k0 : (0 : Int) ≤ (k : Int) := Int.natCast_nonneg _
    by_cases hlt : k < L.length
    · obtain ⟨lk, hx⟩ : ∃ x, L[k] = x := ⟨_, rfl⟩
      have hx2 : L[k]? = some lk := by rw [List.getElem?_eq_getElem hlt, hx]
      have htk : L.take (k + 1) = L.take k ++ [lk] := by rw [List.take_succ_eq_append_getElem hlt, hx]
      have hlk : (L.take k).length = k := by rw [List.length_take]; omega
      have kl : (k : Int) < (L.length : Int) := by omega
      cases lk with
      | nil =>
        obtain ⟨g, og, c4, A1, c1, e1, r0⟩ := hpls.at0 hx2
        obtain ⟨rfl, rfl⟩ : A = some ⟨g, og, none⟩ ∧ c = c4 := by injection e1 with e1 e2 e3; exact ⟨e1, e3⟩
        have hJ2 : MJ vals L Inv Rc B1 n1 l (k + 1) L (L.take (k + 1)) xs wr := by
          obtain ⟨T, h1, h2⟩ := hJ.hs
          rw [htk]
          exact ⟨hJ.hr.app, hJ.inv, hJ.rc, hJ.by_, hJ.bp, T, by omega, h2⟩
        have HJ2 := Lib.hid hJ2
        clear hx hx2 htk hlk e1 hJ hJ2 hpls hb1c hb2c
        go_wp2_with fail
        go_roundw
        case rel => exact ⟨k + 1, xs, by omega, by simp, by omega, HJ2.out⟩
        case measure => simp [intOf]; omega
      | cons q fs =>
        obtain ⟨g, og, c4, b, o1, c1, hvk, e1, r0, hc1, r1, r2, hrd⟩ := hpls.first hx2
        obtain ⟨rfl, rfl⟩ : A = some ⟨g, og, none⟩ ∧ c = c4 := by injection e1 with e1 e2 e3; exact ⟨e1, e3⟩
        obtain ⟨T, hT, hS⟩ := hJ.hs
        have hdr : Below wr.heap.size wr wr.drew := (Below.refl _ _).drew
        have hB : BF ltM (n1 + 1) (n1 + 1) wr.drew FM #[.pointer (some ⟨B1, 0, none⟩)] := bfm _ _ _ B1 (by omega) (hb1c.belowS hdr)
        obtain ⟨qk, qv⟩ := q
        dsimp only at r1 r2
        have d4 := hJ.bp.cell (i := 0) rfl
        have hJd := MJ.below HK.out HRC.out hbn hJ hdr
        have hSd := hS.below hdr
        have hc1I : ((fs.length : Int) + 1) ≤ (c1 : Int) := by omega
        have hput := fun (adr : Option Addr) (m cc : Nat) (_ : m = fs.length) (_ : cc = c1 - 1) => put_hs ltM ltM_ord wr.drew (n1 + 1) (n1 + 1) FM #[.pointer (some ⟨B1, 0, none⟩)] xs T qk qv (k : Int) adr m cc (by omega) (by omega) hSd hB
        have hfin := fun (adr : Option Addr) (m cc : Nat) (em : m = fs.length) (ec : cc = c1 - 1) (ha : fs ≠ [] → adr = some ⟨b, o1 + 2, none⟩) (w5 : World) (h1 : HS w5 (n1 + 1) (n1 + 1) ltM FM #[.pointer (some ⟨B1, 0, none⟩)] (insV ltM (qk, qv, (k : Int), adr, m, cc) xs) (T + 1)) (h2 : Fr (n1 + 1) (n1 + 1) tME wr.drew w5) =>
          MJ.fr HK.out HRC.out hbn (c' := k + 1) (S' := L.take (k + 1)) (ys := insV ltM (qk, qv, (k : Int), adr, m, cc) xs) hJd h2 (by
            have h3 := (hJd.hr.app).add (k := k) (by rw [List.getElem?_append_right (by omega), hlk, Nat.sub_self]; rfl) (p := (qk, qv)) (es := fs) (hrd adr ha)
            rw [List.set_append_right _ _ (by omega), hlk, Nat.sub_self] at h3
            rw [htk, em, ec]
            exact h3) ⟨T + 1, by omega, h1⟩
        have hcl : ∀ w5, Inv L w5 → w5.cell? ⟨b, o1, none⟩ = some (.int .i64 qk) ∧ w5.cell? ⟨b, o1 + 1, none⟩ = some (.int .i64 qv) := fun w5 hi => by
          obtain ⟨_, _, hp5⟩ := HI.out _ _ hi
          obtain ⟨_, _, _, b5, o5, c5, hv5, _, _, _, z1, z2, _⟩ := hp5.first hx2
          rw [hvk] at hv5
          obtain ⟨rfl, rfl, rfl⟩ : b = b5 ∧ o1 = o5 ∧ c1 = c5 := by injection hv5 with e; injection e with e1 e2; injection e2 with e2 e3; exact ⟨e1, e2, e3⟩
          exact ⟨z1, z2⟩
        have HPUT := Lib.hid hput; have HFIN := Lib.hid hfin; have HCL := Lib.hid hcl
        clear hx hx2 htk hlk e1 hJ hJd hpls hb1c hb2c hput hS hB hrd hdr hSd hfin hcl
        by_cases hc0 : c1 = 1
        · subst hc0
          have hfn : fs.length = 0 := by omega
          go_wp2_with fail
          go_region_held3 (fun w' => w'.cell? ⟨n1 + 2, 0, none⟩ = some (.pointer (some ⟨n1 + 1, 0, none⟩)) ∧ w'.cell? ⟨b, o1, none⟩ = some (.int .i64 qk) ∧ w'.cell? ⟨b, o1 + 1, none⟩ = some (.int .i64 qv)) (go_keep) ((go_at_call 110; refine (HPUT.out _ _ _ (by omega) (by omega)).mono ?_; rintro e w5 ⟨rfl, hS5, hF5⟩; have hJ5 := HFIN.out _ _ _ (by omega) (by omega) (by intro h; exact absurd (List.eq_nil_of_length_eq_zero hfn) h) w5 hS5 hF5; have hbw5 : wr.heap.size ≤ w5.heap.size := hF5.size; have q0 := hJ5.bp.cell (i := 0) rfl; obtain ⟨y0, y1⟩ := HCL.out w5 hJ5.inv))
          have HJ5 := Lib.hid hJ5
          clear hJ5 hS5 hF5 q0 y0 y1 hbw5
          go_wp2_with fail
          go_roundw
          case rel => exact ⟨k + 1, _, by omega, by simp, by rw [insV_length]; omega, HJ5.out⟩
          case measure => simp [intOf]; omega
        · have hl1 : (1 : Int) ≤ (fs.length : Int) + 1 := by omega
          go_wp2_with fail
          go_region_held3 (fun w' => w'.cell? ⟨n1 + 2, 0, none⟩ = some (.pointer (some ⟨n1 + 1, 0, none⟩)) ∧ w'.cell? ⟨b, o1, none⟩ = some (.int .i64 qk) ∧ w'.cell? ⟨b, o1 + 1, none⟩ = some (.int .i64 qv)) (go_keep) ((go_at_call 110; refine (HPUT.out _ _ _ (by omega) (by omega)).mono ?_; rintro e w5 ⟨rfl, hS5, hF5⟩; have hJ5 := HFIN.out _ _ _ (by omega) (by omega) (by intro _; rfl) w5 hS5 hF5; have hbw5 : wr.heap.size ≤ w5.heap.size := hF5.size; have q0 := hJ5.bp.cell (i := 0) rfl; obtain ⟨y0, y1⟩ := HCL.out w5 hJ5.inv))
          have HJ5 := Lib.hid hJ5
          clear hJ5 hS5 hF5 q0 y0 y1 hbw5
          go_wp2_with fail
          go_roundw
          case rel => exact ⟨k + 1, _, by omega, by simp, by rw [insV_length]; omega, HJ5.out⟩
          case measure => simp [intOf]; omega
    · obtain rfl : k = L.length := by omega
      rw [List.take_length] at hJ
      have d4 := hJ.bp.cell (i := 0) rfl
      have HJ := Lib.hid hJ
      clear hJ hb1c hb2c hpls
      go_wp2_with fail
      refine (drain_any wr _).mono ?_; rintro e w7 ⟨rfl, hw7⟩
      obtain ⟨Bd, hBd⟩ : ∃ Bd, wr.heap.size = Bd := ⟨_, rfl⟩
      have hal7 : Below wr.heap.size wr w7 := by rw [hw7]; exact (Below.refl _ wr).alloc (Nat.le_refl _) _
      have hbd : Blk w7 Bd tMP [.pointer (some ⟨n1 + 1, 0, none⟩)] := by rw [hw7, ← hBd]; exact Blk.new wr [.pointer (some ⟨n1 + 1, 0, none⟩)] tMP
      have hJ7 := MJ.below HK.out HRC.out hbn HJ.out hal7
      have hn7 : n1 ≤ w7.heap.size := by have := hJ7.by_.lt; omega
      have hbdn : n1 + 2 < Bd := by have := HJ.out.bp.lt; omega
      have hD0 : MD vals L Inv Rc B1 n1 l Bd (totR L) xs w7 := ⟨L, L.length, rfl, Nat.le_refl _, by omega, hJ7, hbd⟩
      have IT := drain_iter ltM ltM_ord (n1 + 1) (n1 + 1) FM Bd #[.pointer (some ⟨B1, 0, none⟩)] 3 (MD vals L Inv Rc B1 n1 l Bd) (MM vals L Inv Rc B1 n1 l Bd) (fun W' => ∃ R, (∀ l ∈ R, l = []) ∧ Inv R W' ∧ Rc W' ∧ bnd ≤ W'.heap.size)
        (fun m xs W h => by
          obtain ⟨R, c0, _, h1, h2, hj, hb⟩ := h
          obtain ⟨T, _, hs⟩ := hj.hs
          exact ⟨⟨T, hs⟩, bfm _ _ _ B1 (by omega) (HI.out _ _ hj.inv).1, by omega, hb⟩)
        (fun m x xs W W' h hf hs => by
          obtain ⟨R, c0, e1, h1, h2, hj, hb⟩ := h
          obtain ⟨k, es, p1, p2, p3, p4, p5⟩ := hj.hr.pop
          obtain ⟨T, hT, hT2⟩ := hj.hs
          exact ⟨R, k, es, c0, e1, h1, by simpa using h2, p1, p2, p3, p5, MJ.fr HK.out HRC.out hbn hj hf p4 ⟨T, hT, hs T hT2⟩, hf.blk hb (by omega) (by decide)⟩)
        (fun m W W' h hb => by
          obtain ⟨R, c0, e1, h1, h2, hj, _⟩ := h
          have hj2 := MJ.below HK.out HRC.out hbn hj hb
          exact ⟨R, hj.hr.end_, hj2.inv, hj2.rc, by have := hj2.by_.lt; omega⟩)
      have HD0 := Lib.hid hD0; have HW7 := Lib.hid hw7
      simp only [hBd, HN1.out]
      clear hw7 hal7 hbd hJ7 hD0 hBd d4
      go_wp2_with fail
      have hmdO : ∀ m xs, OwnFrom w7.heap.size (fun (_ : Unit) W' => MD vals L Inv Rc B1 n1 l Bd m xs W') := fun m xs s X Y row h hg hr => by
        obtain ⟨R, c0, e1, h1, h2, hj, hb⟩ := h
        exact ⟨R, c0, e1, h1, h2, MJ.row HK.out HRC.out hbn hj hg (fun r e => ⟨by have := (hr r e).1; omega, (hr r e).2⟩), blk_nc hb hg (fun r e => (hr r e).2)⟩
      have hmmO : ∀ g, OwnFrom w7.heap.size (fun (_ : Unit) W' => MM vals L Inv Rc B1 n1 l Bd g W') := fun g s X Y row h hg hr => by
        obtain ⟨R, k, es, c0, e1, h1, h2, e2, h3, h4, h5, hj, hb⟩ := h
        exact ⟨R, k, es, c0, e1, h1, h2, e2, h3, h4, h5, MJ.row HK.out HRC.out hbn hj hg (fun r e => ⟨by have := (hr r e).1; omega, (hr r e).2⟩), blk_nc hb hg (fun r e => (hr r e).2)⟩
      refine wpIn_wide.1 (range_gen (F := Fence.wide) (n := 4) rfl (by omega) (gf := 124) (lb := #[.pointer (some ⟨Bd, 0, none⟩)]) rfl trivial (enters_of Try.func124 (by kernel_rfl) rfl) (encs := fun g : Gh => #[ev g.2.1]) (fun _ => rfl)
        (fun W' => ∃ m xs, MD vals L Inv Rc B1 n1 l Bd m xs W') (fun g W' => MM vals L Inv Rc B1 n1 l Bd g W') (fun g W' => ∃ m' xs', m' < g.1 ∧ MD vals L Inv Rc B1 n1 l Bd m' xs' W')
        (fun c' W' => c' = .ret ∧ JX W') (fun W' => ∃ R, (∀ l ∈ R, l = []) ∧ Inv R W' ∧ Rc W' ∧ bnd ≤ W'.heap.size)
        (fun g a' W' => ∃ B7, a' = { tmps := #[.func (.yield l) #[] #[], .pointer (some ⟨B1, 0, none⟩), .pointer (some ⟨B2, 0, none⟩), .pointer (some ⟨n1, 0, none⟩), .pointer (some ⟨n1 + 2, 0, none⟩), u5, u6, .pointer (some ⟨B7, 0, none⟩), .func (.func FM) #[] #[.pointer (some ⟨B1, 0, none⟩)], .pointer (some ⟨n1 + 1, 0, none⟩), .slice A L.length c, .int .i64 (L.length : Int), .int .i64 (L.length : Int), .bool false, u14, u15, u16, u17, u18, u19, u20, u21, u22, u23, u24, u25, u26, u27, u28, u29, .pointer (some ⟨n1 + 1, 0, none⟩), .func (.func 124) #[] #[.pointer (some ⟨Bd, 0, none⟩)], .agg #[.int .i64 g.2.1.1, .int .i64 g.2.1.2.1, .int .i64 g.2.1.2.2.1, .slice g.2.1.2.2.2.1 g.2.1.2.2.2.2.1 g.2.1.2.2.2.2.2], undef, undef, undef, undef, undef, undef, undef, undef, undef, undef, undef, undef, undef, undef, undef, undef, undef, undef, undef, undef, undef], defers := [] } ∧ Blk W' B7 tMt [.int .i64 g.2.1.1, .int .i64 g.2.1.2.1, .int .i64 g.2.1.2.2.1, .slice g.2.1.2.2.2.1 g.2.1.2.2.2.2.1 g.2.1.2.2.2.2.2] ∧ MM vals L Inv Rc B1 n1 l Bd g W')
        (fun s X Y row h hg hr => by obtain ⟨m, xs, h⟩ := h; exact ⟨m, xs, hmdO m xs () X Y row h hg hr⟩)
        (fun g s X Y row h hg hr => by obtain ⟨m, xs, hm, h⟩ := h; exact ⟨m, xs, hm, hmdO m xs () X Y row h hg hr⟩)
        (fun c' s X Y row h hg hr => ⟨h.1, HJX.out X Y row h.2 hg (fun r e => ⟨by have := (hr r e).1; omega, (hr r e).2⟩)⟩)
        (fun s X Y row h hg hr => by
          obtain ⟨R, h1, h2, h3, h4⟩ := h
          exact ⟨R, h1, HK.out _ _ _ h2 (below_gb hg (fun r e => by have := (hr r e).1; omega) h4), HRC.out _ _ h3 (KU.grown hg (fun r e => .inl (by have := (hr r e).1; omega))), Nat.le_trans h4 hg.size⟩)
        (fun g a' s X Y row h hg hr => by
          obtain ⟨B7, h1, h2, h3⟩ := h
          exact ⟨B7, h1, blk_nc h2 hg (fun r e => (hr r e).2), hmmO g () X Y row h3 hg hr⟩)
        ⟨_, _, HD0.out⟩ IT ?assign ?body ?done ?stop)
      case assign =>
        clear IT hmdO hmmO
        rintro l2 g W' K hM hK
        obtain ⟨gm, ⟨xk, xv, xl, xA, xn, xc⟩, xs'⟩ := g
        have hal : Below W'.heap.size W' (W'.alloc (.cells #[.int .i64 xk, .int .i64 xv, .int .i64 xl, .slice xA xn xc] tMt)) := (Below.refl _ W').alloc (Nat.le_refl _) _
        have hM2 : MM vals L Inv Rc B1 n1 l Bd (gm, (xk, xv, xl, xA, xn, xc), xs') (W'.alloc (.cells #[.int .i64 xk, .int .i64 xv, .int .i64 xl, .slice xA xn xc] tMt)) := by
          obtain ⟨R, k, es, c0, e1, h1, h2, e2, h3, h4, h5, hj, hb⟩ := hM
          exact ⟨R, k, es, c0, e1, h1, h2, e2, h3, h4, h5, MJ.below HK.out HRC.out hbn hj hal, hb.belowS hal⟩
        have HK2 := Lib.hid (fun a' ha' => hK a' (W'.alloc (.cells #[.int .i64 xk, .int .i64 xv, .int .i64 xl, .slice xA xn xc] tMt)) (KeepsFrom.of_grownBy (World.grownBy_alloc W' _ none) (fun j e => by cases e)) ⟨W'.heap.size, ha', Blk.new W' [.int .i64 xk, .int .i64 xv, .int .i64 xl, .slice xA xn xc] tMt, hM2⟩)
        clear hK hM hM2 hal
        dsimp only [ev]
        gi_wp2
        exact HK2.out _ rfl
      case body =>
        clear IT hmdO hmmO
        rintro l2 g a' W' hl hr ⟨B7, rfl, hb7, hM⟩
        obtain ⟨gm, ⟨xk, xv, xl, xA, xn, xc⟩, xs'⟩ := g
        obtain ⟨R, k, es, c0, e1, h1, h2, e2, hRk, hrd, hmin, hJ, hbd⟩ := hM
        dsimp only at hb7 e1 h2 e2 hRk hrd hmin hJ ⊢
        have hy0 := HY.out (R, k, (xk, xv), es) W' ⟨hRk, hmin, hJ.inv⟩ hJ.rc (by have := hJ.by_.lt; omega)
        dsimp only at hy0
        obtain ⟨fn, tm, as_, bd, hy, hRd⟩ := Go.Proofs.Ytbhpokcnkdgcmaa.Pri.yieldAny 1 hy0
        have HRD := Lib.hid hRd
        have m0 := hb7.cell (i := 0) rfl
        have m1 := hb7.cell (i := 1) rfl
        have c3 := hJ.by_.cell (i := 0) rfl
        have HJ7 := Lib.hid hJ; have HB7 := Lib.hid hb7; have HBD := Lib.hid hbd; have HRK := Lib.hid hRk; have HRDV := Lib.hid hrd
        clear hy0 hRd hJ hb7 hbd hRk hrd hmin
        gi_wp2_with fail
        refine RoundIn.mono (F := Fence.wide) HRD.out ?_
        clear hy m0 m1 c3
        rintro e w5 ⟨hfy, (⟨rfl, hI5, hR5⟩ | ⟨rfl, hJx⟩)⟩
        · have hjR := totR_set R k (xk, xv) es HRK.out
          have hby5 := (hfy.2 tYf (.inl rfl)).blk HJ7.out.by_
          have hbp5 := (hfy.2 tMP (.inr (.inl rfl))).blk HJ7.out.bp
          have hbd5 := (hfy.2 tMP (.inr (.inl rfl))).blk HBD.out
          have hb75 := (hfy.2 tMt (.inr (.inr (.inr (.inr rfl))))).blk HB7.out
          obtain ⟨T, hT, hS⟩ := HJ7.out.hs
          have hS5 := hs_kty hS (hfy.2 tMH (.inr (.inr (.inl rfl)))) (hfy.2 tME (.inr (.inr (.inr (.inl rfl)))))
          have hJ5 : MJ vals L Inv Rc B1 n1 l c0 (R.set k es) (R.set k []) xs' w5 := ⟨HJ7.out.hr, hI5, hR5, hby5, hbp5, T, hT, hS5⟩
          have hkf := kf_up hfy.1 hn7
          subst e2
          cases es with
          | nil =>
            obtain rfl : xn = 0 := by have := HRDV.out.1; simpa using this
            have t3 := hb75.cell (i := 3) rfl
            have HJ5 := Lib.hid hJ5; have HKF := Lib.hid hkf; have HBD5 := Lib.hid hbd5
            clear hby5 hbp5 hbd5 hb75 hS hS5 hJ5 hkf hfy hI5 hR5
            gi_wp2_with fail
            exact ⟨HKF.out, totR (R.set k []), xs', by omega, R.set k [], c0, rfl, by omega, by omega, HJ5.out, HBD5.out⟩
          | cons q fs =>
            obtain ⟨b, off, rfl, hbl, y0, y1, hn, hc, htl⟩ := (HI.out _ _ hI5).2.2.rd HRDV.out
            subst hn
            obtain ⟨qk, qv⟩ := q
            dsimp only at y0 y1
            have hdr : Below w5.heap.size w5 w5.drew := (Below.refl _ _).drew
            have hB : BF ltM (n1 + 1) (n1 + 1) w5.drew FM #[.pointer (some ⟨B1, 0, none⟩)] := bfm _ _ _ B1 (by omega) ((HI.out _ _ hI5).1.belowS hdr)
            have hJd := MJ.below HK.out HRC.out hbn hJ5 hdr
            have hSd := hS5.below hdr
            have hkl := (List.getElem?_eq_some_iff.1 HRK.out).1
            have hput := fun (adr : Option Addr) (m cc : Nat) (_ : m = fs.length) (_ : cc = xc - 1) => put_hs ltM ltM_ord w5.drew (n1 + 1) (n1 + 1) FM #[.pointer (some ⟨B1, 0, none⟩)] xs' T qk qv (k : Int) adr m cc (by omega) (by omega) hSd hB
            have hfin := fun (adr : Option Addr) (m cc : Nat) (em : m = fs.length) (ec : cc = xc - 1) (ha : fs ≠ [] → adr = some ⟨b, off + 2, none⟩) (w6 : World) (h1 : HS w6 (n1 + 1) (n1 + 1) ltM FM #[.pointer (some ⟨B1, 0, none⟩)] (insV ltM (qk, qv, (k : Int), adr, m, cc) xs') (T + 1)) (h2 : Fr (n1 + 1) (n1 + 1) tME w5.drew w6) =>
              MJ.fr HK.out HRC.out hbn (c' := c0 + 1) (S' := R.set k ((qk, qv) :: fs)) (ys := insV ltM (qk, qv, (k : Int), adr, m, cc) xs') hJd h2 (by
                have h3 := hJd.hr.add (k := k) (List.getElem?_set_self hkl) (p := (qk, qv)) (es := fs) (htl adr ha)
                rw [List.set_set] at h3
                rw [em, ec]
                exact h3) ⟨T + 1, by omega, h1⟩
            have hyy : ∀ w6, Inv (R.set k ((qk, qv) :: fs)) w6 → w6.cell? ⟨b, off, none⟩ = some (.int .i64 qk) ∧ w6.cell? ⟨b, off + 1, none⟩ = some (.int .i64 qv) := fun w6 hi => by
              obtain ⟨b', off', e9, _, z0, z1, _⟩ := (HI.out _ _ hi).2.2.rd HRDV.out
              obtain ⟨rfl, rfl⟩ : b = b' ∧ off = off' := by injection e9 with e; injection e with e1 e2; exact ⟨e1, e2⟩
              exact ⟨z0, z1⟩
            obtain ⟨es0, _, hM0⟩ := hSd.length
            obtain ⟨_, vv, hPb, _⟩ := hM0
            have hb7d := hb75.belowS hdr
            have hne : B7 ≠ n1 + 1 := fun e => by
              subst e
              exact absurd (hb7d.inj hPb).1 (by decide)
            have t2 := hb75.cell (i := 2) rfl
            have t3 := hb75.cell (i := 3) rfl
            have t4 := hbp5.cell (i := 0) rfl
            have hcI : ((fs.length : Int) + 1) ≤ (xc : Int) := by omega
            have HPUT := Lib.hid hput; have HFIN := Lib.hid hfin; have HYY := Lib.hid hyy; have HPB := Lib.hid hPb; have HB75 := Lib.hid hb7d; have HNE := Lib.hid hne; have HKF := Lib.hid (hkf.trans ((belowOthers hdr).from _)); have HBD5 := Lib.hid (hbd5.belowS hdr)
            clear hput hfin hyy hPb hb7d hb75 hkf hby5 hbp5 hbd5 hS hS5 hJ5 hfy hI5 hR5 htl hJd hSd hB hne
            by_cases hc0 : xc = 1
            · subst hc0
              have hfn : fs.length = 0 := by omega
              gi_wp2_with fail
              refine wpIn_held_round (S := fun w' => w'.cell? ⟨n1 + 2, 0, none⟩ = some (.pointer (some ⟨n1 + 1, 0, none⟩)) ∧ w'.cell? ⟨B7, 2, none⟩ = some (.int .i64 (k : Int)) ∧ w'.cell? ⟨B7, 3, none⟩ = some (.slice (some ⟨b, off, none⟩) (fs.length + 1) 1) ∧ w'.cell? ⟨b, off, none⟩ = some (.int .i64 qk) ∧ w'.cell? ⟨b, off + 1, none⟩ = some (.int .i64 qv)) l2 (by kernel_rfl) (by kernel_rfl) (by rintro ⟨a, w, h⟩; exact h) ⟨t4, t2, t3, y0, y1⟩ (fun hHeld => ?_)
              refine wpAnyH_take (i := 0) (v := ?_) rfl (by kernel_rfl) (by kernel_rfl) (by kernel_rfl) (fun _ _ _ h => h) (Or.inl ⟨by rfl, ?_⟩) (by assumption) ?_
              rotate_left
              · (intro w hSw; (try dsimp only at hSw); go_simp) <;> with_reducible rfl
              try simp only [Act.put, List.setIfInBounds_toArray, List.set_cons_zero, List.set_cons_succ]
              refine wpAnyH_take (i := 1) (v := ?_) rfl (by kernel_rfl) (by kernel_rfl) (by kernel_rfl) (fun _ _ _ h => h) (Or.inl ⟨by rfl, ?_⟩) (by assumption) ?_
              rotate_left
              · (intro w hSw; (try dsimp only at hSw); go_simp) <;> with_reducible rfl
              try simp only [Act.put, List.setIfInBounds_toArray, List.set_cons_zero, List.set_cons_succ]
              refine wpAnyH_take (i := 2) (v := ?_) rfl (by kernel_rfl) (by kernel_rfl) (by kernel_rfl) (fun _ _ _ h => h) (Or.inl ⟨by rfl, ?_⟩) (by assumption) ?_
              rotate_left
              · (intro w hSw; (try dsimp only at hSw); go_simp) <;> with_reducible rfl
              try simp only [Act.put, List.setIfInBounds_toArray, List.set_cons_zero, List.set_cons_succ]
              refine wpAnyH_take (i := 3) (v := ?_) rfl (by kernel_rfl) (by kernel_rfl) (by kernel_rfl) (fun _ _ _ h => h) (Or.inl ⟨by rfl, ?_⟩) (by assumption) ?_
              rotate_left
              · (intro w hSw; (try dsimp only at hSw); go_simp) <;> with_reducible rfl
              try simp only [Act.put, List.setIfInBounds_toArray, List.set_cons_zero, List.set_cons_succ]
              refine wpAnyH_take (i := 4) (v := ?_) rfl (by kernel_rfl) (by kernel_rfl) (by kernel_rfl) (fun _ _ _ h => h) (Or.inl ⟨by rfl, ?_⟩) (by assumption) ?_
              rotate_left
              · (intro w hSw; (try dsimp only at hSw); go_simp) <;> with_reducible rfl
              try simp only [Act.put, List.setIfInBounds_toArray, List.set_cons_zero, List.set_cons_succ]
              refine wpAnyH_take (i := 5) (v := ?_) rfl (by kernel_rfl) (by kernel_rfl) (by kernel_rfl) (fun _ _ _ h => h) (Or.inl ⟨by rfl, ?_⟩) (by assumption) ?_
              rotate_left
              · (intro w hSw; (try dsimp only at hSw); go_simp) <;> with_reducible rfl
              try simp only [Act.put, List.setIfInBounds_toArray, List.set_cons_zero, List.set_cons_succ]
              refine wpAnyH_take (i := 6) (v := ?_) rfl (by kernel_rfl) (by kernel_rfl) (by kernel_rfl) (fun _ _ _ h => h) (Or.inl ⟨by rfl, ?_⟩) (by assumption) ?_
              rotate_left
              · (intro w hSw; (try dsimp only at hSw); go_simp) <;> with_reducible rfl
              try simp only [Act.put, List.setIfInBounds_toArray, List.set_cons_zero, List.set_cons_succ]
              refine wpAnyH_take (i := 7) (v := ?_) rfl (by kernel_rfl) (by kernel_rfl) (by kernel_rfl) (fun _ _ _ h => h) (Or.inl ⟨by rfl, ?_⟩) (by assumption) ?_
              rotate_left
              · (intro w hSw; (try dsimp only at hSw); go_simp) <;> with_reducible rfl
              try simp only [Act.put, List.setIfInBounds_toArray, List.set_cons_zero, List.set_cons_succ]
              refine wpAnyH_take (i := 8) (v := ?_) rfl (by kernel_rfl) (by kernel_rfl) (by kernel_rfl) (fun _ _ _ h => h) (Or.inl ⟨by rfl, ?_⟩) (by assumption) ?_
              rotate_left
              · (intro w hSw; (try dsimp only at hSw); go_simp) <;> with_reducible rfl
              try simp only [Act.put, List.setIfInBounds_toArray, List.set_cons_zero, List.set_cons_succ]
              refine wpAnyH_take (i := 9) (v := ?_) rfl (by kernel_rfl) (by kernel_rfl) (by kernel_rfl) (fun _ _ _ h => h) (Or.inl ⟨by rfl, ?_⟩) (by assumption) ?_
              rotate_left
              · (intro w hSw; (try dsimp only at hSw); go_simp) <;> with_reducible rfl
              try simp only [Act.put, List.setIfInBounds_toArray, List.set_cons_zero, List.set_cons_succ]
              refine wpAnyH_take (i := 10) (v := ?_) rfl (by kernel_rfl) (by kernel_rfl) (by kernel_rfl) (fun _ _ _ h => h) (Or.inl ⟨by rfl, ?_⟩) (by assumption) ?_
              rotate_left
              · (intro w hSw; (try dsimp only at hSw); go_simp) <;> with_reducible rfl
              try simp only [Act.put, List.setIfInBounds_toArray, List.set_cons_zero, List.set_cons_succ]
              refine wpAnyH_ready (rs := [11]) (by kernel_rfl) (by simp) ?_
              refine AllReadyH.cons rfl (fun K hK => ?_) AllReadyH.nil
              go_simp
              go_at_call 110
              refine (HPUT.out _ _ _ (by omega) (by omega)).mono ?_; rintro e w6 ⟨rfl, hS6, hF6⟩
              go_wp2_with fail
              have hJ6 := HFIN.out _ _ _ (by omega) (by omega) (by intro h; exact absurd (List.eq_nil_of_length_eq_zero hfn) h) w6 hS6 hF6
              have hb76 := hF6.blk HB75.out HNE.out (by decide)
              refine hK.out _ _ ⟨hJ6.bp.cell (i := 0) rfl, hb76.cell (i := 2) rfl, hb76.cell (i := 3) rfl, HYY.out w6 hJ6.inv⟩ (fun hHeld => ?_)
              clear hK K
              try simp only [Act.put, List.setIfInBounds_toArray, List.set_cons_zero, List.set_cons_succ]
              refine wpAnyH_done (by kernel_rfl) ?_ _
              have HJ6 := Lib.hid hJ6; have HBD6 := Lib.hid (hF6.blk HBD5.out (by omega) (by decide)); have HKF6 := Lib.hid (HKF.out.trans ((hF6.others HPB.out).from _))
              clear hJ6 hb76 hS6 hF6 t2 t3 t4 y0 y1 hHeld
              gi_wp2_with fail
              exact ⟨HKF6.out, totR (R.set k ((qk, qv) :: fs)), _, by omega, R.set k ((qk, qv) :: fs), c0 + 1, rfl, by omega, by rw [insV_length]; omega, HJ6.out, HBD6.out⟩
            · have hc2 : ¬ (xc = 1) := hc0
              have hl1 : (1 : Int) ≤ (fs.length : Int) + 1 := by omega
              gi_wp2_with fail
              refine wpIn_held_round (S := fun w' => w'.cell? ⟨n1 + 2, 0, none⟩ = some (.pointer (some ⟨n1 + 1, 0, none⟩)) ∧ w'.cell? ⟨B7, 2, none⟩ = some (.int .i64 (k : Int)) ∧ w'.cell? ⟨B7, 3, none⟩ = some (.slice (some ⟨b, off, none⟩) (fs.length + 1) xc) ∧ w'.cell? ⟨b, off, none⟩ = some (.int .i64 qk) ∧ w'.cell? ⟨b, off + 1, none⟩ = some (.int .i64 qv)) l2 (by kernel_rfl) (by kernel_rfl) (by rintro ⟨a, w, h⟩; exact h) ⟨t4, t2, t3, y0, y1⟩ (fun hHeld => ?_)
              refine wpAnyH_take (i := 0) (v := ?_) rfl (by kernel_rfl) (by kernel_rfl) (by kernel_rfl) (fun _ _ _ h => h) (Or.inl ⟨by rfl, ?_⟩) (by assumption) ?_
              rotate_left
              · (intro w hSw; (try dsimp only at hSw); go_simp) <;> with_reducible rfl
              try simp only [Act.put, List.setIfInBounds_toArray, List.set_cons_zero, List.set_cons_succ]
              refine wpAnyH_take (i := 1) (v := ?_) rfl (by kernel_rfl) (by kernel_rfl) (by kernel_rfl) (fun _ _ _ h => h) (Or.inl ⟨by rfl, ?_⟩) (by assumption) ?_
              rotate_left
              · (intro w hSw; (try dsimp only at hSw); go_simp) <;> with_reducible rfl
              try simp only [Act.put, List.setIfInBounds_toArray, List.set_cons_zero, List.set_cons_succ]
              refine wpAnyH_take (i := 2) (v := ?_) rfl (by kernel_rfl) (by kernel_rfl) (by kernel_rfl) (fun _ _ _ h => h) (Or.inl ⟨by rfl, ?_⟩) (by assumption) ?_
              rotate_left
              · (intro w hSw; (try dsimp only at hSw); go_simp) <;> with_reducible rfl
              try simp only [Act.put, List.setIfInBounds_toArray, List.set_cons_zero, List.set_cons_succ]
              refine wpAnyH_take (i := 3) (v := ?_) rfl (by kernel_rfl) (by kernel_rfl) (by kernel_rfl) (fun _ _ _ h => h) (Or.inl ⟨by rfl, ?_⟩) (by assumption) ?_
              rotate_left
              · (intro w hSw; (try dsimp only at hSw); go_simp) <;> with_reducible rfl
              try simp only [Act.put, List.setIfInBounds_toArray, List.set_cons_zero, List.set_cons_succ]
              refine wpAnyH_take (i := 4) (v := ?_) rfl (by kernel_rfl) (by kernel_rfl) (by kernel_rfl) (fun _ _ _ h => h) (Or.inl ⟨by rfl, ?_⟩) (by assumption) ?_
              rotate_left
              · (intro w hSw; (try dsimp only at hSw); go_simp) <;> with_reducible rfl
              try simp only [Act.put, List.setIfInBounds_toArray, List.set_cons_zero, List.set_cons_succ]
              refine wpAnyH_take (i := 5) (v := ?_) rfl (by kernel_rfl) (by kernel_rfl) (by kernel_rfl) (fun _ _ _ h => h) (Or.inl ⟨by rfl, ?_⟩) (by assumption) ?_
              rotate_left
              · (intro w hSw; (try dsimp only at hSw); go_simp) <;> with_reducible rfl
              try simp only [Act.put, List.setIfInBounds_toArray, List.set_cons_zero, List.set_cons_succ]
              refine wpAnyH_take (i := 6) (v := ?_) rfl (by kernel_rfl) (by kernel_rfl) (by kernel_rfl) (fun _ _ _ h => h) (Or.inl ⟨by rfl, ?_⟩) (by assumption) ?_
              rotate_left
              · (intro w hSw; (try dsimp only at hSw); go_simp) <;> with_reducible rfl
              try simp only [Act.put, List.setIfInBounds_toArray, List.set_cons_zero, List.set_cons_succ]
              refine wpAnyH_take (i := 7) (v := ?_) rfl (by kernel_rfl) (by kernel_rfl) (by kernel_rfl) (fun _ _ _ h => h) (Or.inl ⟨by rfl, ?_⟩) (by assumption) ?_
              rotate_left
              · (intro w hSw; (try dsimp only at hSw); go_simp) <;> with_reducible rfl
              try simp only [Act.put, List.setIfInBounds_toArray, List.set_cons_zero, List.set_cons_succ]
              refine wpAnyH_take (i := 8) (v := ?_) rfl (by kernel_rfl) (by kernel_rfl) (by kernel_rfl) (fun _ _ _ h => h) (Or.inl ⟨by rfl, ?_⟩) (by assumption) ?_
              rotate_left
              · (intro w hSw; (try dsimp only at hSw); go_simp) <;> with_reducible rfl
              try simp only [Act.put, List.setIfInBounds_toArray, List.set_cons_zero, List.set_cons_succ]
              refine wpAnyH_take (i := 9) (v := ?_) rfl (by kernel_rfl) (by kernel_rfl) (by kernel_rfl) (fun _ _ _ h => h) (Or.inl ⟨by rfl, ?_⟩) (by assumption) ?_
              rotate_left
              · (intro w hSw; (try dsimp only at hSw); go_simp) <;> with_reducible rfl
              try simp only [Act.put, List.setIfInBounds_toArray, List.set_cons_zero, List.set_cons_succ]
              refine wpAnyH_take (i := 10) (v := ?_) rfl (by kernel_rfl) (by kernel_rfl) (by kernel_rfl) (fun _ _ _ h => h) (Or.inl ⟨by rfl, ?_⟩) (by assumption) ?_
              rotate_left
              · (intro w hSw; (try dsimp only at hSw); go_simp) <;> with_reducible rfl
              try simp only [Act.put, List.setIfInBounds_toArray, List.set_cons_zero, List.set_cons_succ]
              refine wpAnyH_ready (rs := [11]) (by kernel_rfl) (by simp) ?_
              refine AllReadyH.cons rfl (fun K hK => ?_) AllReadyH.nil
              go_simp
              go_at_call 110
              refine (HPUT.out _ _ _ (by omega) (by omega)).mono ?_; rintro e w6 ⟨rfl, hS6, hF6⟩
              go_wp2_with fail
              have hJ6 := HFIN.out _ _ _ (by omega) (by omega) (by intro _; rfl) w6 hS6 hF6
              have hb76 := hF6.blk HB75.out HNE.out (by decide)
              refine hK.out _ _ ⟨hJ6.bp.cell (i := 0) rfl, hb76.cell (i := 2) rfl, hb76.cell (i := 3) rfl, HYY.out w6 hJ6.inv⟩ (fun hHeld => ?_)
              clear hK K
              try simp only [Act.put, List.setIfInBounds_toArray, List.set_cons_zero, List.set_cons_succ]
              refine wpAnyH_done (by kernel_rfl) ?_ _
              have HJ6 := Lib.hid hJ6; have HBD6 := Lib.hid (hF6.blk HBD5.out (by omega) (by decide)); have HKF6 := Lib.hid (HKF.out.trans ((hF6.others HPB.out).from _))
              clear hJ6 hb76 hS6 hF6 t2 t3 t4 y0 y1 hHeld
              gi_wp2_with fail
              exact ⟨HKF6.out, totR (R.set k ((qk, qv) :: fs)), _, by omega, R.set k ((qk, qv) :: fs), c0 + 1, rfl, by omega, by rw [insV_length]; omega, HJ6.out, HBD6.out⟩
        · gi_wp2_with fail
          exact ⟨kf_up hfy.1 hn7, rfl, hJx⟩
      case done =>
        clear IT hmdO hmmO
        rintro D W' hD ⟨R, h1, h2, h3, h4⟩ hK'
        have hgp := grownBy_putObj' W' D (.deferred none)
        have hi' := HK.out _ _ _ h2 (below_gb hgp (fun r e => by cases e; omega) h4)
        have hr' := HRC.out _ _ h3 (KU.grown hgp (fun r e => .inl (by cases e; omega)))
        have HF := Lib.hid (And.intro hi' hr'); have HKD := Lib.hid hK'
        clear h2 h3 hi' hr' hgp hK'
        go_wp2
        refine ⟨by simp, .inl ⟨_, _, rfl, run_takeDeferred HKD.out, ?_⟩⟩
        exact ⟨_, results_none rfl _ _ _, ⟨_, rfl⟩, .inl ⟨⟨R, h1, HF.out.1⟩, HF.out.2⟩⟩
      case stop =>
        clear IT hmdO hmmO
        rintro D c' W' hD ⟨rfl, hJx⟩ hK'
        have hj' := HJX.out _ _ _ hJx (grownBy_putObj' W' D (.deferred none)) (fun r e => by cases e; exact ⟨by omega, _, hK', rfl⟩)
        have HF := Lib.hid hj'; have HKD := Lib.hid hK'
        clear hj' hJx hK'
        gi_wp2
        refine ⟨by simp, .inl ⟨_, _, rfl, run_takeDeferred HKD.out, ?_⟩⟩
        exact ⟨_, results_none rfl _ _ _, ⟨_, rfl⟩, .inr HF.out⟩
end Go.Proofs.Ytbhpokcnkdgcmaa.HeapM
