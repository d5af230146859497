/- DelA, DelF, Dcd4, laid together. -/
import Derived.Test.YtnlhgnioedalpaaGr09
import Derived.Test.YtnlhgnioedalpaaGr03
import Derived.Test.YtnlhgnioedalpaaGr02
import Derived.Deep.AppendLies
import Derived.OwnWalk
import Derived.Laws.Pointers
import Derived.WalkSpells
import Derived.Test.YtnlhgnioedalpaaPDeltaBooksx3

/- delta: all entries of a book. -/
set_option linter.unusedSimpArgs false
set_option linter.unusedVariables false
namespace Go.Proofs.Ytnlhgnioedalpaa.Pri
open Go.RowKit Go.Proofs.YtnlhgnioedalpaaW.PrintWords Go.Proofs.Ytnlhgnioedalpaa.PPricePlays Go.Maps
attribute [local go_sem] Oper.semAt_some

abbrev tF : TypeId := 134
abbrev tC : TypeId := 93
abbrev Ch := Int × Int × Int
def dC : Ch := (0, 0, 0)
/-- the changes of the first k lists -/
def chT (ls : List (List En)) (k : Nat) : List Ch := (List.range k).flatMap (fun i => (ls.getD i []).map (fun e => ((i : Int), e.1, e.2)))
theorem chT_succ (ls : List (List En)) (k : Nat) : chT ls (k + 1) = chT ls k ++ (ls.getD k []).map (fun e => ((k : Int), e.1, e.2)) := by
  unfold chT
  rw [List.range_succ, List.flatMap_append]
  simp
theorem chT_at (ls : List (List En)) {i j : Nat} (hj : j < (ls.getD i []).length) : ∀ n, i < n → (chT ls i).length + j < (chT ls n).length ∧ (chT ls n).getD ((chT ls i).length + j) dC = ((i : Int), ((ls.getD i []).getD j dE).1, ((ls.getD i []).getD j dE).2) := by
  intro n
  induction n with
  | zero => intro h; omega
  | succ n ih =>
    intro h
    rw [chT_succ, List.length_append, List.length_map]
    by_cases hin : i < n
    · obtain ⟨h1, h2⟩ := ih hin
      refine ⟨by omega, ?_⟩
      rw [List.getD_eq_getElem?_getD, List.getElem?_append_left h1, ← List.getD_eq_getElem?_getD]
      exact h2
    · obtain rfl : i = n := by omega
      refine ⟨by omega, ?_⟩
      have e : (ls.getD i []).getD j dE = (ls.getD i [])[j] := by rw [List.getD_eq_getElem?_getD, List.getElem?_eq_getElem hj]; rfl
      rw [List.getD_eq_getElem?_getD, List.getElem?_append_right (by omega), Nat.add_sub_cancel_left, List.getElem?_map, List.getElem?_eq_getElem hj, e]
      rfl
/-- a book that is read: the stores' slices are vs -/
def BV (ps : List Nat) (vs : List Value) (ls : List (List En)) (o : Value) (W : World) : Prop := ∃ A c, o = .slice A ls.length c ∧ ∀ (i : Nat) l, ls[i]? = some l → ∃ g p v, A = some ⟨g, 0, none⟩ ∧ ps[i]? = some p ∧ vs[i]? = some v ∧ g < W.heap.size ∧ W.cell? ⟨g, i, none⟩ = some (.pointer (some ⟨p, 0, none⟩)) ∧ W.cell? ⟨p, 0, none⟩ = some v ∧ PE W v l
theorem BV.below {ps : List Nat} {vs : List Value} {ls : List (List En)} {o : Value} {A C : World} (h : BV ps vs ls o A) (hb : Below A.heap.size A C) : BV ps vs ls o C := by
  obtain ⟨a, c, rfl, h1⟩ := h
  refine ⟨a, c, rfl, fun i l hl => ?_⟩
  obtain ⟨g, p, v, e, hp, hv, hg, c1, c2, hpe⟩ := h1 i l hl
  exact ⟨g, p, v, e, hp, hv, Nat.lt_of_lt_of_le hg hb.size, (hb.cell (p := ⟨g, i, none⟩) hg).trans c1, (hb.cell (p := ⟨p, 0, none⟩) (cell_spot c2).2).trans c2, hpe.below hb⟩
theorem Marks.kf {lo hi : Nat} {ds : List Deferred} {A B : World} (h : Marks lo hi ds A) (hk : KeepsFrom lo A B) : Marks lo hi ds B := by
  obtain ⟨Ds, h1, h2, h3⟩ := h
  exact ⟨Ds, h1, h2, fun D hD => ⟨(h3 D hD).1, hk.same D _ (h3 D hD).1.1 (h3 D hD).2 rfl⟩⟩
/-- what a consumer keeps: the boxes of the iterators -/
def AllTs (t : TypeId) : Prop := t = tF ∨ t = 3 ∨ t = tP
/-- the memory between two lists -/
structure AO (n1 l : Nat) (Rc : World → Prop) (Inv : Nat → World → Prop) (k : Nat) (ds : List Deferred) (W' : World) : Prop where
  by_ : Blk W' n1 tF [.func (.yield l) #[] #[]]
  inv : Inv k W'
  rc : Rc W'
  m : Marks n1 W'.heap.size ds W'
/-- and between two entries -/
structure AJ (n1 l : Nat) (Rc : World → Prop) (Inv : Nat → World → Prop) (hi : Nat) (i : Int) (p : Nat) (k : Nat) (ds : List Deferred) (bi B1 : Nat) (W' : World) : Prop where
  by_ : Blk W' n1 tF [.func (.yield l) #[] #[]]
  bi_ : Blk W' bi 3 [.int .i64 i]
  b1 : Blk W' B1 tP [.pointer (some ⟨p, 0, none⟩)]
  inv : Inv k W'
  rc : Rc W'
  m : Marks n1 hi ds W'
  sz : hi ≤ W'.heap.size
theorem AJ.own {n1 l : Nat} {Rc : World → Prop} {Inv : Nat → World → Prop} (hRc : ∀ A A', Rc A → KU n1 A A' → Rc A') {hi : Nat} (i : Int) (p k : Nat) (ds : List Deferred) (bi B1 : Nat) (hn : n1 ≤ hi) {b : Nat} (hb : hi ≤ b) (hO : OwnFrom b (fun (_ : Unit) W => Inv k W)) :
    OwnFrom b (fun (_ : Unit) W' => AJ n1 l Rc Inv hi i p k ds bi B1 W') := fun s A B row h hg hr => by
  have q : RowOk A row := fun r e => (hr r e).2
  exact ⟨blk_row1 h.by_ hg q, blk_row1 h.bi_ hg q, blk_row1 h.b1 hg q, hO () A B row h.inv hg hr, hRc _ _ h.rc (KU.grown hg (fun r e => .inl (by have := (hr r e).1; omega))), h.m.gb hg (fun r e => .inl (by have := (hr r e).1; omega)), Nat.le_trans h.sz hg.size⟩
set_option maxRecDepth 100000 in
set_option maxHeartbeats 8000000 in
theorem all_iter (n Bb bnd : Nat) (ps : List Nat) (vs : List Value) (ls : List (List En)) (o : Value) (hls : ls.length ≤ 100000) (hlen : ∀ l ∈ ls, l.length ≤ 100000) (Inv : Nat → World → Prop)
    (hI : ∀ k W, Inv k W → W.cell? ⟨Bb, 0, none⟩ = some o ∧ BV ps vs ls o W) (hO : ∀ k b, bnd ≤ b → OwnFrom b (fun (_ : Unit) W => Inv k W)) (hB : ∀ k A C, Inv k A → Below A.heap.size A C → Inv k C) :
    IterOk3 Fence.wide n Try.prog 105 #[.pointer (some ⟨Bb, 0, none⟩)] AllTs (fun k : Nat => #[.agg #[.int .i64 ((chT ls ls.length).getD k dC).1, .int .u64 ((chT ls ls.length).getD k dC).2.1, .int .i64 ((chT ls ls.length).getD k dC).2.2]])
      (fun W => bnd ≤ W.heap.size ∧ Inv 0 W) (fun k W => k < (chT ls ls.length).length ∧ Inv k W) (fun k W => Inv (k + 1) W) (Inv (chT ls ls.length).length) := by
  intro l Rc JX W1 hRc hJX hR0 hS0 hY
  obtain ⟨hbw, hI0⟩ := hS0
  show CallsIn Fence.wide n Try.prog 105 #[.func (.yield l) #[] #[], .pointer (some ⟨Bb, 0, none⟩)] W1 _
  refine (callsIn_wide (n := n)).2 ((callsIn_wide (n := 4)).1 ?_)
  refine callsIn_of_wp_marks Try.func105 rfl trivial ?_ rfl
  refine wpIn_wide.2 ?_
  simp only [Try.ntmps105, List.size_toArray, List.length_cons, List.length_nil, Nat.reduceAdd, Nat.reduceSub, Array.replicate_succ, Array.replicate_zero, List.push_toArray, List.append_toArray, List.nil_append, List.cons_append]
  obtain ⟨n1, hn1⟩ : ∃ n1, W1.heap.size = n1 := ⟨_, rfl⟩
  have hal : Below W1.heap.size W1 (W1.alloc (.cells #[.func (.yield l) #[] #[]] tF)) := (Below.refl _ W1).alloc (Nat.le_refl _) _
  have hb := Blk.new W1 [.func (.yield l) #[] #[]] tF
  have hI1 := hB 0 _ _ hI0 hal
  have hR1 := hRc _ _ hR0 (KU.grown (gb_none hal) (fun r e => by cases e))
  obtain ⟨cB, hBV⟩ := hI _ _ hI1
  obtain ⟨Ao, co, rfl, -⟩ := id hBV
  rw [hn1] at hb hRc hJX hY
  have HAO := Lib.hid (show AO n1 l Rc Inv (chT ls 0).length [] (W1.alloc (.cells #[.func (.yield l) #[] #[]] tF)) from ⟨hb, hI1, hR1, Marks.nil _ _ _⟩)
  have HN1 := Lib.hid hn1; have HI := Lib.hid hI; have HRC := Lib.hid hRc; have HJX := Lib.hid hJX; have HY := Lib.hid hY; have HO := Lib.hid hO; have HBL := Lib.hid hB
  have hbn : bnd ≤ n1 := by omega
  clear hal hb hI1 hR1 hBV hI hRc hJX hY hO hB hI0 hR0 hn1
  go_wp2_with fail
  rw [HN1.out]
  clear cB
  refine wp_loop (fun a' w' => ∃ u3 u4 u10 u11 u12 u13 u14 u15 u26 u9 ds, (∃ k : Nat, k ≤ ls.length ∧ u9 = .int .i64 (k : Int) ∧ AO n1 l Rc Inv (chT ls k).length ds w') ∧ a' = { tmps := #[.func (.yield l) #[] #[], .pointer (some ⟨Bb, 0, none⟩), .pointer (some ⟨n1, 0, none⟩), u3, u4, undef, undef, .slice Ao ls.length co, .int .i64 (ls.length : Int), u9, u10, u11, u12, u13, u14, u15, undef, undef, undef, undef, undef, undef, undef, undef, undef, undef, u26], defers := ds }) (fun a' _ => ls.length - (intOf (a'.tmps.getD 9 undef)).toNat) ?_ ?_
  · exact ⟨undef, undef, undef, undef, undef, undef, undef, undef, undef, _, [], ⟨0, Nat.zero_le _, rfl, HAO.out⟩, rfl⟩
  · rintro a' wr ⟨u3, u4, u10, u11, u12, u13, u14, u15, u26, u9, ds, ⟨k, hk, rfl, hA⟩, rfl⟩
    clear HAO
    have HA := Lib.hid hA
    clear hA
    by_cases hlt : k < ls.length
    · obtain ⟨lk, hx⟩ : ∃ x, ls[k] = x := ⟨_, rfl⟩
      have hx2 : ls[k]? = some lk := by rw [List.getElem?_eq_getElem hlt, hx]
      have hll := hlen _ (List.mem_of_getElem? hx2)
      have hgd : ls.getD k [] = lk := by rw [List.getD_eq_getElem?_getD, hx2]; rfl
      obtain ⟨cB, hBV⟩ := HI.out _ _ HA.out.inv
      obtain ⟨Ao', co', e1, hbv⟩ := hBV
      obtain ⟨rfl, rfl⟩ : Ao = Ao' ∧ co = co' := by injection e1 with e1 e2 e3; exact ⟨e1, e3⟩
      obtain ⟨g, p, vp, rfl, hpp, hvv, hgl, cg, cp, hpe⟩ := hbv k lk hx2
      have hal1 : Below wr.heap.size wr (wr.alloc (.cells #[.int .i64 (k : Int)] 3)) := (Below.refl _ wr).alloc (Nat.le_refl _) _
      have hbi := Blk.new wr [.int .i64 (k : Int)] 3
      have HX2 := Lib.hid hx2; have HGD := Lib.hid hgd; have HPP := Lib.hid hpp; have HVV := Lib.hid hvv; have HAL1 := Lib.hid hal1; have HBI := Lib.hid hbi
      clear hx hx2 hgd e1 hbv hpe hal1 hbi hpp hvv cB
      go_wp2_with fail
      refine (entries_any _ p).mono ?_; rintro e w3 ⟨rfl, hw3⟩
      have hz3 : w3.heap.size = wr.heap.size + 2 := by rw [hw3]; simp
      have hal2 : Below (wr.alloc (.cells #[.int .i64 (k : Int)] 3)).heap.size (wr.alloc (.cells #[.int .i64 (k : Int)] 3)) w3 := by rw [hw3]; exact (Below.refl _ _).alloc (Nat.le_refl _) _
      have hb1 : Blk w3 (wr.heap.size + 1) tP [.pointer (some ⟨p, 0, none⟩)] := by
        rw [hw3]
        have := Blk.new (wr.alloc (.cells #[.int .i64 (k : Int)] 3)) [.pointer (some ⟨p, 0, none⟩)] tP
        rw [World.size_alloc] at this
        exact this
      have hal3 : Below wr.heap.size wr w3 := HAL1.out.trans (hal2.mono HAL1.out.size)
      have hn1r : n1 < wr.heap.size := HA.out.by_.lt
      have hJ0 : AJ n1 l Rc Inv w3.heap.size (k : Int) p (chT ls k).length ds wr.heap.size (wr.heap.size + 1) w3 :=
        ⟨HA.out.by_.belowS hal3, HBI.out.belowS hal2, hb1, HBL.out _ _ _ HA.out.inv hal3, HRC.out _ _ HA.out.rc (KU.grown (gb_none hal3) (fun r e => by cases e)), (HA.out.m.below hal3).up (by omega), Nat.le_refl _⟩
      have HJ0 := Lib.hid hJ0; have HZ3 := Lib.hid hz3
      simp only [World.size_alloc]
      clear hw3 hal2 hb1 hal3 hJ0 hz3 cg cp
      have hat : ∀ j, j < lk.length → (chT ls k).length + j < (chT ls ls.length).length ∧ (chT ls ls.length).getD ((chT ls k).length + j) dC = ((k : Int), (lk.getD j dE).1, (lk.getD j dE).2) := fun j hj => by
        have := chT_at ls (i := k) (j := j) (by rw [HGD.out]; exact hj) ls.length hlt
        rw [HGD.out] at this
        exact this
      have HAT := Lib.hid hat
      have hse : ∀ q, p = q → vp = vp := fun _ _ => rfl
      have hst : ∀ kk W', Inv kk W' → W'.cell? ⟨p, 0, none⟩ = some vp ∧ PE W' vp lk := fun kk W' h => by
        obtain ⟨_, Ao', co', e1, hbv⟩ := HI.out kk W' h
        obtain ⟨g', p', v', _, h1, h2, _, _, h4, h5⟩ := hbv k lk HX2.out
        rw [HPP.out] at h1
        rw [HVV.out] at h2
        cases h1; cases h2
        exact ⟨h4, h5⟩
      have hsO : ∀ kk, OwnFrom w3.heap.size (fun (_ : Unit) W' => AJ n1 l Rc Inv w3.heap.size (k : Int) p kk ds wr.heap.size (wr.heap.size + 1) W') := fun kk => AJ.own HRC.out (k : Int) p kk ds _ _ (by have := HZ3.out; omega) (Nat.le_refl _) (HO.out kk _ (by have := HZ3.out; omega))
      have IT := entries_iter 3 (wr.heap.size + 1) p vp lk (by omega) (fun j W' => AJ n1 l Rc Inv w3.heap.size (k : Int) p ((chT ls k).length + j) ds wr.heap.size (wr.heap.size + 1) W')
        (fun j W' h => ⟨h.b1.cell rfl, (hst _ _ h.inv).1, (hst _ _ h.inv).2⟩) (fun j W' o h => by
          have ha : Below W'.heap.size W' (W'.alloc o) := (Below.refl _ W').alloc (Nat.le_refl _) _
          exact ⟨h.by_.belowS ha, h.bi_.belowS ha, h.b1.belowS ha, HBL.out _ _ _ h.inv ha, HRC.out _ _ h.rc (KU.grown (gb_none ha) (fun r e => by cases e)), h.m.below ha, Nat.le_trans h.sz ha.size⟩)
      clear hat hse hst
      go_wp2_with fail
      refine wpIn_wide.1 (range_gen (F := Fence.wide) (n := 4) rfl (by omega) (gf := 70) (lb := #[.pointer (some ⟨wr.heap.size + 1, 0, none⟩)]) rfl trivial (enters_of Try.func70 (by kernel_rfl) rfl) (encs := fun j : Nat => #[.int .u64 (lk.getD j dE).1, .int .i64 (lk.getD j dE).2]) (fun _ => rfl)
        (fun W' => AJ n1 l Rc Inv w3.heap.size (k : Int) p ((chT ls k).length + 0) ds wr.heap.size (wr.heap.size + 1) W')
        (fun j W' => j < lk.length ∧ AJ n1 l Rc Inv w3.heap.size (k : Int) p ((chT ls k).length + j) ds wr.heap.size (wr.heap.size + 1) W')
        (fun j W' => AJ n1 l Rc Inv w3.heap.size (k : Int) p ((chT ls k).length + j + 1) ds wr.heap.size (wr.heap.size + 1) W')
        (fun c W' => c = .ret ∧ JX W' ∧ Marks n1 w3.heap.size ds W')
        (fun W' => AJ n1 l Rc Inv w3.heap.size (k : Int) p ((chT ls k).length + lk.length) ds wr.heap.size (wr.heap.size + 1) W')
        (fun j a' W' => a' = { tmps := #[.func (.yield l) #[] #[], .pointer (some ⟨Bb, 0, none⟩), .pointer (some ⟨n1, 0, none⟩), .pointer (some ⟨wr.heap.size, 0, none⟩), .pointer (some ⟨p, 0, none⟩), .int .u64 (lk.getD j dE).1, .int .i64 (lk.getD j dE).2, .slice (some ⟨g, 0, none⟩) ls.length co, .int .i64 (ls.length : Int), .int .i64 (k : Int), .bool true, .int .i64 (k : Int), .pointer (some ⟨g, k, none⟩), .pointer (some ⟨p, 0, none⟩), .pointer (some ⟨p, 0, none⟩), .func (.func 70) #[] #[.pointer (some ⟨wr.heap.size + 1, 0, none⟩)], .int .u64 (lk.getD j dE).1, .int .i64 (lk.getD j dE).2, undef, undef, undef, undef, undef, undef, undef, undef, u26], defers := [] } ∧ j < lk.length ∧ AJ n1 l Rc Inv w3.heap.size (k : Int) p ((chT ls k).length + j) ds wr.heap.size (wr.heap.size + 1) W')
        (hsO _)
        (fun j => hsO _)
        (fun c s A B row hs hg hr => ⟨hs.1, HJX.out A B row hs.2.1 hg (fun r e => ⟨by have := (hr r e).1; have := HZ3.out; omega, (hr r e).2⟩), hs.2.2.gb hg (fun r e => .inl (hr r e).1)⟩)
        (hsO _)
        (fun j a' => OwnFrom.and (fun _ _ _ _ hs _ _ => hs) (OwnFrom.and (fun _ _ _ _ hs _ _ => hs) (hsO _)))
        HJ0.out IT ?assign ?body ?done ?stop)
      case assign =>
        clear IT hsO
        rintro l2 j W' K ⟨hj, hP⟩ hK
        obtain ⟨⟨x, y⟩, hx⟩ : ∃ x, lk.getD j dE = x := ⟨_, rfl⟩
        have HPR := Lib.hid hP
        have HK := Lib.hid (fun a' h => hK a' W' (KeepsFrom.refl _ _) ⟨h, hj, HPR.out⟩)
        rw [hx] at HK ⊢
        clear hP hK hx
        gi_wp2
        exact HK.out _ rfl
      case body =>
        clear IT hsO
        rintro l2 j a' W' hl2 hr ⟨rfl, hj, hP⟩
        have hy0 := HY.out ((chT ls k).length + j) W' ⟨(HAT.out j hj).1, hP.inv⟩ hP.rc (by have := hP.sz; have := HZ3.out; omega)
        rw [(HAT.out j hj).2] at hy0
        obtain ⟨⟨x, y⟩, hx⟩ : ∃ x, lk.getD j dE = x := ⟨_, rfl⟩
        rw [hx] at hy0 ⊢
        obtain ⟨fn, tm, as_, bd, hy, hRd⟩ := yieldAny 1 hy0
        have HRD := Lib.hid hRd; have HP := Lib.hid hP
        have cy := hP.by_.cell (i := 0) rfl
        have ci := hP.bi_.cell (i := 0) rfl
        clear hx hy0 hRd hP
        gi_wp2_with fail
        refine RoundIn.mono (F := Fence.wide) HRD.out ?_
        clear hy
        rintro e w5 ⟨hfy, (⟨rfl, hI5, hR5⟩ | ⟨rfl, hJ⟩)⟩
        · gi_wp2_with fail
          exact ⟨kf_up hfy.1 (by have := HZ3.out; omega), (hfy.2 _ (.inl rfl)).blk HP.out.by_, (hfy.2 _ (.inr (.inl rfl))).blk HP.out.bi_, (hfy.2 _ (.inr (.inr rfl))).blk HP.out.b1, hI5, hR5, HP.out.m.kf hfy.1, Nat.le_trans HP.out.sz hfy.1.size⟩
        · gi_wp2_with fail
          exact ⟨kf_up hfy.1 (by have := HZ3.out; omega), rfl, hJ, HP.out.m.kf hfy.1⟩
      case done =>
        clear IT hsO
        rintro D W' hD hP hK
        have hk2 : (k : Int) + 1 ≤ 9223372036854775807 := by omega
        have hm := hP.m.cons (by have := HZ3.out; omega) hD hK
        have hDl : D < W'.heap.size := (Array.getElem?_eq_some_iff.1 hK).1
        have hln : (chT ls (k + 1)).length = (chT ls k).length + lk.length := by rw [chT_succ, List.length_append, List.length_map, HGD.out]
        have HN := Lib.hid (show AO n1 l Rc Inv (chT ls (k + 1)).length (mk D :: ds) W' from ⟨hP.by_, by rw [hln]; exact hP.inv, hP.rc, hm.up (by omega)⟩)
        clear hP hK hm hln
        go_wp2_with fail
        refine ⟨⟨_, _, _, _, _, _, _, _, _, _, _, ⟨k + 1, by omega, by simp, HN.out⟩, rfl⟩, ?_⟩
        simp [intOf]; omega
      case stop =>
        clear IT hsO
        rintro D c W' hD ⟨rfl, hJ, hM⟩ hK
        have HM := Lib.hid (hM.cons (by have := HZ3.out; omega) hD hK); have HJ := Lib.hid hJ
        clear hJ hM hK
        gi_wp2
        refine HM.out.leave JX ?_ ?_ HJ.out
        · intro A1 D2 hD2 h1 hK2
          exact HJX.out _ _ _ h1 (grownBy_putObj' A1 D2 (.deferred none)) (fun r e => by cases e; exact ⟨hD2, _, hK2, rfl⟩)
        · intro A1 h1
          exact ⟨.tuple #[], by simp [results, Try.f105, go_sem], ⟨_, rfl⟩, .inr h1⟩
    · obtain rfl : k = ls.length := by omega
      go_wp2_with fail
      refine HA.out.m.leave (fun A => Inv (chT ls ls.length).length A ∧ Rc A) ?_ ?_ ⟨HA.out.inv, HA.out.rc⟩
      · rintro A1 D hD ⟨h1, h2⟩ hK
        exact ⟨(HO.out _ n1 hbn).putObj (s := ()) (.deferred none) h1 hD hK rfl, HRC.out _ _ h2 (KU.grown (grownBy_putObj' A1 D (.deferred none)) (fun r e => by cases e; exact .inl hD))⟩
      · rintro A1 ⟨h1, h2⟩
        exact ⟨.tuple #[], by simp [results, Try.f105, go_sem], ⟨_, rfl⟩, .inl ⟨h1, h2⟩⟩
end Go.Proofs.Ytnlhgnioedalpaa.Pri

/- delta: the document's Few, SameBooks. -/
set_option linter.unusedSimpArgs false
set_option linter.unusedVariables false
namespace Go.Proofs.Ytnlhgnioedalpaa.Pri
open Go.RowKit Go.Proofs.YtnlhgnioedalpaaW.PrintWords Go.Proofs.Ytnlhgnioedalpaa.PPricePlays Go.Maps
attribute [local go_sem] Oper.semAt_some

set_option maxRecDepth 100000 in
set_option maxHeartbeats 4000000 in
theorem few12_any (W : World) (v : Value) (L : List (List En)) (h : PEE W v L) :
    Calls Try.prog 42 #[v] W fun e w' => e = .returned (.bool (fewB L 20 40)) ∧ Below W.heap.size W w' := by
  have H := Lib.hid h
  obtain ⟨A, c, rfl, -⟩ := h
  obtain ⟨R, hR⟩ : ∃ R, fewB L 20 40 = R := ⟨_, rfl⟩
  have HR := Lib.hid hR
  rw [hR]
  clear hR
  by_cases hn : 20 < L.length
  · have hn2 : (20 : Int) < (L.length : Int) := by omega
    have hr : R = false := by rw [← HR.out]; unfold fewB; rw [decide_eq_false (by omega)]; rfl
    have HRR := Lib.hid hr
    clear hr
    go_enter Try.func42, Try.ntmps42
    go_wp2_with fail
    go_ret
    exact ⟨by have := HRR.out; subst this; rfl, Below.refl _ W⟩
  · have hn2 : ¬ (20 : Int) < (L.length : Int) := by omega
    have hr : R = L.all (fun l => decide ((l.length : Int) ≤ 40)) := by rw [← HR.out]; unfold fewB; rw [decide_eq_true (by omega), Bool.true_and]
    have HRR := Lib.hid hr
    clear hr
    go_enter Try.func42, Try.ntmps42
    go_wp2_with fail
    go_loopw [3] (fun i wr => ∃ k : Nat, k ≤ L.length ∧ i = .int .i64 (k : Int) ∧ Below W.heap.size W wr ∧ ∀ j l, j < k → L[j]? = some l → (l.length : Int) ≤ 40) (fun i _ => L.length - (intOf i).toNat)
    case atStart => exact ⟨0, Nat.zero_le _, rfl, Below.refl _ W, fun j l hj => by omega⟩
    case round =>
      obtain ⟨k, hk, rfl, hB, hno⟩ := hrel
      have HNO := Lib.hid hno
      clear hno
      by_cases hlt : k < L.length
      · obtain ⟨l, hx⟩ : ∃ x, L[k] = x := ⟨_, rfl⟩
        have hx2 : L[k]? = some l := by rw [List.getElem?_eq_getElem hlt, hx]
        obtain ⟨b3, off3, c4, A1, c1, e1, hlb, r0, hpe⟩ := (H.out.below hB).at hx2
        obtain ⟨rfl, rfl⟩ : A = some ⟨b3, off3, none⟩ ∧ c = c4 := by injection e1 with e1 e2 e3; exact ⟨e1, e3⟩
        have HX := Lib.hid hx2
        clear hx hx2 e1 hpe
        by_cases hm : (40 : Int) < (l.length : Int)
        · have hr : R = false := by
            rw [HRR.out, List.all_eq_false]
            exact ⟨l, List.mem_of_getElem? HX.out, by simpa using hm⟩
          have HRF := Lib.hid hr
          clear hr
          go_wp2_with fail
          go_ret
          exact ⟨by have := HRF.out; subst this; rfl, hB⟩
        · go_wp2_with fail
          go_roundw
          case rel => exact ⟨k + 1, by omega, by simp, hB, fun j l' hj hl' => by
            rcases Nat.lt_succ_iff_lt_or_eq.1 hj with h | rfl
            · exact HNO.out j l' h hl'
            · rw [HX.out] at hl'; cases hl'; omega⟩
          case measure => simp [intOf]; omega
      · obtain rfl : k = L.length := by omega
        have hr : R = true := by
          rw [HRR.out, List.all_eq_true]
          intro l hl
          obtain ⟨j, hj, rfl⟩ := List.getElem_of_mem hl
          simpa using HNO.out j _ hj (List.getElem?_eq_getElem hj)
        have HRT := Lib.hid hr
        clear hr
        go_wp2_with fail
        go_ret
        exact ⟨by have := HRT.out; subst this; rfl, hB⟩
theorem rsame_c (W : World) (v u : Value) (l m : List En) (h : PE W v l) (k : PE W u m) (hl : l.length ≤ 1099511627776) (o : Bool) (ho : decide (l = m) = o) :
    Calls Try.prog 16 #[v, u] W fun e w' => e = .returned (.bool o) ∧ Below W.heap.size W w' := by
  have := rsame_any W v u l m h k hl
  rw [ho] at this
  exact this
set_option maxRecDepth 100000 in
set_option maxHeartbeats 4000000 in
theorem books_any (W : World) (v u : Value) (L M : List (List En)) (h : PEE W v L) (k : PEE W u M) (hl : L.length ≤ 1000000) (hl2 : ∀ l ∈ L, l.length ≤ 1000000) :
    Calls Try.prog 53 #[v, u] W fun e w' => e = .returned (.bool (decide (L = M))) ∧ Below W.heap.size W w' := by
  have H := Lib.hid h; have K := Lib.hid k
  obtain ⟨A, c, rfl, -⟩ := h
  obtain ⟨A2, c2, rfl, -⟩ := k
  obtain ⟨R, hR⟩ : ∃ R, decide (L = M) = R := ⟨_, rfl⟩
  have HR := Lib.hid hR
  rw [hR]
  clear hR
  by_cases hn : L.length = M.length
  · have hn2 : (L.length : Int) = (M.length : Int) := by omega
    have HN := Lib.hid hn
    clear hn
    go_enter Try.func53, Try.ntmps53
    go_wp2_with fail
    go_loopw [5] (fun i wr => ∃ k : Nat, k ≤ L.length ∧ i = .int .i64 (k : Int) ∧ Below W.heap.size W wr ∧ ∀ j, j < k → L[j]? = M[j]?) (fun i _ => L.length - (intOf i).toNat)
    case atStart => exact ⟨0, Nat.zero_le _, rfl, Below.refl _ W, fun j hj => by omega⟩
    case round =>
      obtain ⟨k, hk, rfl, hB, hno⟩ := hrel
      have HNO := Lib.hid hno; have HB := Lib.hid hB
      clear hno
      by_cases hlt : k < L.length
      · obtain ⟨l, hx⟩ : ∃ x, L[k] = x := ⟨_, rfl⟩
        have hx2 : L[k]? = some l := by rw [List.getElem?_eq_getElem hlt, hx]
        obtain ⟨m, hy⟩ : ∃ x, M[k]'(by have := HN.out; omega) = x := ⟨_, rfl⟩
        have hy2 : M[k]? = some m := by rw [List.getElem?_eq_getElem (by have := HN.out; omega), hy]
        have hll := hl2 _ (List.mem_of_getElem? hx2)
        have hkm : (k : Int) < (M.length : Int) := by omega
        obtain ⟨b3, off3, c4, A3, c3, e1, hlb, r0, hpe⟩ := (H.out.below hB).at hx2
        obtain ⟨rfl, rfl⟩ : A = some ⟨b3, off3, none⟩ ∧ c = c4 := by injection e1 with e1 e2 e3; exact ⟨e1, e3⟩
        obtain ⟨b5, off5, c6, A5, c5, e2, hlb5, s0, hpe5⟩ := (K.out.below hB).at hy2
        obtain ⟨rfl, rfl⟩ : A2 = some ⟨b5, off5, none⟩ ∧ c2 = c6 := by injection e2 with e1 e2 e3; exact ⟨e1, e3⟩
        obtain ⟨o, ho⟩ : ∃ o, decide (l = m) = o := ⟨_, rfl⟩
        have hdr : Below wr.heap.size wr wr.drew := (Below.refl _ _).drew
        have hsm := rsame_c wr.drew _ _ l m (hpe.below hdr) (hpe5.below hdr) (by omega) o ho
        have HSM := Lib.hid hsm; have HO := Lib.hid ho; have HX := Lib.hid hx2; have HY := Lib.hid hy2; have HDR := Lib.hid hdr
        clear hx hx2 hy hy2 e1 e2 hpe hpe5 ho hdr hsm hB
        go_wp2_with fail
        go_region_held3 (fun w' => w'.cell? ⟨b3, off3 + k, none⟩ = some (.slice A3 l.length c3) ∧ w'.cell? ⟨b5, off5 + k, none⟩ = some (.slice A5 m.length c5)) (go_keep) ((go_at_call 16; refine HSM.out.mono ?_; rintro e w1 ⟨rfl, hb1⟩; have q0 := ((HDR.out.trans hb1).cell (p := ⟨b3, off3 + k, none⟩) hlb).trans r0; have q1 := ((HDR.out.trans hb1).cell (p := ⟨b5, off5 + k, none⟩) hlb5).trans s0))
        all_goals
          have HB1 := Lib.hid (HB.out.trans ((HDR.out.trans hb1).mono HB.out.size))
          clear q0 q1 hb1
          cases o with
          | true =>
            have hlm := of_decide_eq_true HO.out
            have HLM := Lib.hid hlm
            clear hlm
            go_wp2_with fail
            go_roundw
            case rel => exact ⟨k + 1, by omega, by simp, HB1.out, fun j hj => by
              rcases Nat.lt_succ_iff_lt_or_eq.1 hj with h | rfl
              · exact HNO.out j h
              · rw [HX.out, HY.out, HLM.out]⟩
            case measure => simp [intOf]; omega
          | false =>
            have hr : R = false := by
              rw [← HR.out]
              refine decide_eq_false (fun e => ?_)
              have h1 := HX.out
              rw [e, HY.out] at h1
              have := of_decide_eq_false HO.out
              exact this (Option.some.inj h1).symm
            have HRR := Lib.hid hr
            clear hr
            go_wp2_with fail
            go_ret
            exact ⟨by have := HRR.out; subst this; rfl, HB1.out⟩
      · obtain rfl : k = L.length := by omega
        have hr : R = true := by
          rw [← HR.out]
          refine decide_eq_true (List.ext_getElem? (fun j => ?_))
          by_cases hj : j < L.length
          · exact HNO.out j hj
          · rw [List.getElem?_eq_none (by omega), List.getElem?_eq_none (by have := HN.out; omega)]
        have HRR := Lib.hid hr
        clear hr
        go_wp2_with fail
        go_ret
        exact ⟨by have := HRR.out; subst this; rfl, hB⟩
  · have hn2 : ¬ (L.length : Int) = (M.length : Int) := by omega
    have hr : R = false := by
      rw [← HR.out]
      exact decide_eq_false (fun e => hn (by rw [e]))
    have HRR := Lib.hid hr
    clear hr hn
    go_enter Try.func53, Try.ntmps53
    go_wp2_with fail
    go_ret
    exact ⟨by have := HRR.out; subst this; rfl, Below.refl _ W⟩
end Go.Proofs.Ytnlhgnioedalpaa.Pri

/- layer 5: what is written. -/
set_option linter.unusedSimpArgs false
set_option linter.unusedVariables false
namespace Go.Proofs.Ytnlhgnioedalpaa.Cod
open Go.RowKit Go.Shelf Go.Proofs.YtnlhgnioedalpaaW.PrintWords Go.Proofs.Ytnlhgnioedalpaa.CodL
attribute [local go_sem] Oper.semAt_some

theorem infoB : (Try.prog.info? 5).map (fun i => (i.zero, i.size, i.bytes)) = some (some (.int .u8 0), 1, 1) := by kernel_rfl

theorem or128 (m : Nat) : bits .or .u8 ((m : Int) % 256) 128 = ((128 + m % 128 : Nat) : Int) := by
  have h : ∀ x : Fin 256, bits .or .u8 ((x.val : Nat) : Int) 128 = ((128 + x.val % 128 : Nat) : Int) := by decide +kernel
  have := h ⟨m % 256, by omega⟩
  rw [show ((m % 256 : Nat) : Int) = (m : Int) % 256 from by omega] at this
  rw [this]
  congr 1
  show 128 + m % 256 % 128 = _
  omega

/-- what is written so far: the object at p, the row of its bytes -/
def OM (W : World) (base p : Nat) (v : Value) (bs : List Int) : Prop := base ≤ p ∧ Blk W p 136 [v] ∧ W.ownsRow base 5 1 v bs.length (nums .u8 bs)
theorem OM.store {W : World} {base p n : Nat} {v u : Value} {cs : List Int} (hbp : base ≤ p) (hP : Blk W p 136 [v]) (ho : W.ownsRow base 5 1 u n (nums .u8 cs)) : OM (W.setCell ⟨p, 0, none⟩ u) base p u cs := by
  obtain rfl : n = cs.length := by have := ho.1; rw [nums_length] at this; omega
  exact ⟨hbp, hP.set 0 _, own_setCell ho (own_apart hP ho (by decide)) 0 _⟩
theorem OM.lt {W : World} {base p : Nat} {v : Value} {bs : List Int} (h : OM W base p v bs) : base ≤ p ∧ p < W.heap.size := ⟨h.1, h.2.1.lt⟩
theorem OM.ge {W : World} {base p : Nat} {v : Value} {bs : List Int} (h : OM W base p v bs) : ∀ k, v.ownBlock = some k → base ≤ k := fun k e => (own_typ h.2.2 k e).1
theorem OM.below {W W' : World} {base p : Nat} {v : Value} {bs : List Int} (h : OM W base p v bs) (hb : Below W.heap.size W W') : OM W' base p v bs := ⟨h.1, h.2.1.belowS hb, pw_own_below h.2.2 hb⟩
theorem OM.fr {W W' : World} {base p : Nat} {v v' : Value} {bs : List Int} (h : OM W base p v bs) (hr : RFr p v v' W W') : Fr base p 5 W W' := hr.fr h.1 h.2.2 (by have := h.lt; omega)
theorem OM.belowB {W W' : World} {base p : Nat} {v v' : Value} {bs : List Int} (h : OM W base p v bs) (hr : RFr p v v' W W') : Below base W W' := (h.fr hr).below
/-- another object has been written -/
theorem OM.other {W W' : World} {base p q : Nat} {v u u' : Value} {bs : List Int} (h : OM W base p v bs) (hr : RFr q u u' W W') (hne : p ≠ q) (hu : ∃ b cs, OM W b q u cs) (hd : v.ownBlock = none ∨ v.ownBlock ≠ u.ownBlock) : OM W' base p v bs := by
  obtain ⟨b, cs, hu⟩ := hu
  exact ⟨h.1, hr.blk h.2.1 hne (own_apart h.2.1 hu.2.2 (by decide)), hr.row h.2.2 (own_apart hu.2.1 h.2.2 (by decide)) hd⟩

set_option maxRecDepth 100000 in
set_option maxHeartbeats 4000000 in
theorem out_uint (W : World) (base p : Nat) (v0 : Value) (bs : List Int) (n : Nat) (hn : n < 18446744073709551616) (hsm : bs.length ≤ 1099511627776) (hM : OM W base p v0 bs) :
    Calls Try.prog 114 #[.pointer (some ⟨p, 0, none⟩), .int .u64 (n : Int)] W fun e w' => e = .returned (.tuple #[]) ∧ ∃ v', OM w' base p v' (bs ++ uv n) ∧ RFr p v0 v' W w' := by
  have hul := uv_len10 hn
  have HN := Lib.hid hn; clear hn
  obtain ⟨i0, hi0, hz0, hz1, hz2⟩ := info_parts infoB
  go_enter Try.func114, Try.ntmps114
  go_wp2_with fail
  go_loopw [1] (fun q wr => ∃ (m : Nat) (cs : List Int) (v : Value), q = .int .u64 (m : Int) ∧ m ≤ n ∧ cs ++ uv m = uv n ∧ OM wr base p v (bs ++ cs) ∧ RFr p v0 v W wr) (fun q _ => (intOf q).toNat)
  case atStart => exact ⟨n, [], v0, rfl, Nat.le_refl _, rfl, by simpa using hM, RFr.refl _ _ _⟩
  case round =>
    obtain ⟨m, cs, v, rfl, hmn, hcs, ⟨hbp, hP, hR⟩, hF1⟩ := hrel
    have c0 := hP.cell (i := 0) rfl
    have f0 := hP.frozen 0
    have hap := own_apart hP hR (by decide)
    have hlc : (bs ++ cs).length ≤ 1099511627776 + 10 := by have := congrArg List.length hcs; simp at this ⊢; omega
    by_cases hm : m < 128
    · have hm2 : (m : Int) < 128 := by omega
      go_wp2_with (at_builtin; refine wpList_append_own_at _ rfl _ _ 88 rfl base 5 i0 _ 1 1 Try.underlying88 hi0 hz0 hz1 hz2 rfl (by decide) _ _ _ rfl (hR.alloc _) ⟨wr.heap.size, 0, none⟩ 1 1 [.int .u8 (m : Int)] rfl rfl (news_blk (Blk.new wr [.int .u8 (m : Int)] 5)) (by simp [Value.oneCell']) (by unfold maxLen; omega) (by omega) (by have := hP.lt; simp; omega) ?_; intro v1 w1 hown1 hg1 _ hat1; obtain ⟨g1, cap1, rfl⟩ := ownsRow_succ hown1; have hP1 := (hP.alloc _).kept hg1 (Ne.symm hap); have c1 := hP1.cell (i := 0) rfl; have f1 := hP1.frozen 0)
      go_end0
      have hF2 := hF1.trans ((RFr.alloc p v wr (.cells #[.int .u8 (m : Int)] 5)).trans (RFr.grown p hg1 hat1))
      have e : bs ++ uv n = bs ++ cs ++ [(m : Int)] := by rw [← hcs, uv_small hm, List.append_assoc]
      rw [e]
      have hM2 := OM.store (cs := bs ++ cs ++ [(m : Int)]) hbp hP1 (by rw [nums_append]; exact hown1)
      have hF3 := hF2.setP 0 (.slice (some ⟨g1, 0, none⟩) ((bs ++ cs).length + 1) cap1)
      rw [List.length_append] at hM2 hF3
      exact ⟨rfl, _, hM2, hF3⟩
    · have hm2 : (128 : Int) ≤ m := by omega
      have hor := or128 m
      have HO := Lib.hid hor; clear hor
      go_wp2_with (at_builtin; refine wpList_append_own_at _ rfl _ _ 88 rfl base 5 i0 _ 1 1 Try.underlying88 hi0 hz0 hz1 hz2 rfl (by decide) _ _ _ rfl (hR.alloc _) ⟨wr.heap.size, 0, none⟩ 1 1 [.int .u8 (bits .or .u8 ((m : Int) % 256) 128)] rfl rfl (news_blk (Blk.new wr [.int .u8 (bits .or .u8 ((m : Int) % 256) 128)] 5)) (by simp [Value.oneCell']) (by unfold maxLen; omega) (by omega) (by have := hP.lt; simp; omega) ?_; intro v1 w1 hown1 hg1 _ hat1; obtain ⟨g1, cap1, rfl⟩ := ownsRow_succ hown1; have hP1 := (hP.alloc _).kept hg1 (Ne.symm hap); have c1 := hP1.cell (i := 0) rfl; have f1 := hP1.frozen 0)
      have hF2 := hF1.trans ((RFr.alloc p v wr (.cells #[.int .u8 (bits .or .u8 ((m : Int) % 256) 128)] 5)).trans (RFr.grown p hg1 hat1))
      have hM2 := OM.store (cs := bs ++ cs ++ [((128 + m % 128 : Nat) : Int)]) hbp hP1 (by rw [nums_append, ← HO.out]; exact hown1)
      have hF3 := hF2.setP 0 (.slice (some ⟨g1, 0, none⟩) ((bs ++ cs).length + 1) cap1)
      rw [List.length_append, List.append_assoc] at hM2
      rw [List.length_append] at hF3
      exact ⟨⟨m / 128, cs ++ [((128 + m % 128 : Nat) : Int)], _, by congr 1, by omega, by rw [List.append_assoc, List.singleton_append, ← uv_great hm]; exact hcs, hM2, hF3⟩, by simp [intOf]; omega⟩

/-- 2n, or -2n - 1, by signs -/
theorem zz_bits {m : Int} (h : -9223372036854775808 ≤ m ∧ m ≤ 9223372036854775807) : bits .xor .u64 (IntKind.u64.wrap (IntKind.u64.wrap m * 2)) (IntKind.u64.wrap (m / 9223372036854775808)) = (zz m : Int) := by
  unfold zz
  rw [IntKind.wrap_u64, IntKind.wrap_u64, IntKind.wrap_u64]
  by_cases h0 : 0 ≤ m
  · have e1 : m / 9223372036854775808 % 18446744073709551616 = 0 := by omega
    have e2 : m % 18446744073709551616 * 2 % 18446744073709551616 = 2 * m := by omega
    rw [e1, e2, if_pos h0, u64_xor0 (by omega) (by omega)]
    omega
  · have e1 : m / 9223372036854775808 % 18446744073709551616 = 18446744073709551615 := by omega
    have e2 : m % 18446744073709551616 * 2 % 18446744073709551616 = 18446744073709551616 + 2 * m := by omega
    rw [e1, e2, if_neg h0, u64_xorF (by omega) (by omega)]
    omega
set_option maxRecDepth 100000 in
set_option maxHeartbeats 4000000 in
theorem out_int (W : World) (base p : Nat) (v0 : Value) (bs : List Int) (m : Int) (hm : -9223372036854775808 ≤ m ∧ m ≤ 9223372036854775807) (hsm : bs.length ≤ 1099511627776) (hM : OM W base p v0 bs) :
    Calls Try.prog 116 #[.pointer (some ⟨p, 0, none⟩), .int .i64 m] W fun e w' => e = .returned (.tuple #[]) ∧ ∃ v', OM w' base p v' (bs ++ uv (zz m)) ∧ RFr p v0 v' W w' := by
  go_enter Try.func116, Try.ntmps116
  go_wp2_with fail
  rw [zz_bits hm]
  refine (out_uint W base p v0 bs (zz m) (zz_lt hm) hsm hM).mono ?_; rintro e w1 ⟨rfl, v1, hM1, hF1⟩
  go_wp2_with fail
  go_end0
  exact ⟨rfl, v1, hM1, hF1⟩

theorem OM.slice {W : World} {base p : Nat} {v : Value} {bs : List Int} (h : OM W base p v bs) : ∃ A c, v = .slice A bs.length c ∧ Blk W p 136 [.slice A bs.length c] ∧ W.ownsRow base 5 1 (.slice A bs.length c) bs.length (nums .u8 bs) ∧ bs.length ≤ c ∧ (Kd.int .u8).C W A bs.length bs ∧ (A = none → c = 0) := by
  obtain ⟨h1, h2, h3⟩ := h
  obtain ⟨A, c, rfl⟩ := own_slice h3
  obtain ⟨h4, _, h5⟩ := C_own h3
  refine ⟨A, c, rfl, h2, h3, h4, h5, fun e => ?_⟩
  subst e
  rcases h3.2 with ⟨h, _⟩ | ⟨g, cap, cur, h, _⟩
  · injection h
  · cases h
set_option maxRecDepth 100000 in
set_option maxHeartbeats 4000000 in
theorem clone_any (W : World) (xs : List Int) (A : Option Addr) (c : Nat) (hx : (Kd.int .u8).C W A xs.length xs) (hA0 : A = none → c = 0) (hxs : xs.length ≤ 1099511627776) :
    Calls Try.prog 117 #[.slice A xs.length c] W fun e w' => ∃ A' c', e = .returned (.slice A' xs.length c') ∧ w'.ownsRow W.heap.size 5 1 (.slice A' xs.length c') xs.length (nums .u8 xs) ∧ Below W.heap.size W w' := by
  have hq := fun (W : World) (A : Option Addr) (n c : Nat) => Lib.run_eql_slice_nil (P := Try.prog) W 88 5 A n c 0 0 Try.underlying88
  go_enter Try.func117, Try.ntmps117
  cases A with
  | none =>
    go_wp2_with fail
    go_ret
    obtain rfl : xs = [] := by
      by_cases hn : 0 < xs.length
      · obtain ⟨ad, e', _⟩ := hx.2.2 hn; cases e'
      · exact List.eq_nil_of_length_eq_zero (by omega)
    exact ⟨none, 0, rfl, World.ownsRow_nil _ _ _ _, Below.refl _ _⟩
  | some ad =>
    have ho := World.ownsRow_lit (base := W.heap.size) (e := 5) (size := 1) W #[] 0 (by simp) (by decide) rfl
    have hx1 := Kd.C_alloc hx (.cells #[] 5)
    go_wp2_with (at_builtin; refine wpList_append_nums rfl _ _ 88 rfl W.heap.size 5 .u8 1 Try.underlying88 infoB (by decide) _ _ _ rfl ho (some ad) xs c rfl hx1 (by simp) (by omega) (by simp) ?_; intro A2 c2 w2 hR2 hg2 _)
    go_ret
    simp only [Nat.zero_add, Array.toList_empty, List.nil_append] at hR2 ⊢
    exact ⟨A2, c2, rfl, hR2, ((Below.refl _ W).alloc (Nat.le_refl _) _).grown hg2 (by simp) (fun k hk => (own_typ ho k hk).1)⟩

set_option maxRecDepth 100000 in
set_option maxHeartbeats 4000000 in
theorem out_done (W : World) (base p : Nat) (v0 : Value) (bs : List Int) (hsm : bs.length ≤ 1099511627776) (hM : OM W base p v0 bs) :
    Calls Try.prog 91 #[.pointer (some ⟨p, 0, none⟩)] W fun e w' => ∃ A c, e = .returned (.slice A bs.length c) ∧ w'.ownsRow W.heap.size 5 1 (.slice A bs.length c) bs.length (nums .u8 bs) ∧ Below W.heap.size W w' := by
  obtain ⟨A1, c1, rfl, hP, hR, hlc, hC, hA0⟩ := hM.slice
  have k0 := hP.cell (i := 0) rfl
  go_enter Try.func91, Try.ntmps91
  go_wp2_with fail
  refine (clone_any W bs A1 c1 hC hA0 hsm).mono ?_; rintro e w2 ⟨A2, c2, rfl, hR2, hb2⟩
  go_wp2_with fail
  go_ret
  exact ⟨A2, c2, rfl, hR2, hb2⟩

end Go.Proofs.Ytnlhgnioedalpaa.Cod

/- layer 5: what is read: the memory; how long a whole number is. -/
set_option linter.unusedSimpArgs false
set_option linter.unusedVariables false
namespace Go.Proofs.Ytnlhgnioedalpaa.Cod
open Go.RowKit Go.Shelf Go.Proofs.YtnlhgnioedalpaaW.PrintWords Go.Proofs.Ytnlhgnioedalpaa.CodL Go.Proofs.Ytnlhgnioedalpaa.PDeltaBooks
attribute [local go_sem] Oper.semAt_some

theorem len_go (bs : List Int) (hl : bs.length ≤ 1099511627776) : ∀ (d i : Nat), i + d = bs.length → codec_length.l0 (2 * d + 2) bs (bs.length : Int) (i : Int) = some (((lenAux i (bs.drop i)).1 : Int), (lenAux i (bs.drop i)).2) := by
  intro d
  induction d with
  | zero =>
    intro i hi
    have e : bs.drop i = [] := List.drop_eq_nil_of_le (by omega)
    rw [e]
    simp only [Nat.mul_zero, Nat.zero_add, codec_length.l0]
    rw [if_neg (by omega)]
    rfl
  | succ d ih =>
    intro i hi
    have hlt : i < bs.length := by omega
    have e : bs.drop i = bs[i] :: bs.drop (i + 1) := (List.getElem_cons_drop ..).symm
    have hrd : rd bs (i : Int) = bs[i] := by simp [rd, hlt]
    rw [e, show 2 * (d + 1) + 2 = (2 * d + 2 + 1) + 1 from by omega]
    simp only [codec_length.l0]
    rw [if_pos (by omega), if_pos (by omega), if_pos (by omega), hrd]
    have hw : wrap64 ((i : Int) + 1) = ((i + 1 : Nat) : Int) := by unfold wrap64; omega
    generalize bs[i] = c
    have tail : ¬ (i = 10 ∨ (i = 9 ∧ 1 < c)) → codec_length.j1 (2 * d + 2 + 1) (i : Int) c bs (bs.length : Int) (i : Int) false = some (((lenAux i (c :: bs.drop (i + 1))).1 : Int), (lenAux i (c :: bs.drop (i + 1))).2) := fun hn => by
      simp only [codec_length.j1, lenAux]
      rw [if_neg hn, if_neg (by simp)]
      by_cases h1 : 128 ≤ c
      · rw [if_pos h1, if_pos h1, hw, ih (i + 1) (by omega)]
      · rw [if_neg h1, if_neg h1]
        by_cases h2 : c = 0
        · by_cases h3 : 0 < i
          · rw [if_pos h2, if_pos (by omega), if_pos ⟨h2, h3⟩]; rfl
          · rw [if_pos h2, if_neg (by omega), if_neg (by omega), hw]
        · rw [if_neg h2, if_neg (by omega), hw]
    by_cases h10 : i = 10
    · rw [if_pos (by omega)]
      simp only [codec_length.j1, lenAux]
      rw [if_pos trivial, if_pos (Or.inl h10 : i = 10 ∨ (i = 9 ∧ 1 < c))]
      rfl
    · rw [if_neg (by omega)]
      by_cases h9 : i = 9
      · rw [if_pos (by omega)]
        by_cases h1 : 1 < c
        · simp only [codec_length.j1, lenAux]
          rw [if_pos (show decide (c > 1) = true by simpa using h1), if_pos (Or.inr ⟨h9, h1⟩ : i = 10 ∨ (i = 9 ∧ 1 < c))]
          rfl
        · rw [show decide (c > 1) = false from by simpa using h1]
          exact tail (by omega)
      · rw [if_neg (by omega)]
        exact tail (by omega)
theorem length_any (W : World) (A : Option Addr) (c : Nat) (bs : List Int) (hl : bs.length ≤ 1099511627776) (hC : (Kd.int .u8).C W A bs.length bs) (hc : bs.length ≤ c) :
    Calls Try.prog 122 #[.slice A bs.length c] W fun e w' => e = .returned (.tuple #[.int .i64 ((lenAux 0 bs).1 : Int), .int .i64 (lenAux 0 bs).2]) ∧ ∃ m, w' = W.drewN m :=
  (codec_length.calls (2 * bs.length + 2) A c bs _ _ W hC hc (len_go bs hl bs.length 0 (by omega))).mono fun _ _ ⟨h1, h2⟩ => ⟨h1, h2.out⟩

/-- what is read: the object at p, its bytes; both lie below n₀ -/
def IM (W : World) (n₀ p : Nat) (s : St) : Prop := p < n₀ ∧ n₀ ≤ W.heap.size ∧ ∃ A c, Blk W p 168 [.slice A s.1.length c, .int .i64 s.2] ∧ s.1.length ≤ c ∧ (A = none → c = 0) ∧ (Kd.int .u8).C W A s.1.length s.1 ∧ (∀ ad, A = some ad → ad.block < n₀ ∧ ad.block ≠ p)
theorem IM.grown {W W' : World} {n₀ p : Nat} {s : St} {row : Option Nat} (h : IM W n₀ p s) (hg : W.grownBy W' row) (hr : ∀ r, row = some r → n₀ ≤ r) : IM W' n₀ p s := by
  obtain ⟨h1, h2, A, c, h3, h4, h5, h6, h7⟩ := h
  have hlt : ∀ b, b < n₀ → W'.heap[b]? = W.heap[b]? := fun b hb => hg.block b (by omega) (fun e => by have := hr b e.symm; omega)
  refine ⟨h1, Nat.le_trans h2 hg.size, A, c, (hlt p h1).trans h3, h4, h5, ⟨rfl, h6.2.1, fun hn => ?_⟩, h7⟩
  obtain ⟨ad, e, hc⟩ := h6.2.2 hn
  refine ⟨ad, e, fun j x hx => ?_⟩
  obtain ⟨cs, k1, k2, k3⟩ := hc j x hx
  refine ⟨cs, k1, k2, fun i u hu => ?_⟩
  have hb := (h7 ad e).1
  have hb' : (ad.add (j * (Kd.int .u8).sz + i)).block < n₀ := by unfold Addr.add; split <;> exact hb
  have := k3 i u hu
  unfold World.cell? at this ⊢
  rw [hlt _ hb']
  exact this
theorem IM.below {W W' : World} {n₀ p : Nat} {s : St} (h : IM W n₀ p s) (hb : Below n₀ W W') : IM W' n₀ p s := by
  obtain ⟨h1, h2, A, c, h3, h4, h5, h6, h7⟩ := h
  refine ⟨h1, Nat.le_trans h2 hb.size, A, c, (hb.block p h1).trans h3, h4, h5, ⟨rfl, h6.2.1, fun hn => ?_⟩, h7⟩
  obtain ⟨ad, e, hc⟩ := h6.2.2 hn
  refine ⟨ad, e, fun j x hx => ?_⟩
  obtain ⟨cs, k1, k2, k3⟩ := hc j x hx
  refine ⟨cs, k1, k2, fun i u hu => ?_⟩
  have hb1 := (h7 ad e).1
  have hb' : (ad.add (j * (Kd.int .u8).sz + i)).block < n₀ := by unfold Addr.add; split <;> exact hb1
  rw [hb.cell hb']
  exact k3 i u hu
theorem grown_trans {A B C : World} {r : Option Nat} (h : A.grownBy B r) (k : B.grownBy C r) : A.grownBy C r :=
  ⟨k.os.trans h.os, k.tape.trans h.tape, k.output.trans h.output, Nat.le_trans h.size k.size, fun b hb hne => (k.block b (Nat.lt_of_lt_of_le hb h.size) hne).trans (h.block b hb hne)⟩
theorem grown_drewN (W : World) (m : Nat) (r : Option Nat) : W.grownBy (W.drewN m) r := ⟨rfl, rfl, rfl, Nat.le_refl _, fun _ _ _ => rfl⟩

set_option maxRecDepth 100000 in
set_option maxHeartbeats 4000000 in
theorem in_err (W : World) (n₀ p : Nat) (s : St) (hM : IM W n₀ p s) : Calls Try.prog 108 #[.pointer (some ⟨p, 0, none⟩)] W fun e w' => e = .returned (.int .i64 s.2) ∧ W = w' := by
  obtain ⟨h1, h2, A, c, hP, _⟩ := hM
  have k1 := hP.cell (i := 1) rfl
  clear hP
  go_enter Try.func108, Try.ntmps108
  go_wp2_with fail
  go_ret
  exact ⟨rfl, rfl⟩
set_option maxRecDepth 100000 in
set_option maxHeartbeats 4000000 in
theorem in_left (W : World) (n₀ p : Nat) (s : St) (hM : IM W n₀ p s) : Calls Try.prog 109 #[.pointer (some ⟨p, 0, none⟩)] W fun e w' => e = .returned (.int .i64 (s.1.length : Int)) ∧ W = w' := by
  obtain ⟨h1, h2, A, c, hP, _⟩ := hM
  have k0 := hP.cell (i := 0) rfl
  clear hP
  go_enter Try.func109, Try.ntmps109
  go_wp2_with fail
  go_ret
  exact ⟨rfl, rfl⟩

/-- the object is written: the row of its bytes is another one, or none -/
theorem IM.set {W : World} {n₀ p : Nat} {s : St} {A : Option Addr} {c : Nat} {t : St} (h1 : p < n₀) (h2 : n₀ ≤ W.heap.size) (hP : Blk W p 168 [.slice A t.1.length c, .int .i64 t.2]) (h4 : t.1.length ≤ c) (h5 : A = none → c = 0) (h6 : (Kd.int .u8).C W A t.1.length t.1) (h7 : ∀ ad, A = some ad → ad.block < n₀ ∧ ad.block ≠ p) : IM W n₀ p t :=
  ⟨h1, h2, A, c, hP, h4, h5, h6, h7⟩
set_option maxRecDepth 100000 in
set_option maxHeartbeats 4000000 in
theorem in_fail (W : World) (n₀ p : Nat) (s : St) (x : Int) (hM : IM W n₀ p s) : Calls Try.prog 110 #[.pointer (some ⟨p, 0, none⟩), .int .i64 x] W fun e w' => e = .returned (.tuple #[]) ∧ IM w' n₀ p (failS s x) ∧ W.grownBy w' (some p) := by
  obtain ⟨h1, h2, A, c, hP, h4, h5, h6, h7⟩ := hM
  have k0 := hP.cell (i := 0) rfl
  have k1 := hP.cell (i := 1) rfl
  have f0 := hP.frozen 0
  have f1 := hP.frozen 1
  by_cases he : s.2 = 0
  · have g1 := hP.set 1 (.int .i64 x)
    have d0 := g1.cell (i := 0) rfl
    have e0 := g1.frozen 0
    have hF : failS s x = ([], x) := by simp [failS, he]
    have HF := Lib.hid hF; clear hF
    have hb : (s.2 == 0) = true := by simp [he]
    go_enter Try.func110, Try.ntmps110
    go_wp2_with fail
    go_end0
    rw [HF.out]
    exact ⟨rfl, ⟨h1, by simpa using h2, none, 0, g1.set 0 _, Nat.le_refl _, fun _ => rfl, Kd.C_nil _ _, fun _ h => by cases h⟩, grown_trans (grownBy_setAt W p 1 _) (grownBy_setAt _ p 0 _)⟩
  · have hF : failS s x = ([], s.2) := by simp [failS, he]
    have HF := Lib.hid hF; clear hF
    have hb : (s.2 == 0) = false := by simp [he]
    go_enter Try.func110, Try.ntmps110
    go_wp2_with fail
    go_end0
    rw [HF.out]
    exact ⟨rfl, ⟨h1, by simpa using h2, none, 0, hP.set 0 _, Nat.le_refl _, fun _ => rfl, Kd.C_nil _ _, fun _ h => by cases h⟩, grownBy_setAt W p 0 _⟩

end Go.Proofs.Ytnlhgnioedalpaa.Cod

/- layer 5: a whole number is read. -/
set_option linter.unusedSimpArgs false
set_option linter.unusedVariables false
namespace Go.Proofs.Ytnlhgnioedalpaa.Cod
open Go.RowKit Go.Shelf Go.Proofs.YtnlhgnioedalpaaW.PrintWords Go.Proofs.Ytnlhgnioedalpaa.CodL
attribute [local go_sem] Oper.semAt_some

/-- the first bytes are behind: where the row has room, or none -/
theorem im_drop {W : World} {n₀ p b off c k : Nat} {bs : List Int} (h1 : p < n₀) (h2 : n₀ ≤ W.heap.size) (hP : Blk W p 168 [.slice (some ⟨b, off, none⟩) bs.length c, .int .i64 0]) (h4 : bs.length ≤ c) (h6 : (Kd.int .u8).C W (some ⟨b, off, none⟩) bs.length bs) (h7 : b < n₀ ∧ b ≠ p) (hk : k ≤ bs.length) (off' c' : Nat) (ho : (off' = off + k ∧ c' = c - k) ∨ (c = k ∧ c' = 0)) :
    IM (W.setCell ⟨p, 0, none⟩ (.slice (some ⟨b, off', none⟩) (bs.length - k) c')) n₀ p (bs.drop k, 0) := by
  have e : (bs.drop k).length = bs.length - k := List.length_drop
  have hP2 := hP.set 0 (.slice (some ⟨b, off', none⟩) (bs.length - k) c')
  refine ⟨h1, by simpa using h2, some ⟨b, off', none⟩, c', by rw [e]; exact hP2, by rw [e]; omega, by simp, C_mk (by rw [e]; have := h6.2.1; omega) (fun j x hx => ?_), fun ad e => by cases e; exact h7⟩
  have hj := (List.getElem?_eq_some_iff.1 hx).1
  rw [e] at hj
  rw [List.getElem?_drop] at hx
  rcases ho with ⟨rfl, rfl⟩ | ⟨rfl, rfl⟩
  · obtain ⟨b', off'', e', _, hcell⟩ := C_row h6 (by omega)
    cases e'
    have := hcell _ _ hx
    unfold World.cell? at this ⊢
    rw [Below.heap_setCell W ⟨p, 0, none⟩ _ b h7.2, Nat.add_assoc]
    exact this
  · omega

set_option maxRecDepth 100000 in
set_option maxHeartbeats 4000000 in
theorem in_uint_ok (W : World) (n₀ p : Nat) (bs : List Int) (hb : ∀ x ∈ bs, 0 ≤ x ∧ x < 256) (hl : bs.length ≤ 1099511627776) (hM : IM W n₀ p (bs, 0)) (h0 : (lenAux 0 bs).2 = 0) :
    Calls Try.prog 111 #[.pointer (some ⟨p, 0, none⟩)] W fun e w' => e = .returned (.int .u64 (val (bs.take (lenAux 0 bs).1) : Int)) ∧ IM w' n₀ p (bs.drop (lenAux 0 bs).1, 0) ∧ W.grownBy w' (some p) := by
  obtain ⟨h1, h2, A, c, hP, h4, h5, h6, h7⟩ := hM
  dsimp only at hP h4 h6
  have k0 := hP.cell (i := 0) rfl
  have k1 := hP.cell (i := 1) rfl
  have f0 := hP.frozen 0
  obtain ⟨q1, q2, q3, q4⟩ := lenAux_ok bs 0 (by omega) h0
  have hlen := length_any W A c bs hl h6 h4
  rw [h0] at hlen
  obtain ⟨n, hn⟩ : ∃ n, (lenAux 0 bs).1 = n := ⟨_, rfl⟩
  rw [hn] at hlen q1 q2 q3 q4 ⊢
  have hvs := fun i hi hil => val_step (i := i) hb h0 hn hi hil
  have HN := Lib.hid hn; clear hn
  have H0 := Lib.hid h0; clear h0
  have HL := Lib.hid hlen; clear hlen
  have hc1 : (n : Int) ≤ (bs.length : Int) := by omega
  have hc2 : (bs.length : Int) ≤ (c : Int) := by omega
  have hc3 : (n : Int) ≤ (c : Int) := by omega
  have hc4 : (bs.length : Int) ≤ 1099511627776 := by omega
  have hc5 : (n : Int) ≤ 10 := by omega
  have hc6 : (0 : Int) ≤ (n : Int) := by omega
  obtain ⟨b, off, rfl, hbl, hcell⟩ := C_row h6 (by omega)
  have h7b := h7 _ rfl
  go_enter Try.func111, Try.ntmps111
  go_wp2_with fail
  refine HL.out.mono ?_; rintro e w1 ⟨rfl, m1, rfl⟩
  go_wp2_with fail
  go_loop [5, 33] (fun o i => ∃ k : Nat, k ≤ n ∧ i = .int .i64 (k : Int) ∧ o = .int .u64 (val (bs.take k) : Int)) (fun _ i => (n - (intOf i).toNat))
  case atStart => exact ⟨0, Nat.zero_le _, rfl, rfl⟩
  case round =>
    obtain ⟨k, hk, rfl, rfl⟩ := hrel
    by_cases hin : k < n
    · have hil : k < bs.length := by omega
      obtain ⟨v1, v2, v3, v4⟩ := hvs k hin hil
      have hcl := hcell k bs[k] (List.getElem?_eq_getElem hil)
      have hbk := hb bs[k] (List.getElem_mem hil)
      have HV := Lib.hid v1; clear v1 hvs hcell q4
      generalize hx : bs[k] = x at *
      have HX := Lib.hid hx; clear hx
      generalize hy : val (bs.take k) = y at *
      have HY := Lib.hid hy; clear hy
      have k0' : (0 : Int) ≤ (k : Int) := by omega
      have k1' : (k : Int) < (n : Int) := by omega
      have k2' : (k : Int) ≤ 10 := by omega
      have hx0 := hbk.1
      have hx1 := hbk.2
      go_wp2_with fail
      refine ⟨⟨k + 1, by omega, by go_num, ?_⟩, by simp [intOf]; omega⟩
      rw [u64_or_shl hx0 hx1 v2 v3 v4, HV.out]
    · obtain rfl : k = n := by omega
      have hmt := Kd.C_below h6 (pw_below_drewN (Below.refl _ W) m1)
      clear hvs q4 hcell
      have k0' : (W.drewN m1).cell? ⟨p, 0, none⟩ = some (.slice (some ⟨b, off, none⟩) bs.length c) := k0
      have f0' : (W.drewN m1).frozen? ⟨p, 0, none⟩ = false := f0
      go_wp2_with fail
      all_goals
        go_ret
        exact ⟨rfl, im_drop (W := W.drewN m1) h1 h2 hP h4 hmt h7b (by omega) _ _ (by first | exact .inl ⟨rfl, rfl⟩ | exact .inr ⟨by omega, rfl⟩), grown_trans (grown_drewN W m1 _) (grownBy_setAt _ p 0 _)⟩

set_option maxRecDepth 100000 in
set_option maxHeartbeats 4000000 in
theorem in_uint_bad (W : World) (n₀ p : Nat) (bs : List Int) (hl : bs.length ≤ 1099511627776) (hM : IM W n₀ p (bs, 0)) (h0 : (lenAux 0 bs).2 ≠ 0) :
    Calls Try.prog 111 #[.pointer (some ⟨p, 0, none⟩)] W fun e w' => e = .returned (.int .u64 0) ∧ IM w' n₀ p (failS (bs, 0) (lenAux 0 bs).2) ∧ W.grownBy w' (some p) := by
  have hM0 := Lib.hid hM
  obtain ⟨h1, h2, A, c, hP, h4, h5, h6, h7⟩ := hM
  dsimp only at hP h4 h6
  have k0 := hP.cell (i := 0) rfl
  have k1 := hP.cell (i := 1) rfl
  have hlen := length_any W A c bs hl h6 h4
  obtain ⟨r, hr⟩ : ∃ r, (lenAux 0 bs).2 = r := ⟨_, rfl⟩
  rw [hr] at hlen h0 ⊢
  have HL := Lib.hid hlen; clear hlen
  have hrb : (r == 0) = false := by simpa using h0
  clear h0 hP h6
  go_enter Try.func111, Try.ntmps111
  go_wp2_with fail
  refine HL.out.mono ?_; rintro e w1 ⟨rfl, m1, rfl⟩
  go_wp2_with fail
  refine (in_fail (W.drewN m1) n₀ p (bs, 0) r (hM0.out.grown (grown_drewN W m1 none) (by simp))).mono ?_; rintro e w2 ⟨rfl, hM2, hg2⟩
  go_wp2_with fail
  go_ret
  exact ⟨rfl, hM2, grown_trans (grown_drewN W m1 _) hg2⟩

set_option maxRecDepth 100000 in
set_option maxHeartbeats 4000000 in
theorem in_uint_err (W : World) (n₀ p : Nat) (s : St) (hM : IM W n₀ p s) (h0 : s.2 ≠ 0) :
    Calls Try.prog 111 #[.pointer (some ⟨p, 0, none⟩)] W fun e w' => e = .returned (.int .u64 0) ∧ W = w' := by
  obtain ⟨h1, h2, A, c, hP, h4, h5, h6, h7⟩ := hM
  have k1 := hP.cell (i := 1) rfl
  have hrb : (s.2 == 0) = false := by simpa using h0
  clear h0 hP h6
  go_enter Try.func111, Try.ntmps111
  go_wp2_with fail
  go_ret
  exact ⟨rfl, rfl⟩

/-- a whole number is read -/
theorem in_uint (W : World) (n₀ p : Nat) (s : St) (hb : ∀ x ∈ s.1, 0 ≤ x ∧ x < 256) (hl : s.1.length ≤ 1099511627776) (hM : IM W n₀ p s) :
    Calls Try.prog 111 #[.pointer (some ⟨p, 0, none⟩)] W fun e w' => e = .returned (.int .u64 ((takeU s).2 : Int)) ∧ IM w' n₀ p (takeU s).1 ∧ W.grownBy w' (some p) := by
  obtain ⟨bs, x⟩ := s
  by_cases hx : x = 0
  · subst hx
    by_cases h0 : (lenAux 0 bs).2 = 0
    · have e : takeU (bs, 0) = ((bs.drop (lenAux 0 bs).1, 0), val (bs.take (lenAux 0 bs).1)) := by unfold takeU; rw [if_pos rfl, if_pos h0]
      rw [e]
      exact in_uint_ok W n₀ p bs hb hl hM h0
    · have e : takeU (bs, 0) = (failS (bs, 0) (lenAux 0 bs).2, 0) := by unfold takeU; rw [if_pos rfl, if_neg h0]
      rw [e]
      exact in_uint_bad W n₀ p bs hl hM h0
  · have e : takeU (bs, x) = ((bs, x), 0) := by unfold takeU; rw [if_neg hx]
    rw [e]
    exact (in_uint_err W n₀ p (bs, x) hM hx).mono fun _ _ ⟨h1, h2⟩ => by subst h2; exact ⟨h1, hM, ⟨rfl, rfl, rfl, Nat.le_refl _, fun _ _ _ => rfl⟩⟩

end Go.Proofs.Ytnlhgnioedalpaa.Cod

/- layer 5: numbers with a sign, bytes, all bytes. -/
set_option linter.unusedSimpArgs false
set_option linter.unusedVariables false
namespace Go.Proofs.Ytnlhgnioedalpaa.Cod
open Go.RowKit Go.Shelf Go.Proofs.YtnlhgnioedalpaaW.PrintWords Go.Proofs.Ytnlhgnioedalpaa.CodL
attribute [local go_sem] Oper.semAt_some

theorem zb_bits {n : Nat} (h : n < 18446744073709551616) : bits .xor .i64 (wrap64 ((n : Int) / 2)) (wrap64 (-wrap64 (bits .and .u64 (n : Int) 1))) = zb n := by
  rw [u64_and1 n h]
  have e1 : wrap64 ((n : Int) / 2) = ((n / 2 : Nat) : Int) := by unfold wrap64; omega
  rw [e1]
  unfold zb
  by_cases h2 : n % 2 = 0
  · rw [if_pos h2, h2]
    have e2 : wrap64 (-wrap64 ((0 : Nat) : Int)) = 0 := by unfold wrap64; omega
    rw [e2, i64_xor0 (by omega) (by omega)]
  · rw [if_neg h2, show n % 2 = 1 from by omega]
    have e2 : wrap64 (-wrap64 ((1 : Nat) : Int)) = -1 := by unfold wrap64; omega
    rw [e2, i64_xorF (by omega) (by omega)]
set_option maxRecDepth 100000 in
set_option maxHeartbeats 4000000 in
theorem in_int (W : World) (n₀ p : Nat) (s : St) (hb : ∀ x ∈ s.1, 0 ≤ x ∧ x < 256) (hl : s.1.length ≤ 1099511627776) (hM : IM W n₀ p s) :
    Calls Try.prog 112 #[.pointer (some ⟨p, 0, none⟩)] W fun e w' => e = .returned (.int .i64 (takeI s).2) ∧ IM w' n₀ p (takeI s).1 ∧ W.grownBy w' (some p) := by
  have hlt := takeU_lt hb
  have hz := zb_bits hlt
  have HZ := Lib.hid hz; clear hz
  have HT := Lib.hid hlt; clear hlt
  have hn0 : (0 : Int) ≤ ((takeU s).2 : Int) := by omega
  go_enter Try.func112, Try.ntmps112
  go_wp2_with fail
  refine (in_uint W n₀ p s hb hl hM).mono ?_; rintro e w1 ⟨rfl, hM1, hg1⟩
  go_wp2_with fail
  go_ret
  rw [HZ.out]
  exact ⟨rfl, hM1, hg1⟩

set_option maxRecDepth 100000 in
set_option maxHeartbeats 4000000 in
theorem from_any (W : World) (bs : List Int) (A : Option Addr) (c : Nat) (hx : (Kd.int .u8).C W A bs.length bs) (hA0 : A = none → c = 0) (hl : bs.length ≤ 1099511627776) :
    Calls Try.prog 106 #[.slice A bs.length c] W fun e w' => ∃ p, W.heap.size ≤ p ∧ e = .returned (.pointer (some ⟨p, 0, none⟩)) ∧ IM w' w'.heap.size p (bs, 0) ∧ Below W.heap.size W w' := by
  go_enter Try.func106, Try.ntmps106
  go_wp2_with fail
  refine (clone_any W bs A c hx hA0 hl).mono ?_; rintro e w1 ⟨A1, c1, rfl, hR, hB⟩
  go_wp2_with fail
  go_ret
  obtain ⟨h4, _, h6⟩ := C_own hR
  have hbA : ∀ ad, A1 = some ad → ad.block < w1.heap.size := by
    intro ad e
    subst e
    rcases hR.2 with ⟨h, _⟩ | ⟨g, cap, cur, h, _, hg, _⟩
    · cases h
    · injection h with h1 h2 h3
      cases h1
      exact (Array.getElem?_eq_some_iff.1 hg).1
  refine ⟨_, hB.size, rfl, ⟨by simp, Nat.le_refl _, A1, c1, Blk.new w1 _ _, h4, fun e => ?_, Kd.C_alloc h6 _, fun ad e => ?_⟩, hB.alloc hB.size _⟩
  · subst e
    rcases hR.2 with ⟨h, _⟩ | ⟨g, cap, cur, h, _⟩
    · injection h
    · cases h
  · have := hbA ad e
    rw [World.size_alloc]
    omega

end Go.Proofs.Ytnlhgnioedalpaa.Cod
