/- price: the law's play: a store and the document's entries behind rows of puts and rises. -/
import Derived.Test.YtnlhgnioedalpaaPriR
import Derived.Test.YtnlhgnioedalpaaPriceGrows
import Derived.Deep.DeepCutAuto
set_option linter.unusedSimpArgs false
set_option linter.unusedVariables false
namespace Go.Proofs.Ytnlhgnioedalpaa.Pri
open Go.RowKit Go.Proofs.YtnlhgnioedalpaaW.PrintWords Go.Proofs.Ytnlhgnioedalpaa.PPricePlays
attribute [local go_sem] Oper.semAt_some

/-- the document's row, of the call's own -/
def RX (W : World) (b : Nat) (v : Value) (l : List En) : Prop := Kd.R k41 tE W b (fun k => v.ownBlock = some k) v (l.map toE)
theorem k41_flat {W : World} {b : Nat} {ok1 ok2 : Nat → Prop} {x : S41} {cs : List Value} (h : k41.M W b ok1 x cs) : k41.M W b ok2 x cs := by
  obtain ⟨_, _, rfl, rfl, rfl⟩ := h
  exact k41_mkM W b ok2 x
theorem RX.of {W : World} {b : Nat} {ok : Nat → Prop} {v : Value} {l : List En} (h : Kd.R k41 tE W b ok v (l.map toE)) : RX W b v l := Kd.R_flat k41_flat h (fun k hk _ => hk)
theorem RX.lt {W : World} {b : Nat} {v : Value} {l : List En} (h : RX W b v l) {k : Nat} (hk : v.ownBlock = some k) : k < W.heap.size := ((Kd.R_bound h).1 k hk).2.2.1
theorem RX.pe {W : World} {b : Nat} {v : Value} {l : List En} (h : RX W b v l) : PE W v l := pe_R h
theorem RX.nil (W : World) (b : Nat) (hb : b ≤ W.heap.size) : RX (W.alloc (.cells #[] tE)) b (.slice (some ⟨W.heap.size, 0, none⟩) 0 0) [] :=
  ⟨fun k hk => hk, [], World.ownsRow_lit (base := b) (e := tE) (size := 2) W #[] 0 hb (by decide) rfl, Reps.none _ _⟩
/-- a store that holds l and the document's row that holds m, apart -/
structure PX (W0 : World) (p : Nat) (l m : List En) (vx : Value) (W : World) : Prop where
  s : SR W p l
  x : RX W W0.heap.size vx m
  off : ∀ v, Blk W p tS [v] → ∀ k, v.ownBlock = some k → k < W.heap.size ∧ vx.ownBlock ≠ some k
  bel : Below W0.heap.size W0 W
  new : W0.heap.size ≤ p
theorem PX.below {W0 : World} {p : Nat} {l m : List En} {vx : Value} {A B : World} (h : PX W0 p l m vx A) (hb : Below A.heap.size A B) : PX W0 p l m vx B :=
  ⟨h.s.below hb, Kd.R_below h.x hb, fun v hv k hk => by
    have := h.off v ((hb.block p h.s.pr.lt).symm.trans hv) k hk
    exact ⟨Nat.lt_of_lt_of_le this.1 hb.size, this.2⟩, h.bel.trans (hb.mono h.bel.size), h.new⟩
theorem PX.store {W0 : World} {p : Nat} {l l' m : List En} {vx : Value} {A B : World} (h : PX W0 p l m vx A) (hs : SR B p l') (hg : A.grownBy B (some p)) (hn : NF A B p) : PX W0 p l' m vx B := by
  obtain ⟨v0, hb0, _⟩ := h.s.pr
  have hne : ∀ k, vx.ownBlock = some k → some k ≠ some p := fun k hk e => by
    injection e with e
    subst e
    exact Kd.R_ne h.x hb0 (by decide) hk.symm
  refine ⟨hs, Kd.R_grown h.x hg (fun k hk => hne k hk), fun v hv k hk => ?_, h.bel.grown hg h.bel.size (fun r e => by cases e; exact h.new), h.new⟩
  rcases hn v hv with h1 | h1
  · exact ⟨(h1 k hk).2, fun e => by have := h.x.lt e; have := (h1 k hk).1; omega⟩
  · have := h.off v h1 k hk
    exact ⟨Nat.lt_of_lt_of_le this.1 hg.size, this.2⟩
theorem PE.kept {A B : World} {v : Value} {l : List En} {P0 : Nat → Prop} (h : PE A v l) (hk : Kept A B P0) (hv : ∀ k, v.ownBlock = some k → ¬ P0 k) : PE B v l := by
  have hat := fun j q (hj : l[j]? = some q) => h.at hj
  obtain ⟨a, c, rfl, h1, h2, h3⟩ := h
  refine ⟨a, c, rfl, h1, h2, h3.1, h3.2.1, fun hpos => ?_⟩
  obtain ⟨a, rfl, hr⟩ := h3.2.2 hpos
  obtain ⟨b', off, c', e, hlt, _, _⟩ := hat 0 _ (List.getElem?_eq_getElem (by simpa using hpos))
  injection e with e _ _
  injection e with e
  subst e
  refine ⟨_, rfl, fun j q hq => ?_⟩
  obtain ⟨cs, hl, hkk, hc⟩ := hr j q hq
  obtain rfl := k41_open hkk
  refine ⟨_, hl, k41_mk B q, fun i u hu => ?_⟩
  have hcu := hc i u hu
  rw [addr_add] at hcu ⊢
  have e : B.cell? ⟨b', off + (j * k41.sz + i), none⟩ = A.cell? ⟨b', off + (j * k41.sz + i), none⟩ := by
    unfold World.cell?
    rw [hk.2 _ hlt (hv b' rfl)]
  rw [e]; exact hcu
theorem PX.doc {W0 : World} {p : Nat} {l m m' : List En} {vx v0 : Value} {A B : World} (h : PX W0 p l m vx A) (hR : Kd.R k41 tE B W0.heap.size (fun k => vx.ownBlock = some k ∨ A.heap.size ≤ k) v0 (m'.map toE)) (hB : Below W0.heap.size W0 B) (hK : Kept A B (fun k => vx.ownBlock = some k)) : PX W0 p l m' v0 B := by
  obtain ⟨u, hb, hpe⟩ := h.s.pr
  have hnp : ¬ vx.ownBlock = some p := fun hk => Kd.R_ne h.x hb (by decide) hk.symm
  have hbB : Blk B p tS [u] := (hK.2 p hb.lt hnp).trans hb
  refine ⟨⟨⟨u, hbB, hpe.kept hK (fun k hk => (h.off u hb k hk).2)⟩, h.s.ue, h.s.ti, h.s.len⟩, RX.of hR, fun v hv k hk => ?_, hB, h.new⟩
  obtain rfl : v = u := by
    have := (hv.inj hbB).2
    injection this
  have h2 := h.off v hb k hk
  refine ⟨Nat.lt_of_lt_of_le h2.1 hK.1, fun e => ?_⟩
  rcases hR.1 k e with h3 | h3
  · exact h2.2 h3
  · omega
/-- what is there behind k rounds -/
def plS (es : List En) (rs : List Int) (n : Int) (l : List En) (k : Nat) : List En :=
  let l1 := if k < es.length then putP l (es.getD k dE).1 (es.getD k dE).2 else l
  if k < rs.length then riseL l1 (rs.getD k 0) n else l1
def plL (es : List En) (rs : List Int) (n : Int) (k : Nat) : List En := (List.range k).foldl (plS es rs n) []
theorem plL_succ (es : List En) (rs : List Int) (n : Int) (k : Nat) : plL es rs n (k + 1) = plS es rs n (plL es rs n k) k := by
  unfold plL
  rw [List.range_succ, List.foldl_append]
  rfl
theorem rise_len (l : List En) (s n : Int) : (riseL l s n).length ≤ l.length + 1 := by
  unfold riseL
  split
  · exact put_len ..
  · omega
theorem rise_put (l : List En) (s n : Int) : riseL l s n = if 1 ≤ n ∧ n ≤ 1099511627776 then putP l s (askL l s + n) else l := by
  unfold riseL riseOk
  by_cases h : 1 ≤ n ∧ n ≤ 1099511627776
  · rw [if_pos h, decide_eq_true h.1, decide_eq_true h.2, Bool.true_and, Bool.true_and]
    cases ho : okP l s (askL l s + n) with
    | true => rfl
    | false => rw [if_neg (by decide), put_no ho]
  · rw [if_neg h, if_neg]
    intro h2
    simp only [Bool.and_eq_true, decide_eq_true_eq] at h2
    exact h h2.1
theorem UE.rise {l : List En} (h : UE l) {s : Int} (hs : U s) (n : Int) : UE (riseL l s n) := by
  unfold riseL
  split
  · exact h.put hs _
  · exact h
theorem Tight.rise {l : List En} (h : Tight l) {s : Int} (hs : U s) (n : Int) : Tight (riseL l s n) := by
  unfold riseL
  split
  · exact h.put hs _
  · exact h
/-- Rise, told of a store of puts -/
theorem srise_any (W : World) (p : Nat) (l : List En) (s n : Int) (h : SR W p l) (hs : U s) (hl : l.length < 100000000) :
    Calls Try.prog 56 #[.pointer (some ⟨p, 0, none⟩), .int .u64 s, .int .i64 n] W fun e w' => e = .returned (.tuple #[.int .i64 (riseN l s n), .bool (riseOk l s n)]) ∧ SR w' p (riseL l s n) ∧ W.grownBy w' (some p) ∧ NF W w' p :=
  (rise_anyF W p l s n h hs).mono fun e w' ⟨a, b, c, d⟩ => ⟨a, ⟨b, h.ue.rise hs n, h.ti.rise hs n, by have := rise_len l s n; omega⟩, c, d⟩
theorem sput_anyG (W : World) (p : Nat) (l : List En) (s a : Int) (h : SR W p l) (hs : U s) (hl : l.length < 100000000) :
    Calls Try.prog 25 #[.pointer (some ⟨p, 0, none⟩), .int .u64 s, .int .i64 a] W fun e w' => e = .returned (.bool (okP l s a)) ∧ SR w' p (putP l s a) ∧ W.grownBy w' (some p) ∧ NF W w' p :=
  (sput_anyF W p l s a h hs).mono fun e w' ⟨x, y, z, n⟩ => ⟨x, h.put hs y hl, z, n⟩
/-- the document's Put, told of the pair -/
theorem rput_c {W0 : World} {p : Nat} {l m : List En} {vx : Value} (W : World) (h : PX W0 p l m vx W) (s a : Int) (hU : UE m) (hs : U s) (hl : m.length ≤ 1000000) :
    Calls Try.prog 57 #[vx, .int .u64 s, .int .i64 a] W fun e w' => ∃ v0, e = .returned (.tuple #[v0, .bool (okP m s a)]) ∧ PX W0 p l (putP m s a) v0 w' :=
  (rput_any W0 W vx m s a _ h.bel h.x hU hs (by omega)).mono fun e w' ⟨v0, x, y, z, k⟩ => ⟨v0, x, h.doc y z k⟩
theorem px_start (W : World) : PX W W.heap.size [] [] (.slice (some ⟨W.heap.size + 1, 0, none⟩) 0 0) ((W.alloc (.cells #[.slice none 0 0] tS)).alloc (.cells #[] tE)) := by
  have hal : Below (W.alloc (.cells #[.slice none 0 0] tS)).heap.size (W.alloc (.cells #[.slice none 0 0] tS)) ((W.alloc (.cells #[.slice none 0 0] tS)).alloc (.cells #[] tE)) := (Below.refl _ _).alloc (Nat.le_refl _) _
  have hx := RX.nil (W.alloc (.cells #[.slice none 0 0] tS)) W.heap.size (by simp)
  rw [World.size_alloc] at hx
  refine ⟨(sr_nil W).below hal, hx, fun v hv k hk => ?_, ((Below.refl _ W).alloc (Nat.le_refl _) _).alloc (by simp) _, Nat.le_refl _⟩
  have hb := (Blk.new W [.slice none 0 0] tS).belowS hal
  have := (hv.inj hb).2
  injection this with e
  subst e
  cases hk
set_option maxHeartbeats 8000000 in
set_option maxRecDepth 100000 in
theorem play_any (W : World) (v : Value) (es : List En) (h : PE W v es) (hU : UE es) (hl : es.length ≤ 60) (A : Option Addr) (c : Nat) (xs : List Int) (hC : (Kd.int .u64).C W A xs.length xs) (hxs : ∀ x ∈ xs, U x) (hl2 : xs.length ≤ 60) (n : Int) :
    Calls Try.prog 15 #[v, .slice A xs.length c, .int .i64 n] W fun e w' => ∃ p vx, e = .returned (.tuple #[.pointer (some ⟨p, 0, none⟩), vx, .bool true]) ∧ PX W p (plL es xs n (max es.length xs.length)) (plL es xs n (max es.length xs.length)) vx w' ∧ (plL es xs n (max es.length xs.length)).length ≤ 200 := by
  have H := Lib.hid h; have HC := Lib.hid hC
  obtain ⟨A1, c1, rfl, -⟩ := h
  have HS := Lib.hid (px_start W)
  clear hC
  go_enter Try.func15, Try.ntmps15
  go_wp2_with fail
  go_loopw [10, 11] (fun o i wr => ∃ k : Nat, k ≤ max es.length xs.length ∧ i = .int .i64 (k : Int) ∧ PX W W.heap.size (plL es xs n k) (plL es xs n k) o wr ∧ (plL es xs n k).length ≤ 2 * k) (fun _ i _ => max es.length xs.length - (intOf i).toNat)
  case atStart => exact ⟨0, Nat.zero_le _, rfl, HS.out, by simp [plL]⟩
  case round =>
    clear HS
    obtain ⟨k, hk, rfl, hP, hlen⟩ := hrel
    by_cases he : k < es.length
    · obtain ⟨⟨x, y⟩, hx⟩ : ∃ x, es[k] = x := ⟨_, rfl⟩
      have hx2 : es[k]? = some (x, y) := by rw [List.getElem?_eq_getElem he, hx]
      have hgd : es.getD k dE = (x, y) := by rw [List.getD_eq_getElem?_getD, hx2]; rfl
      have hux : U x := hU _ (List.mem_of_getElem? hx2)
      obtain ⟨b3, off3, c4, e1, hb3, r0, r1⟩ := H.out.at hx2
      obtain ⟨rfl, rfl⟩ : A1 = some ⟨b3, off3, none⟩ ∧ c1 = c4 := by injection e1 with e1 e2 e3; exact ⟨e1, e3⟩
      simp only at r0 r1
      obtain ⟨l, hle⟩ : ∃ l, plL es xs n k = l := ⟨_, rfl⟩
      have hpl := plL_succ es xs n k
      unfold plS at hpl
      rw [hle, if_pos he, hgd] at hpl
      rw [hle] at hP hlen
      simp only at hpl
      obtain ⟨o, ho⟩ : ∃ o, okP l x y = o := ⟨_, rfl⟩
      obtain ⟨l1, hl1⟩ : ∃ l1, putP l x y = l1 := ⟨_, rfl⟩
      have hln1 := put_len l x y
      rw [hl1] at hpl hln1
      have hP0 := hP.below ((Below.refl wr.heap.size wr).drew)
      have hput := sput_anyG wr.drew W.heap.size l x y hP0.s hux (by omega)
      have hdoc := fun (w : World) (hw : PX W W.heap.size l1 l u10 w) => rput_c w hw x y hP.s.ue hux (by omega)
      rw [ho, hl1] at hput
      simp only [ho, hl1] at hdoc
      have HPUT := Lib.hid hput; have HDOC := Lib.hid hdoc; have HR0 := Lib.hid r0; have HR1 := Lib.hid r1; have HPL := Lib.hid hpl; have HP0 := Lib.hid hP0
      have q0 := (hP.bel.cell (p := ⟨b3, off3 + k * 2, none⟩) hb3).trans r0
      have q1 := (hP.bel.cell (p := ⟨b3, off3 + k * 2 + 1, none⟩) hb3).trans r1
      clear hx hx2 hgd e1 hP hput hdoc r0 r1 hpl hP0 ho hl1 hle
      go_upto_region 7 with fail
      go_cut [12] (fun s12 wx => s12 = .bool o ∧ PX W W.heap.size l1 l u10 wx)
      case first =>
        go_region_with ((go_at_call 25; refine HPUT.out.mono ?_; rintro e w1 ⟨rfl, hS1, hg1, hn1⟩))
        all_goals (go_wp2_with fail; go_meet; exact ⟨rfl, HP0.out.store hS1 hg1 hn1⟩)
      case rest =>
        obtain ⟨rfl, hP1⟩ := hcut
        have HP1 := Lib.hid (hP1.below ((Below.refl _ _).drew))
        have q2 := (hP1.bel.cell (p := ⟨b3, off3 + k * 2, none⟩) hb3).trans HR0.out
        have q3 := (hP1.bel.cell (p := ⟨b3, off3 + k * 2 + 1, none⟩) hb3).trans HR1.out
        clear q0 q1 hP1 HP0 HPUT
        go_upto_region 8 with fail
        go_cut [13, 14] (fun s13 s14 wx => s14 = .bool o ∧ PX W W.heap.size l1 l1 s13 wx)
        case first =>
          go_region_with ((go_at_call 57; refine (HDOC.out _ HP1.out).mono ?_; rintro e w2 ⟨v0, rfl, hP2⟩))
          all_goals (go_wp2_with fail; go_meet; exact ⟨rfl, hP2⟩)
        case rest =>
          obtain ⟨rfl, hP2⟩ := hcut
          have HPa := Lib.hid hP2
          clear hP2 q2 q3 HP1 HDOC HR0 HR1
          by_cases hr : k < xs.length
          · go_upto_region 12 with fail
            obtain ⟨z, hz⟩ : ∃ z, xs[k] = z := ⟨_, rfl⟩
            have hz2 : xs[k]? = some z := by rw [List.getElem?_eq_getElem hr, hz]
            have hgz : xs.getD k 0 = z := by rw [List.getD_eq_getElem?_getD, hz2]; rfl
            have huz : U z := hxs _ (List.mem_of_getElem? hz2)
            obtain ⟨b9, off9, rfl, hb9, hc9⟩ := C_row HC.out (by omega)
            have z0 := hc9 k z hz2
            have HZ0 := Lib.hid z0
            have hplz := HPL.out
            rw [if_pos hr, hgz] at hplz
            have HPZ := Lib.hid hplz
            have r9 := (HPa.out.bel.cell (p := ⟨b9, off9 + k, none⟩) hb9).trans z0
            clear hz hz2 hgz hc9 z0 hplz HPL
            obtain ⟨a, ha⟩ : ∃ a, askL l1 z = a := ⟨_, rfl⟩
            have hale := ask_le HPa.out.s.ti z
            have ha0 := ask_nonneg l1 z
            rw [ha] at hale ha0
            have hRI := srise_any _ W.heap.size l1 z n HPa.out.s huz (by omega)
            obtain ⟨o2, ho2⟩ : ∃ o2, okP l1 z (a + n) = o2 := ⟨_, rfl⟩
            have HA := Lib.hid ha; have HALE := Lib.hid hale; have HA0 := Lib.hid ha0; have HO2 := Lib.hid ho2
            clear ha hale ha0 ho2
            by_cases hn1 : n < 1
            · have e1 : riseOk l1 z n = false := by unfold riseOk; rw [decide_eq_false (by omega)]; rfl
              have e2 : riseN l1 z n = 0 := by unfold riseN; rw [e1]; rfl
              rw [e1, e2] at hRI
              have HRI := Lib.hid hRI
              have HLN := Lib.hid (show riseL l1 z n = l1 from by unfold riseL; rw [e1]; rfl)
              have hn2 : ¬ (1 : Int) ≤ n := by omega
              clear e1 e2 hRI
              go_wp2_with fail
              refine HRI.out.mono ?_; rintro e w3 ⟨rfl, hS3, hg3, hf3⟩
              have HP3 := Lib.hid (show PX W W.heap.size l1 l1 u13 w3 from by have := HPa.out.store hS3 hg3 hf3; rw [HLN.out] at this; exact this)
              clear hS3 hg3 hf3
              go_wp2_with fail
              go_roundw
              case rel => exact ⟨k + 1, by omega, by simp, by rw [HPZ.out, HLN.out]; exact HP3.out, by rw [HPZ.out, HLN.out]; omega⟩
              case measure => simp [intOf]; omega
            · by_cases hn3 : 1099511627776 < n
              · have e1 : riseOk l1 z n = false := by unfold riseOk; rw [decide_eq_false (show ¬ n ≤ 1099511627776 by omega), Bool.and_false, Bool.false_and]
                have e2 : riseN l1 z n = 0 := by unfold riseN; rw [e1]; rfl
                rw [e1, e2] at hRI
                have HRI := Lib.hid hRI
                have HLN := Lib.hid (show riseL l1 z n = l1 from by unfold riseL; rw [e1]; rfl)
                have hn2 : (1 : Int) ≤ n := by omega
                have hn4 : ¬ n ≤ 1099511627776 := by omega
                clear e1 e2 hRI
                go_wp2_with fail
                refine HRI.out.mono ?_; rintro e w3 ⟨rfl, hS3, hg3, hf3⟩
                have HP3 := Lib.hid (show PX W W.heap.size l1 l1 u13 w3 from by have := HPa.out.store hS3 hg3 hf3; rw [HLN.out] at this; exact this)
                clear hS3 hg3 hf3
                go_wp2_with fail
                go_roundw
                case rel => exact ⟨k + 1, by omega, by simp, by rw [HPZ.out, HLN.out]; exact HP3.out, by rw [HPZ.out, HLN.out]; omega⟩
                case measure => simp [intOf]; omega
              · have e1 : riseOk l1 z n = o2 := by unfold riseOk; rw [decide_eq_true (show 1 ≤ n by omega), decide_eq_true (show n ≤ 1099511627776 by omega), Bool.true_and, Bool.true_and, HA.out]; exact HO2.out
                have e2 : riseN l1 z n = if o2 = true then a + n else 0 := by unfold riseN; rw [e1, HA.out]
                rw [e1, e2] at hRI
                have HLN := Lib.hid (show riseL l1 z n = putP l1 z (a + n) from by rw [rise_put, if_pos (by omega), HA.out])
                have hn2 : (1 : Int) ≤ n := by omega
                have hn4 : n ≤ 1099511627776 := by omega
                have hln := rise_len l1 z n
                rw [HLN.out] at hln
                have hadd : IntKind.i64.wrap (a + n) = a + n := by have := HALE.out; have := HA0.out; unfold most at *; rw [IntKind.wrap_i64]; omega
                have HE1 := Lib.hid e1; have HE2 := Lib.hid e2
                clear e1 e2
                rcases o2 with _ | _
                · rw [show (if false = true then a + n else 0) = 0 from by simp] at hRI
                  have HRI := Lib.hid hRI
                  clear hRI
                  go_wp2_with fail
                  refine HRI.out.mono ?_; rintro e w3 ⟨rfl, hS3, hg3, hf3⟩
                  have HP3 := Lib.hid (show PX W W.heap.size (putP l1 z (a + n)) l1 u13 w3 from by have := HPa.out.store hS3 hg3 hf3; rw [HLN.out] at this; exact this)
                  clear hS3 hg3 hf3
                  have r10 := (HP3.out.bel.cell (p := ⟨b9, off9 + k, none⟩) hb9).trans HZ0.out
                  go_wp2_with fail
                  refine (rask_any w3 u13 l1 z HP3.out.x.pe HPa.out.s.ue huz (by omega)).mono ?_; rintro e w4 ⟨rfl, hb4⟩
                  rw [HA.out]
                  have HP4 := Lib.hid (HP3.out.below hb4)
                  clear hb4 r10
                  have r11 := (HP4.out.bel.cell (p := ⟨b9, off9 + k, none⟩) hb9).trans HZ0.out
                  go_wp2_with fail
                  refine (rput_c w4 HP4.out z (a + n) HPa.out.s.ue huz (by omega)).mono ?_; rintro e w5 ⟨v5, rfl, hP5⟩
                  rw [HO2.out]
                  have HP5 := Lib.hid hP5
                  clear hP5 r11
                  go_wp2_with fail
                  go_roundw
                  case rel => exact ⟨k + 1, by omega, by simp, by rw [HPZ.out, HLN.out]; exact HP5.out, by rw [HPZ.out, HLN.out]; omega⟩
                  case measure => simp [intOf]; omega
                · rw [show (if true = true then a + n else 0) = a + n from by simp] at hRI
                  have HRI := Lib.hid hRI
                  clear hRI
                  go_wp2_with fail
                  refine HRI.out.mono ?_; rintro e w3 ⟨rfl, hS3, hg3, hf3⟩
                  have HP3 := Lib.hid (show PX W W.heap.size (putP l1 z (a + n)) l1 u13 w3 from by have := HPa.out.store hS3 hg3 hf3; rw [HLN.out] at this; exact this)
                  clear hS3 hg3 hf3
                  have r10 := (HP3.out.bel.cell (p := ⟨b9, off9 + k, none⟩) hb9).trans HZ0.out
                  go_wp2_with fail
                  refine (rask_any w3 u13 l1 z HP3.out.x.pe HPa.out.s.ue huz (by omega)).mono ?_; rintro e w4 ⟨rfl, hb4⟩
                  rw [HA.out]
                  have HP4 := Lib.hid (HP3.out.below hb4)
                  clear hb4 r10
                  have r11 := (HP4.out.bel.cell (p := ⟨b9, off9 + k, none⟩) hb9).trans HZ0.out
                  go_wp2_with fail
                  refine (rput_c w4 HP4.out z (a + n) HPa.out.s.ue huz (by omega)).mono ?_; rintro e w5 ⟨v5, rfl, hP5⟩
                  rw [HO2.out]
                  have HP5 := Lib.hid hP5
                  clear hP5 r11
                  go_wp2_with fail
                  go_roundw
                  case rel => exact ⟨k + 1, by omega, by simp, by rw [HPZ.out, HLN.out]; exact HP5.out, by rw [HPZ.out, HLN.out]; omega⟩
                  case measure => simp [intOf]; omega
          · go_upto_region 12 with fail
            have hplz := HPL.out
            rw [if_neg hr] at hplz
            have HPZ := Lib.hid hplz
            clear hplz HPL
            go_wp2_with fail
            go_roundw
            case rel => exact ⟨k + 1, by omega, by simp, by rw [HPZ.out]; exact HPa.out, by rw [HPZ.out]; omega⟩
            case measure => simp [intOf]; omega
    · obtain ⟨l, hle⟩ : ∃ l, plL es xs n k = l := ⟨_, rfl⟩
      have hpl := plL_succ es xs n k
      unfold plS at hpl
      rw [hle, if_neg he] at hpl
      rw [hle] at hP hlen
      simp only at hpl
      have HPL := Lib.hid hpl; have HPa := Lib.hid hP; have HLE := Lib.hid hle
      clear hpl hP hle
      by_cases hr : k < xs.length
      · go_upto_region 12 with fail
        obtain ⟨z, hz⟩ : ∃ z, xs[k] = z := ⟨_, rfl⟩
        have hz2 : xs[k]? = some z := by rw [List.getElem?_eq_getElem hr, hz]
        have hgz : xs.getD k 0 = z := by rw [List.getD_eq_getElem?_getD, hz2]; rfl
        have huz : U z := hxs _ (List.mem_of_getElem? hz2)
        obtain ⟨b9, off9, rfl, hb9, hc9⟩ := C_row HC.out (by omega)
        have z0 := hc9 k z hz2
        have HZ0 := Lib.hid z0
        have hplz := HPL.out
        rw [if_pos hr, hgz] at hplz
        have HPZ := Lib.hid hplz
        have r9 := (HPa.out.bel.cell (p := ⟨b9, off9 + k, none⟩) hb9).trans z0
        clear hz hz2 hgz hc9 z0 hplz HPL
        obtain ⟨a, ha⟩ : ∃ a, askL l z = a := ⟨_, rfl⟩
        have hale := ask_le HPa.out.s.ti z
        have ha0 := ask_nonneg l z
        rw [ha] at hale ha0
        have hRI := srise_any _ W.heap.size l z n HPa.out.s huz (by omega)
        obtain ⟨o2, ho2⟩ : ∃ o2, okP l z (a + n) = o2 := ⟨_, rfl⟩
        have HA := Lib.hid ha; have HALE := Lib.hid hale; have HA0 := Lib.hid ha0; have HO2 := Lib.hid ho2
        clear ha hale ha0 ho2
        by_cases hn1 : n < 1
        · have e1 : riseOk l z n = false := by unfold riseOk; rw [decide_eq_false (by omega)]; rfl
          have e2 : riseN l z n = 0 := by unfold riseN; rw [e1]; rfl
          rw [e1, e2] at hRI
          have HRI := Lib.hid hRI
          have HLN := Lib.hid (show riseL l z n = l from by unfold riseL; rw [e1]; rfl)
          have hn2 : ¬ (1 : Int) ≤ n := by omega
          clear e1 e2 hRI
          go_wp2_with fail
          refine HRI.out.mono ?_; rintro e w3 ⟨rfl, hS3, hg3, hf3⟩
          have HP3 := Lib.hid (show PX W W.heap.size l l u10 w3 from by have := HPa.out.store hS3 hg3 hf3; rw [HLN.out] at this; exact this)
          clear hS3 hg3 hf3
          go_wp2_with fail
          go_roundw
          case rel => exact ⟨k + 1, by omega, by simp, by rw [HPZ.out, HLN.out]; exact HP3.out, by rw [HPZ.out, HLN.out]; omega⟩
          case measure => simp [intOf]; omega
        · by_cases hn3 : 1099511627776 < n
          · have e1 : riseOk l z n = false := by unfold riseOk; rw [decide_eq_false (show ¬ n ≤ 1099511627776 by omega), Bool.and_false, Bool.false_and]
            have e2 : riseN l z n = 0 := by unfold riseN; rw [e1]; rfl
            rw [e1, e2] at hRI
            have HRI := Lib.hid hRI
            have HLN := Lib.hid (show riseL l z n = l from by unfold riseL; rw [e1]; rfl)
            have hn2 : (1 : Int) ≤ n := by omega
            have hn4 : ¬ n ≤ 1099511627776 := by omega
            clear e1 e2 hRI
            go_wp2_with fail
            refine HRI.out.mono ?_; rintro e w3 ⟨rfl, hS3, hg3, hf3⟩
            have HP3 := Lib.hid (show PX W W.heap.size l l u10 w3 from by have := HPa.out.store hS3 hg3 hf3; rw [HLN.out] at this; exact this)
            clear hS3 hg3 hf3
            go_wp2_with fail
            go_roundw
            case rel => exact ⟨k + 1, by omega, by simp, by rw [HPZ.out, HLN.out]; exact HP3.out, by rw [HPZ.out, HLN.out]; omega⟩
            case measure => simp [intOf]; omega
          · have e1 : riseOk l z n = o2 := by unfold riseOk; rw [decide_eq_true (show 1 ≤ n by omega), decide_eq_true (show n ≤ 1099511627776 by omega), Bool.true_and, Bool.true_and, HA.out]; exact HO2.out
            have e2 : riseN l z n = if o2 = true then a + n else 0 := by unfold riseN; rw [e1, HA.out]
            rw [e1, e2] at hRI
            have HLN := Lib.hid (show riseL l z n = putP l z (a + n) from by rw [rise_put, if_pos (by omega), HA.out])
            have hn2 : (1 : Int) ≤ n := by omega
            have hn4 : n ≤ 1099511627776 := by omega
            have hln := rise_len l z n
            rw [HLN.out] at hln
            have hadd : IntKind.i64.wrap (a + n) = a + n := by have := HALE.out; have := HA0.out; unfold most at *; rw [IntKind.wrap_i64]; omega
            have HE1 := Lib.hid e1; have HE2 := Lib.hid e2
            clear e1 e2
            rcases o2 with _ | _
            · rw [show (if false = true then a + n else 0) = 0 from by simp] at hRI
              have HRI := Lib.hid hRI
              clear hRI
              go_wp2_with fail
              refine HRI.out.mono ?_; rintro e w3 ⟨rfl, hS3, hg3, hf3⟩
              have HP3 := Lib.hid (show PX W W.heap.size (putP l z (a + n)) l u10 w3 from by have := HPa.out.store hS3 hg3 hf3; rw [HLN.out] at this; exact this)
              clear hS3 hg3 hf3
              have r10 := (HP3.out.bel.cell (p := ⟨b9, off9 + k, none⟩) hb9).trans HZ0.out
              go_wp2_with fail
              refine (rask_any w3 u10 l z HP3.out.x.pe HPa.out.s.ue huz (by omega)).mono ?_; rintro e w4 ⟨rfl, hb4⟩
              rw [HA.out]
              have HP4 := Lib.hid (HP3.out.below hb4)
              clear hb4 r10
              have r11 := (HP4.out.bel.cell (p := ⟨b9, off9 + k, none⟩) hb9).trans HZ0.out
              go_wp2_with fail
              refine (rput_c w4 HP4.out z (a + n) HPa.out.s.ue huz (by omega)).mono ?_; rintro e w5 ⟨v5, rfl, hP5⟩
              rw [HO2.out]
              have HP5 := Lib.hid hP5
              clear hP5 r11
              go_wp2_with fail
              go_roundw
              case rel => exact ⟨k + 1, by omega, by simp, by rw [HPZ.out, HLN.out]; exact HP5.out, by rw [HPZ.out, HLN.out]; omega⟩
              case measure => simp [intOf]; omega
            · rw [show (if true = true then a + n else 0) = a + n from by simp] at hRI
              have HRI := Lib.hid hRI
              clear hRI
              go_wp2_with fail
              refine HRI.out.mono ?_; rintro e w3 ⟨rfl, hS3, hg3, hf3⟩
              have HP3 := Lib.hid (show PX W W.heap.size (putP l z (a + n)) l u10 w3 from by have := HPa.out.store hS3 hg3 hf3; rw [HLN.out] at this; exact this)
              clear hS3 hg3 hf3
              have r10 := (HP3.out.bel.cell (p := ⟨b9, off9 + k, none⟩) hb9).trans HZ0.out
              go_wp2_with fail
              refine (rask_any w3 u10 l z HP3.out.x.pe HPa.out.s.ue huz (by omega)).mono ?_; rintro e w4 ⟨rfl, hb4⟩
              rw [HA.out]
              have HP4 := Lib.hid (HP3.out.below hb4)
              clear hb4 r10
              have r11 := (HP4.out.bel.cell (p := ⟨b9, off9 + k, none⟩) hb9).trans HZ0.out
              go_wp2_with fail
              refine (rput_c w4 HP4.out z (a + n) HPa.out.s.ue huz (by omega)).mono ?_; rintro e w5 ⟨v5, rfl, hP5⟩
              rw [HO2.out]
              have HP5 := Lib.hid hP5
              clear hP5 r11
              go_wp2_with fail
              go_roundw
              case rel => exact ⟨k + 1, by omega, by simp, by rw [HPZ.out, HLN.out]; exact HP5.out, by rw [HPZ.out, HLN.out]; omega⟩
              case measure => simp [intOf]; omega
      · obtain rfl : k = max es.length xs.length := by omega
        clear HPL
        go_wp2_with fail
        exact bodyPost_ret (v := .tuple #[.pointer (some ⟨W.heap.size, 0, none⟩), u10, .bool true]) (by simp [results, Try.f15, go_sem]) rfl ⟨W.heap.size, u10, rfl, by rw [HLE.out]; exact HPa.out, by rw [HLE.out]; omega⟩
end Go.Proofs.Ytnlhgnioedalpaa.Pri
