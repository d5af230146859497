/- table laws: the walk of play. -/
import Derived.Test.YtgoomogpcfpekaaTabPl
import Derived.Test.YtgoomogpcfpekaaOpen
import Derived.Test.YtgoomogpcfpekaaTabAl
set_option linter.unusedSimpArgs false
set_option linter.unusedVariables false
namespace Go.Proofs.Ytgoomogpcfpekaa.TabR
open Go.RowKit Go.Proofs.Ytgoomogpcfpekaa.TabL Go.Proofs.YtgoomogpcfpekaaW.PrintWords Go.Proofs.Ytgoomogpcfpekaa.PTablePlays
open Go.Proofs.Ytgoomogpcfpekaa.TabN (ltI belowL getV putL_len lin TMx)

def cO (o : Op3) : List Value := [.int .i64 o.1, .int .i64 o.2.1, .int .i64 o.2.2]
set_option maxRecDepth 100000 in
set_option maxHeartbeats 8000000 in
theorem play_any (W : World) (A : Option Addr) (c : Nat) (ops : List Op3) (hn : ops.length ≤ 100) (hO : Rd cO 3 W.heap.size W (.slice A ops.length c) ops) :
    Calls Try.prog 10 #[.slice A ops.length c] W fun e w' => ∃ v, e = .returned (.tuple #[.pointer (some ⟨W.heap.size, 0, none⟩), v, .bool true]) ∧ TMx w' W.heap.size (playL ops) ∧ PS w' v (playL ops) ∧ (∀ k, v.ownBlock = some k → W.heap.size < k) ∧ Below W.heap.size W w' := by
  go_enter Try.func10, Try.ntmps10
  go_wp2_with fail
  go_loopw [6, 18] (fun v i wr => ∃ k : Nat, i = .int .i64 k ∧ k ≤ ops.length ∧ TMx wr W.heap.size (playL (ops.take k)) ∧ PS wr v (playL (ops.take k)) ∧ (∀ k, v.ownBlock = some k → W.heap.size < k) ∧ Below W.heap.size W wr)
    (fun _ i _ => ops.length - (match i with | .int _ n => n.toNat | _ => 0))
  case atStart =>
    refine ⟨0, rfl, Nat.zero_le _, ⟨none, .leaf, (Blk.new W [.pointer none] _).alloc _, rfl, rfl⟩, ⟨_, _, rfl, Nat.le_refl _, rfl, by simp [playL], fun h => absurd h (by simp [playL])⟩, by simp [Value.ownBlock], TabN.bel_alloc2 W _ _⟩
  case round =>
    obtain ⟨k, rfl, hk, hT, hP, hv, hB⟩ := hrel
    by_cases hlt : k < ops.length
    · have hst := playL_take ops (0, 0, 0) hlt
      have hle := playL_len (ops.take k)
      rw [List.length_take] at hle
      obtain ⟨⟨kd, key, val⟩, hop⟩ : ∃ o, ops.getD k (0, 0, 0) = o := ⟨_, rfl⟩
      have hget : ops[k]? = some (kd, key, val) := by rw [← hop]; simp [List.getD, hlt]
      rw [hop] at hst
      rcases hO with ⟨a, cap, _, h0⟩ | ⟨b, off, cap, e, hlb, hcl⟩
      · subst h0; simp at hlt
      obtain ⟨rfl, rfl⟩ : A = some ⟨b, off, none⟩ ∧ c = cap := by injection e with e1 e2 e3; exact ⟨e1, e3⟩
      have q0 : wr.cell? ⟨b, off + k * 3, none⟩ = some (.int .i64 kd) := (hB.cell (p := ⟨b, off + k * 3 + 0, none⟩) hlb).trans (hcl k _ hget 0 _ rfl)
      have q1 : wr.cell? ⟨b, off + k * 3 + 1, none⟩ = some (.int .i64 key) := (hB.cell (p := ⟨b, off + k * 3 + 1, none⟩) hlb).trans (hcl k _ hget 1 _ rfl)
      have q2 : wr.cell? ⟨b, off + k * 3 + 2, none⟩ = some (.int .i64 val) := (hB.cell (p := ⟨b, off + k * 3 + 2, none⟩) hlb).trans (hcl k _ hget 2 _ rfl)
      have HO := Lib.hid hcl; have HST := Lib.hid hst; have HT := Lib.hid hT; have HP := Lib.hid hP; have HV := Lib.hid hv; have HB := Lib.hid hB
      have hbl := hB.size
      clear hcl hst hT hP hv hB hop hget e
      go_wp2_with fail
      obtain ⟨xs, hxs⟩ : ∃ xs, playL (ops.take k) = xs := ⟨_, rfl⟩
      have hsd := playL_sd (ops.take k)
      rw [hxs] at HT HP HST hsd hle
      have hal : Below wr.heap.size wr (wr.alloc (.cells #[.int .i64 kd, .int .i64 key, .int .i64 val] 46)) := (Below.refl _ wr).alloc (Nat.le_refl _) _
      have hzA : (wr.alloc (.cells #[.int .i64 kd, .int .i64 key, .int .i64 val] 46)).heap.size = wr.heap.size + 1 := by simp
      have hO8 : Blk (wr.alloc (.cells #[.int .i64 kd, .int .i64 key, .int .i64 val] 46)) wr.heap.size 46 [.int .i64 kd, .int .i64 key, .int .i64 val] := Blk.new wr [.int .i64 kd, .int .i64 key, .int .i64 val] _
      have hTA := HT.out.below hal
      have hPA := HP.out.below hal
      have hBA := HB.out.trans (hal.mono hbl)
      refine (ref_get _ u6 xs key (by omega) hPA).mono ?_; rintro e w1 ⟨rfl, hb1⟩
      have hpz := HT.out.lt
      have hT1 := hTA.below hb1
      have hP1 := hPA.below hb1
      have hB1 := hBA.trans (hb1.mono (by omega))
      have hO1 := hO8.belowS hb1
      have hz1 := hb1.size
      obtain ⟨z, hz⟩ : ∃ z, wr.heap.size = z := ⟨_, rfl⟩
      rw [hz] at hO1 ⊢
      rw [hzA, hz] at hz1
      rw [hz] at hbl hpz
      obtain ⟨hgv1, hgv2⟩ := gv_getV xs key
      rw [hgv1, hgv2]
      obtain ⟨bs, hbs⟩ : ∃ bs, (getL ltI xs key).isSome = bs := ⟨_, rfl⟩
      obtain ⟨gx, hgx⟩ : ∃ gx, getV xs key = gx := ⟨_, rfl⟩
      rw [hbs, hgx]
      have o0 := hO1.cell (i := 0) rfl
      have o1 := hO1.cell (i := 1) rfl
      have o2 := hO1.cell (i := 2) rfl
      have HBS := Lib.hid hbs; have HGX := Lib.hid hgx; have HO1 := Lib.hid hO1; have HT1 := Lib.hid hT1; have HP1 := Lib.hid hP1; have HB1 := Lib.hid hB1; have HSD := Lib.hid hsd
      clear hbs hgx hgv1 hgv2 hTA hPA hBA hal hzA hO8 hb1 hz q0 q1 q2 hxs hT1 hP1 hB1 hO1 hsd HT HP HB
      by_cases h3 : kd = 3
      · subst h3
        have hs3 : stepL xs (3, key, val) = dropL ltI xs key := by unfold stepL; simp
        have HS3 := Lib.hid hs3
        clear hs3
        go_wp2_with fail
        have D := TabN.dropM_any w1 W.heap.size xs key HT1.out HSD.out (by omega)
        rw [HBS.out] at D
        refine D.mono ?_; rintro e w2 ⟨rfl, hT2, hg2⟩
        have hP2 := HP1.out.other (fun e => by have := HV.out _ e; omega) hg2
        have hB2 : Below W.heap.size W w2 := HB1.out.grown hg2 (by omega) (fun r e => by cases e; exact Nat.le_refl _)
        have hO2 := HO1.out.kept hg2 (by simp; omega)
        have hz2 := hg2.size
        have p0 := hO2.cell (i := 0) rfl
        have p1 := hO2.cell (i := 1) rfl
        have p2 := hO2.cell (i := 2) rfl
        clear o0 o1 o2 D hg2 hO2
        go_wp2_with fail
        refine (ref_drop w2 u6 xs key (by omega) hP2).mono ?_; rintro e w3 ⟨v3, rfl, hP3, hv3, hb3⟩
        have hT3 := hT2.below hb3
        have hB3 := hB2.trans (hb3.mono (by omega))
        obtain ⟨A3, c3, rfl, hl3, hC3⟩ := hP3
        have hv4 : ∀ k, (Value.slice A3 (dropL ltI xs key).length c3).ownBlock = some k → W.heap.size < k := fun k e => by have := hv3 _ e; omega
        have LEN := Lib.hid (TabN.len_any w3 W.heap.size _ hT3)
        obtain ⟨ln, hln⟩ : ∃ ln, (dropL ltI xs key).length = ln := ⟨_, rfl⟩
        have HC3 := Lib.hid hC3; have HV4 := Lib.hid hv4; have HT3 := Lib.hid hT3; have HB3 := Lib.hid hB3
        rw [hln] at LEN HC3 HV4 hl3 ⊢
        have HLN := Lib.hid hln
        clear hP2 hB2 hT2 p0 p1 p2 hv3 hb3 hC3 hv4 hT3 hB3 hln
        go_wp2_with fail
        refine LEN.out.mono ?_; rintro e w4 ⟨rfl, rfl⟩
        go_wp2_with fail
        go_roundw
        case rel => exact ⟨k + 1, by congr 1, by omega, by rw [HST.out, HS3.out]; exact HT3.out, by rw [HST.out, HS3.out]; exact ⟨A3, c3, by rw [HLN.out], by rw [HLN.out]; exact hl3, by rw [HLN.out]; exact HC3.out⟩, HV4.out, HB3.out⟩
        case measure => simp; omega
      by_cases h4 : kd = 4
      · subst h4
        have hs3 : stepL xs (4, key, val) = [] := by unfold stepL; simp
        have HS3 := Lib.hid hs3
        clear hs3
        go_wp2_with fail
        refine (TabN.clear_any w1 W.heap.size xs HT1.out).mono ?_; rintro e w2 ⟨rfl, hT2, hg2⟩
        have hB2 : Below W.heap.size W w2 := HB1.out.grown hg2 (by omega) (fun r e => by cases e; exact Nat.le_refl _)
        have LEN := Lib.hid (TabN.len_any w2 W.heap.size _ hT2)
        have HT3 := Lib.hid hT2; have HB3 := Lib.hid hB2
        clear hT2 hB2 hg2 o0 o1 o2
        go_wp2_with fail
        refine LEN.out.mono ?_; rintro e w4 ⟨rfl, rfl⟩
        go_wp2_with fail
        go_roundw
        case rel => exact ⟨k + 1, by congr 1, by omega, by rw [HST.out, HS3.out]; exact HT3.out, by rw [HST.out, HS3.out]; exact ⟨none, 0, rfl, Nat.le_refl _, rfl, by simp, fun h => absurd h (by simp)⟩, by simp [Value.ownBlock], HB3.out⟩
        case measure => simp; omega
      by_cases h012 : kd = 0 ∨ kd = 1 ∨ kd = 2
      · have hs3 : stepL xs (kd, key, val) = putL ltI xs key val := by unfold stepL; rw [if_pos h012]
        have HS3 := Lib.hid hs3
        clear hs3 h3 h4
        rcases h012 with rfl | rfl | rfl
        all_goals
          go_wp2_with fail
          have D := TabN.putM_any w1 W.heap.size xs key val HT1.out HSD.out (by omega)
          rw [show (getL ltI xs key).isNone = !bs from by rw [← HBS.out]; cases getL ltI xs key <;> rfl] at D
          refine D.mono ?_; rintro e w2 ⟨rfl, hT2, hg2⟩
          have hP2 := HP1.out.other (fun e => by have := HV.out _ e; omega) hg2
          have hB2 : Below W.heap.size W w2 := HB1.out.grown hg2 (by omega) (fun r e => by cases e; exact Nat.le_refl _)
          have hO2 := HO1.out.kept hg2 (by simp; omega)
          have hz2 := hg2.size
          have p0 := hO2.cell (i := 0) rfl
          have p1 := hO2.cell (i := 1) rfl
          have p2 := hO2.cell (i := 2) rfl
          clear o0 o1 o2 D hg2 hO2
          go_wp2_with fail
          refine (ref_put w2 u6 xs key val HSD.out (by omega) hP2).mono ?_; rintro e w3 ⟨v3, rfl, hP3, hv3, hb3⟩
          have hT3 := hT2.below hb3
          have hB3 := hB2.trans (hb3.mono (by omega))
          obtain ⟨A3, c3, rfl, hl3, hC3⟩ := hP3
          have hv4 : ∀ k, (Value.slice A3 (putL ltI xs key val).length c3).ownBlock = some k → W.heap.size < k := fun k e => by have := hv3 _ e; omega
          have LEN := Lib.hid (TabN.len_any w3 W.heap.size _ hT3)
          obtain ⟨ln, hln⟩ : ∃ ln, (putL ltI xs key val).length = ln := ⟨_, rfl⟩
          have HC3 := Lib.hid hC3; have HV4 := Lib.hid hv4; have HT3 := Lib.hid hT3; have HB3 := Lib.hid hB3
          rw [hln] at LEN HC3 HV4 hl3 ⊢
          have HLN := Lib.hid hln
          clear hP2 hB2 hT2 p0 p1 p2 hv3 hb3 hC3 hv4 hT3 hB3 hln
          go_wp2_with fail
          refine LEN.out.mono ?_; rintro e w4 ⟨rfl, rfl⟩
          go_wp2_with fail
          go_roundw
          case rel => exact ⟨k + 1, by congr 1, by omega, by rw [HST.out, HS3.out]; exact HT3.out, by rw [HST.out, HS3.out]; exact ⟨A3, c3, by rw [HLN.out], by rw [HLN.out]; exact hl3, by rw [HLN.out]; exact HC3.out⟩, HV4.out, HB3.out⟩
          case measure => simp; omega
      · have hs3 : stepL xs (kd, key, val) = xs := by unfold stepL; rw [if_neg h012, if_neg h3, if_neg h4]
        have HS3 := Lib.hid hs3
        have n0 : ¬ kd = 0 := fun h => h012 (.inl h)
        have n1 : ¬ kd = 1 := fun h => h012 (.inr (.inl h))
        have n2 : ¬ kd = 2 := fun h => h012 (.inr (.inr h))
        clear hs3 h012
        have D := TabN.get_any w1 W.heap.size xs key HT1.out HSD.out
        rw [HBS.out, HGX.out] at D
        have DH := Lib.hid D
        obtain ⟨A3, c3, rfl, hl3, hC3⟩ := HP1.out
        have LEN := Lib.hid (TabN.len_any w1 W.heap.size _ HT1.out)
        obtain ⟨ln, hln⟩ : ∃ ln, xs.length = ln := ⟨_, rfl⟩
        have HC3 := Lib.hid hC3
        rw [hln] at LEN HC3 HV hl3 hle ⊢
        have HLN := Lib.hid hln
        clear D hC3 hln HP1
        go_wp2_with fail
        refine DH.out.mono ?_; rintro e w2 ⟨rfl, rfl⟩
        go_wp2_with fail
        refine LEN.out.mono ?_; rintro e w4 ⟨rfl, rfl⟩
        go_wp2_with fail
        go_roundw
        case rel => exact ⟨k + 1, by congr 1, by omega, by rw [HST.out, HS3.out]; exact HT1.out, by rw [HST.out, HS3.out]; exact ⟨A3, c3, by rw [HLN.out], by rw [HLN.out]; exact hl3, by rw [HLN.out]; exact HC3.out⟩, HV.out, HB1.out⟩
        case measure => simp; omega
    · have hke : ops.take k = ops := List.take_of_length_le (by omega)
      rw [hke] at hT hP
      have HT := Lib.hid hT; have HP := Lib.hid hP; have HV := Lib.hid hv; have HB := Lib.hid hB
      clear hT hP hv hB hO
      go_wp2_with fail
      first | go_ret3 | go_ret2 | go_ret
      exact ⟨_, rfl, HT.out, HP.out, HV.out, HB.out⟩

end Go.Proofs.Ytgoomogpcfpekaa.TabR

set_option linter.unusedSimpArgs false
set_option linter.unusedVariables false
namespace Go.Proofs.Ytgoomogpcfpekaa.TabR
open Go.RowKit Go.Proofs.Ytgoomogpcfpekaa.TabL Go.Proofs.YtgoomogpcfpekaaW.PrintWords Go.Proofs.Ytgoomogpcfpekaa.PTablePlays
open Go.Proofs.Ytgoomogpcfpekaa.TabN (ltI belowL getV putL_len lin TMx cP d0 ek ev Gives2)

theorem cP_length (x : Int × Int) : (cP x).length = 2 := rfl
theorem ps_own {W : World} {base : Nat} {v : Value} {zs : List (Int × Int)} (hl : zs.length ≤ 1099511627776) (h : W.ownsRow base 41 2 v zs.length (cellsOf cP zs)) : PS W v zs := by
  have h0 := h
  rcases h0.2 with ⟨rfl, hz⟩ | ⟨g, cap, cur, rfl, hb, hg, hc, hlc, _⟩
  · obtain rfl := List.eq_nil_of_length_eq_zero hz
    exact ⟨none, 0, rfl, Nat.le_refl _, rfl, by simp, fun h => absurd h (by simp)⟩
  · refine ⟨_, cap, rfl, own_le h, by simp, by omega, fun hpos => ⟨_, rfl, fun j x hx => ⟨[.int .i64 x.f0, .int .i64 x.f1], rfl, k41_mk W x, fun i u hu => ?_⟩⟩⟩
    rw [List.getElem?_map] at hx
    cases hq : zs[j]? with
    | none => rw [hq] at hx; simp at hx
    | some q =>
      rw [hq] at hx
      have hj : j < zs.length := (List.getElem?_eq_some_iff.1 hq).1
      have hi : i < 2 := by have := (List.getElem?_eq_some_iff.1 hu).1; simpa using this
      have e1 : (⟨g, 0, none⟩ : Addr).add (j * k41.sz + i) = ⟨g, j * 2 + i, none⟩ := by
        rw [show j * k41.sz + i = j * 2 + i from rfl, addr_add, Nat.zero_add]
      rw [e1, h.cellAt (j * 2 + i) (by omega), cellsOf_at cP_length zs (0, 0) hj hi, List.getD_eq_getElem?_getD, hq]
      obtain rfl : toS q = x := by simpa using hx
      exact hu
theorem own_new {W : World} {base : Nat} {v : Value} {n sz : Nat} {e : TypeId} {cs : List Value} (h : W.ownsRow base e sz v n cs) : ∀ k, v.ownBlock = some k → base ≤ k := fun k hk => (own_typ h k hk).1

/-- what pairs of all that comes is -/
theorem pairs_gives (W : World) (G : Nat) (lb : Array Value) (zs : List (Int × Int)) (m : Int) (hm : 1 ≤ m) (hz : zs.length < 1099511627776)
    (h : ∃ St N : World → Prop, Gives2 G lb St N zs ∧ ∀ W', Below W.heap.size W W' → St W' ∧ N W') :
    Calls Try.prog 13 #[.func (.func G) #[] lb, .int .i64 m] W fun e w' => ∃ v, e = .returned v ∧ PS w' v (zs.take m.toNat) ∧ (∀ k, v.ownBlock = some k → W.heap.size ≤ k) ∧ Below W.heap.size W w' := by
  obtain ⟨St, N, hG, h2⟩ := h
  refine (TabN.pairs_any W G lb St N zs m hG hm hz (fun W' hb => (h2 W' hb).1) (fun W' hb => (h2 W' hb).2)).mono ?_
  rintro e w' ⟨v, rfl, ho, hb⟩
  exact ⟨v, rfl, ps_own (by rw [List.length_take]; omega) ho, own_new ho, hb⟩
theorem pairs_all (W : World) (p : Nat) (xs : List (Int × Int)) (m : Int) (hm : 1 ≤ m) (hz : xs.length < 1099511627776) (h : TMx W p xs) :
    Calls Try.prog 13 #[.func (.func 45) #[] #[.pointer (some ⟨W.heap.size, 0, none⟩)], .int .i64 m] (W.alloc (.cells #[.pointer (some ⟨p, 0, none⟩)] 24)) fun e w' => ∃ v, e = .returned v ∧ PS w' v (xs.take m.toNat) ∧ (∀ k, v.ownBlock = some k → W.heap.size ≤ k) ∧ Below W.heap.size W w' := by
  obtain ⟨St, N, hG, h2⟩ := TabN.tm_all W p xs h
  refine (pairs_gives _ _ _ xs m hm hz ⟨St, N, hG, fun W' hb => h2 W' (by simpa using hb)⟩).mono ?_
  rintro e w' ⟨v, rfl, hp, hk, hb⟩
  exact ⟨v, rfl, hp, fun k hh => Nat.le_trans (by simp) (hk k hh), ((Below.refl _ W).alloc (Nat.le_refl _) _).trans (hb.mono (by simp))⟩
theorem pairs_back (W : World) (p : Nat) (xs : List (Int × Int)) (m : Int) (hm : 1 ≤ m) (hz : xs.length < 1099511627776) (h : TMx W p xs) :
    Calls Try.prog 13 #[.func (.func 47) #[] #[.pointer (some ⟨W.heap.size, 0, none⟩)], .int .i64 m] (W.alloc (.cells #[.pointer (some ⟨p, 0, none⟩)] 24)) fun e w' => ∃ v, e = .returned v ∧ PS w' v (xs.reverse.take m.toNat) ∧ (∀ k, v.ownBlock = some k → W.heap.size ≤ k) ∧ Below W.heap.size W w' := by
  obtain ⟨St, N, hG, h2⟩ := TabN.tm_back W p xs h
  refine (pairs_gives _ _ _ xs.reverse m hm (by rw [List.length_reverse]; exact hz) ⟨St, N, hG, fun W' hb => h2 W' (by simpa using hb)⟩).mono ?_
  rintro e w' ⟨v, rfl, hp, hk, hb⟩
  exact ⟨v, rfl, hp, fun k hh => Nat.le_trans (by simp) (hk k hh), ((Below.refl _ W).alloc (Nat.le_refl _) _).trans (hb.mono (by simp))⟩
theorem pairs_from (W : World) (p : Nat) (xs : List (Int × Int)) (kf m : Int) (hm : 1 ≤ m) (hz : xs.length < 1099511627776) (h : TMx W p xs) (hs : Sd ltI xs) :
    Calls Try.prog 13 #[.func (.func 49) #[] #[.pointer (some ⟨W.heap.size, 0, none⟩), .pointer (some ⟨W.heap.size + 1, 0, none⟩)], .int .i64 m] ((W.alloc (.cells #[.pointer (some ⟨p, 0, none⟩)] 24)).alloc (.cells #[.int .i64 kf] 2)) fun e w' => ∃ v, e = .returned v ∧ PS w' v ((fromL ltI xs kf).take m.toNat) ∧ (∀ k, v.ownBlock = some k → W.heap.size ≤ k) ∧ Below W.heap.size W w' := by
  obtain ⟨St, N, hG, h2⟩ := TabN.tm_from W p xs kf h hs
  refine (pairs_gives _ _ _ (fromL ltI xs kf) m hm (Nat.lt_of_le_of_lt (List.length_filter_le _ _) hz) ⟨St, N, hG, fun W' hb => h2 W' (by simpa using hb)⟩).mono ?_
  rintro e w' ⟨v, rfl, hp, hk, hb⟩
  exact ⟨v, rfl, hp, fun k hh => Nat.le_trans (by rw [World.size_alloc, World.size_alloc]; omega) (hk k hh), (TabN.bel_alloc2 W _ _).trans (hb.mono (by rw [World.size_alloc, World.size_alloc]; omega))⟩

theorem PS.full {W : World} {v : Value} {l : List (Int × Int)} {n : Nat} (h : PS W v l) (hn : l.length ≤ n) : PS W v (l.take n) := by rw [List.take_of_length_le hn]; exact h
theorem PS.take {W : World} {A : Option Addr} {c k : Nat} {l : List (Int × Int)} {n : Nat} (h : PS W (.slice A k c) l) (hn : n ≤ l.length) : PS W (.slice A n c) (l.take n) := by
  obtain ⟨A', c', e, h1, h2⟩ := h
  injection e with e1 e2 e3
  subst e1; subst e2; subst e3
  have hlen : (l.take n).length = n := by rw [List.length_take]; omega
  refine ⟨A, c, by rw [hlen], by omega, by simp, by rw [hlen]; have := h2.2.1; omega, fun hpos => ?_⟩
  obtain ⟨a, rfl, hr⟩ := h2.2.2 (by omega)
  refine ⟨a, rfl, fun j x hx => hr j x ?_⟩
  rw [List.map_take] at hx
  rw [List.getElem?_take] at hx
  split at hx
  · exact hx
  · cases hx
set_option maxRecDepth 100000 in
set_option maxHeartbeats 4000000 in
theorem cut_any (W : World) (v : Value) (l : List (Int × Int)) (B : Nat) (m : Int) (hm : 1 ≤ m) (hl : l.length ≤ 1099511627776) (hc : W.cell? ⟨B, 0, none⟩ = some (.int .i64 m)) (h : PS W v l) :
    Calls Try.prog 11 #[v, .pointer (some ⟨B, 0, none⟩)] W fun e w' => ∃ v', e = .returned v' ∧ PS w' v' (l.take m.toNat) ∧ W = w' := by
  obtain ⟨A, c, rfl, h1, h2⟩ := h
  by_cases hle : (l.length : Int) ≤ m
  · go_enter Try.func11, Try.ntmps11
    go_wp2_with fail
    go_ret
    exact ⟨_, rfl, PS.full ⟨A, c, rfl, h1, h2⟩ (by omega), rfl⟩
  · go_enter Try.func11, Try.ntmps11
    go_wp2_with fail
    go_ret
    exact ⟨_, rfl, PS.take ⟨A, c, rfl, h1, h2⟩ (by omega), rfl⟩

end Go.Proofs.Ytgoomogpcfpekaa.TabR

set_option linter.unusedSimpArgs false
set_option linter.unusedVariables false
namespace Go.Proofs.Ytgoomogpcfpekaa.TabR
open Go.RowKit Go.Proofs.Ytgoomogpcfpekaa.TabL Go.Proofs.YtgoomogpcfpekaaW.PrintWords Go.Proofs.Ytgoomogpcfpekaa.PTablePlays
open Go.Proofs.Ytgoomogpcfpekaa.TabN (ltI belowL getV putL_len lin TMx cP d0 ek ev Gives2 putsL)

theorem blk_cell_ptr {W : World} {q : Nat} {t : TypeId} {r : Option Addr} (h : Blk W q t [.pointer r]) {a : Addr} {v : Value} (hq : a.block = q) (hc : W.cell? a = some v) : v = .pointer r := by
  obtain ⟨e, _⟩ := cell_spot hc
  rw [e, hq, cell_of_row W q _ _ t (0, 0) h] at hc
  cases ho : a.off with
  | zero => rw [ho] at hc; simpa using hc.symm
  | succ n => rw [ho] at hc; simp at hc
/-- behind a table's change -/
theorem PS.table {W W' : World} {v : Value} {l : List (Int × Int)} {q : Nat} {zs : List (Int × Int)} (h : PS W v l) (hT : TMx W q zs) (hg : W.grownBy W' (some q)) : PS W' v l := by
  obtain ⟨r, T, hb, _, _⟩ := hT
  obtain ⟨A, c, rfl, h1, h2⟩ := h
  refine ⟨A, c, rfl, h1, h2.1, h2.2.1, fun hpos => ?_⟩
  obtain ⟨a, rfl, hr⟩ := h2.2.2 hpos
  refine ⟨a, rfl, fun j x hx => ?_⟩
  obtain ⟨cs, hl, hk, hc⟩ := hr j x hx
  obtain rfl := k41_open hk
  refine ⟨_, rfl, k41_mk W' x, fun i u hu => ?_⟩
  have h3 := hc i u hu
  have hne : (a.add (j * k41.sz + i)).block ≠ q := fun e => by
    have := blk_cell_ptr hb e h3
    subst this
    rcases i with _ | _ | i <;> simp at hu
  rw [← h3]
  exact World.cell?_of_block (hg.block _ (World.block_lt_of_cell? _ _ h3) (by simpa using hne))
theorem tm_table {W W' : World} {p q : Nat} {xs zs : List (Int × Int)} (h : TMx W p xs) (hT : TMx W q zs) (hg : W.grownBy W' (some q)) (hne : p ≠ q) : TMx W' p xs := by
  obtain ⟨r, T, hb, _, _⟩ := hT
  exact h.other hg hb hne (by decide)

theorem putsL_rev : ∀ {xs : List (Int × Int)}, Sd ltI xs → putsL [] xs.reverse = xs
  | [], _ => rfl
  | x :: r, h => by
    have hp := List.pairwise_cons.1 h
    have hx : putsL [] (r.reverse ++ [x]) = putL ltI (putsL [] r.reverse) x.1 x.2 := by unfold putsL; rw [List.foldl_append]; rfl
    rw [List.reverse_cons, hx, putsL_rev (xs := r) hp.2]
    cases r with
    | nil => rfl
    | cons y r => rw [putL, if_pos (hp.1 y List.mem_cons_self)]
theorem dropL_head {x : Int × Int} {r : List (Int × Int)} (h : Sd ltI (x :: r)) : dropL ltI (x :: r) x.1 = r := by
  have hp := List.pairwise_cons.1 h
  have h1 := dropL_append (lt := ltI) [x] r x.1
  rw [List.singleton_append] at h1
  rw [h1, dropL_all (l := r) (fun q hq => .inr (hp.1 q hq))]
  unfold dropL
  rw [List.filter_cons, if_neg (by simp [lin.irr])]
  rfl
theorem dropL_le (xs : List (Int × Int)) (k : Int) : (dropL ltI xs k).length ≤ xs.length := List.length_filter_le _ _
/-- all pairs, where enough is asked for -/
theorem pairs_full (W : World) (p : Nat) (xs : List (Int × Int)) (m : Int) (hm : (xs.length : Int) < m) (hz : xs.length < 1099511627776) (h : TMx W p xs) :
    Calls Try.prog 13 #[.func (.func 45) #[] #[.pointer (some ⟨W.heap.size, 0, none⟩)], .int .i64 m] (W.alloc (.cells #[.pointer (some ⟨p, 0, none⟩)] 24)) fun e w' => ∃ v, e = .returned v ∧ PS w' v xs ∧ (∀ k, v.ownBlock = some k → W.heap.size ≤ k) ∧ Below W.heap.size W w' := by
  have h1 := pairs_all W p xs m (by omega) hz h
  rwa [List.take_of_length_le (by omega)] at h1
theorem of_back (W : World) (p : Nat) (xs : List (Int × Int)) (h : TMx W p xs) (hs : Sd ltI xs) (hz : xs.length < 1099511627776) :
    Calls Try.prog 24 #[.func (.func 47) #[] #[.pointer (some ⟨W.heap.size, 0, none⟩)]] (W.alloc (.cells #[.pointer (some ⟨p, 0, none⟩)] 24)) fun e w' => e = .returned (.pointer (some ⟨W.heap.size + 1, 0, none⟩)) ∧ TMx w' (W.heap.size + 1) xs ∧ Below W.heap.size W w' := by
  obtain ⟨St, N, hG, h2⟩ := TabN.tm_back W p xs h
  have h3 := TabN.of_any (W.alloc (.cells #[.pointer (some ⟨p, 0, none⟩)] 24)) _ _ St N xs.reverse hG (by rw [List.length_reverse]; exact hz) (fun W' hb => (h2 W' (by simpa using hb)).1) (fun W' hb => (h2 W' (by simpa using hb)).2)
  rw [putsL_rev hs, World.size_alloc] at h3
  exact h3.mono fun e w' ⟨a, b, c⟩ => ⟨a, b, ((Below.refl _ W).alloc (Nat.le_refl _) _).trans (c.mono (by omega))⟩
theorem same_refl (W : World) (v u : Value) (l : List (Int × Int)) (hl : l.length ≤ 1099511627776) (h : PS W v l) (h' : PS W u l) : Calls Try.prog 12 #[v, u] W fun e w' => e = .returned (.bool true) ∧ Below W.heap.size W w' :=
  (ref_same W v u l l hl h h').mono fun e w' ⟨a, b⟩ => ⟨by rw [a, decide_eq_true rfl], b⟩
theorem PS.at {W : World} {v : Value} {l : List (Int × Int)} {j : Nat} {q : Int × Int} (h : PS W v l) (hj : l[j]? = some q) : ∃ b off c, v = .slice (some ⟨b, off, none⟩) l.length c ∧ W.cell? ⟨b, off + j * 2, none⟩ = some (.int .i64 q.1) ∧ W.cell? ⟨b, off + j * 2 + 1, none⟩ = some (.int .i64 q.2) := by
  obtain ⟨A, c, rfl, h1, h2⟩ := h
  have hlt := (List.getElem?_eq_some_iff.1 hj).1
  obtain ⟨a, rfl, hr⟩ := h2.2.2 (by omega)
  have hjq : (l.map toS)[j]? = some (toS q) := by rw [List.getElem?_map, hj]; rfl
  have hz : (l.map toS)[0]? = some (toS (l[0]'(by omega))) := by rw [List.getElem?_map, List.getElem?_eq_getElem (by omega)]; rfl
  obtain ⟨cs0, _, hk0, hc0⟩ := hr 0 _ hz
  obtain rfl := k41_open hk0
  have hsp := cell_spot (by simpa [Addr.add] using hc0 0 _ rfl)
  obtain ⟨b, off, s⟩ := a
  obtain rfl : s = none := by injection hsp.1
  obtain ⟨cs, _, hk, hc⟩ := hr j _ hjq
  obtain rfl := k41_open hk
  have h3 := hc 0 _ rfl
  have h4 := hc 1 _ rfl
  rw [addr_add] at h3 h4
  exact ⟨b, off, c, rfl, h3, h4⟩
theorem rd_slice {W : World} {n₀ : Nat} {sv : Value} {ops : List Op3} (hR : Rd cO 3 n₀ W sv ops) : ∃ A c, sv = .slice A ops.length c := by
  rcases hR with ⟨a, cap, rfl, rfl⟩ | ⟨b, off, cap, rfl, _, _⟩
  · exact ⟨a, cap, rfl⟩
  · exact ⟨_, _, rfl⟩
theorem rd_at {W : World} {n₀ : Nat} {sv : Value} {ops : List Op3} {j : Nat} {o : Op3} (hR : Rd cO 3 n₀ W sv ops) (hj : ops[j]? = some o) : ∃ b off c, sv = .slice (some ⟨b, off, none⟩) ops.length c ∧ b < n₀ ∧ W.cell? ⟨b, off + j * 3, none⟩ = some (.int .i64 o.1) ∧ W.cell? ⟨b, off + j * 3 + 1, none⟩ = some (.int .i64 o.2.1) ∧ W.cell? ⟨b, off + j * 3 + 2, none⟩ = some (.int .i64 o.2.2) := by
  rcases hR with ⟨a, cap, rfl, rfl⟩ | ⟨b, off, cap, rfl, hlt, hc⟩
  · simp at hj
  · exact ⟨b, off, cap, rfl, hlt, hc j _ hj 0 _ rfl, hc j _ hj 1 _ rfl, hc j _ hj 2 _ rfl⟩

end Go.Proofs.Ytgoomogpcfpekaa.TabR
