/- table B: the nodes come, rising. -/
import Derived.Test.YtmdacfgofilbdaaTabB4
import Derived.Test.YtmdacfgofilbdaaSeq
set_option linter.unusedSimpArgs false
set_option linter.unusedVariables false
namespace Go.Proofs.Ytmdacfgofilbdaa.TabB
open Go.RowKit Go.Proofs.Ytmdacfgofilbdaa.TabL
attribute [local go_sem] Oper.semAt_some

theorem roundAny {m m' : Nat} {P : Program} {l : Nat} {f : FuncId} {tmps : Array Value} {assign body : Code} {w : World} {R : Ending → World → Prop}
    (h : RoundIn Fence.wide m P l f tmps assign body w R) : RoundIn Fence.wide m' P l f tmps assign body w R := ⟨h.1, fun c cs _ => h.2 c cs (fun d h => by cases h)⟩
theorem yieldAny {m : Nat} (m' : Nat) {P : Program} {l : Nat} {args : Array Value} {W : World} {R : Ending → World → Prop} (h : YieldAt Fence.wide m P l args W R) : YieldAt Fence.wide m' P l args W R := by
  obtain ⟨fn, tmps, assign, body, hy, hR⟩ := h
  exact ⟨fn, tmps, assign, body, hy, roundAny hR⟩

section
variable (zs : List (Int × Int)) (d : Int × Int) (w0 : World) (l : Nat) (Rc JX : World → Prop) (Inv : Nat → World → Prop)
/-- what holds when k have come -/
def KI (k : Nat) (W : World) : Prop := KT 145 w0 W ∧ Inv k W ∧ Rc W

set_option maxRecDepth 100000 in
set_option maxHeartbeats 4000000 in
theorem rise_in (m : Nat) (hR : ∀ k A n, KI w0 Rc Inv k A → KI w0 Rc Inv k (A.drewN n))
    (hY : ∀ k W, k < zs.length → KI w0 Rc Inv k W → YieldAt Fence.wide m Try.prog l #[ek (zs.getD k d).1, ev (zs.getD k d).2] W fun e W' => (e = .returned (.bool true) ∧ KI w0 Rc Inv (k + 1) W') ∨ (e = .returned (.bool false) ∧ JX W')) :
    ∀ (t : Tr) (n : Nat) (p : Option Addr) (A B : List (Int × Int)) (W : World), T w0 p t → zs = A ++ t.toL ++ B → KI w0 Rc Inv A.length W →
      CallsIn Fence.wide n Try.prog 103 #[.pointer p, .pointer none, .func (.yield l) #[] #[]] W fun e W' => (e = .returned (.bool true) ∧ KI w0 Rc Inv (A.length + t.toL.length) W') ∨ (e = .returned (.bool false) ∧ JX W') := by
  intro t
  induction t with
  | leaf =>
    intro n p A B W hT hz hK
    obtain rfl : p = none := hT
    refine callsIn_of_wp Try.func103 rfl trivial ?_ rfl
    simp only [Try.ntmps103, List.size_toArray, List.length_cons, List.length_nil, Nat.reduceAdd, Nat.reduceSub, Array.replicate_succ, Array.replicate_zero, List.push_toArray, List.append_toArray, List.nil_append, List.cons_append]
    gi_wp2
    go_ret
    exact .inl ⟨rfl, by simpa [BT.toL] using hK⟩
  | node tl k0 v0 tr ihl ihr =>
    intro n p A B W hT hz hK
    obtain ⟨bn, pl, pr, rfl, hn, hl, hr⟩ := hT
    have e1 : zs = A ++ tl.toL ++ ((k0, v0) :: tr.toL ++ B) := by rw [hz]; simp [BT.toL]
    have e2 : zs = (A ++ tl.toL ++ [(k0, v0)]) ++ tr.toL ++ B := by rw [hz]; simp [BT.toL]
    have e3 : zs.getD (A.length + tl.toL.length) d = (k0, v0) := by rw [e1]; simp [List.getD]
    have e4 : A.length + tl.toL.length < zs.length := by rw [e1]; simp
    have e5 : (A ++ tl.toL ++ [(k0, v0)]).length = A.length + tl.toL.length + 1 := by simp only [List.length_append, List.length_singleton]
    have e6 : A.length + tl.toL.length + 1 + tr.toL.length = A.length + (BT.node tl k0 v0 tr).toL.length := by simp only [BT.toL, List.length_append, List.length_cons]; omega
    have cc : ∀ k W', KI w0 Rc Inv k W' → W'.cell? ⟨bn, 0, none⟩ = some (.int .i64 k0) ∧ W'.cell? ⟨bn, 1, none⟩ = some (.int .i64 v0) ∧ W'.cell? ⟨bn, 2, none⟩ = some (.pointer pl) ∧ W'.cell? ⟨bn, 3, none⟩ = some (.pointer pr) := fun k W' h => by
      have hb : Blk W' bn 145 _ := h.1.2 bn _ _ hn
      exact ⟨hb.cell (i := 0) rfl, hb.cell (i := 1) rfl, hb.cell (i := 2) rfl, hb.cell (i := 3) rfl⟩
    have I1 := fun W (h : KI w0 Rc Inv A.length W) => ihl (n - 1) pl A _ W hl e1 h
    have I2 := fun W (h : KI w0 Rc Inv (A.length + tl.toL.length + 1) W) => ihr (n - 1) pr _ B W hr e2 (by rw [e5]; exact h)
    have Y := fun W (h : KI w0 Rc Inv (A.length + tl.toL.length) W) => yieldAny (n - 1) (hY _ W e4 h)
    rw [e3] at Y
    rw [e5, e6] at I2
    unfold ek ev at Y
    have H1 := Lib.hid I1; have H2 := Lib.hid I2; have HY := Lib.hid Y; have HC := Lib.hid cc
    have HK := Lib.hid hK
    clear I1 I2 Y cc hY ihl ihr hz e1 e2 e3 e4 e5 e6 hl hr hn hK
    refine callsIn_of_wp Try.func103 rfl trivial ?_ rfl
    simp only [Try.ntmps103, List.size_toArray, List.length_cons, List.length_nil, Nat.reduceAdd, Nat.reduceSub, Array.replicate_succ, Array.replicate_zero, List.push_toArray, List.append_toArray, List.nil_append, List.cons_append]
    gi_wp2_with fail
    refine wpIn_wide.2 ?_
    go_quiet (fail)
    gi_wp2_with fail
    refine wpIn_region_any (by kernel_rfl) ?_
    change wpAnyIn _ _ _ _ _ _ _ _ _ (World.drew _)
    have HK1 : KI w0 Rc Inv A.length (World.drew (W.drewN nq)) := hR _ _ 1 (hR _ _ nq HK.out)
    obtain ⟨w1, hw1⟩ : ∃ w1, World.drew (W.drewN nq) = w1 := ⟨_, rfl⟩
    rw [hw1] at HK1 ⊢
    clear hw1
    obtain ⟨c0, c1, c2, c3⟩ := HC.out _ _ HK1
    have HK1 := Lib.hid HK1
    refine wpAnyIn_take (i := 0) (v := ?_) rfl rfl (by kernel_rfl) (by kernel_rfl) (by kernel_rfl) (fun _ _ _ h => h) ⟨Or.inl ⟨by rfl, ?_⟩, fun _ => rfl⟩ ?_
    rotate_left
    · (intro w; go_simp) <;> with_reducible rfl
    try go_simp
    refine wpAnyIn_take (i := 1) (v := ?_) rfl rfl (by kernel_rfl) (by kernel_rfl) (by kernel_rfl) (fun _ _ _ h => h) ⟨Or.inl ⟨by rfl, ?_⟩, fun _ => rfl⟩ ?_
    rotate_left
    · (intro w; go_simp) <;> with_reducible rfl
    try go_simp
    refine wpAnyIn_take (i := 2) (v := ?_) rfl rfl (by kernel_rfl) (by kernel_rfl) (by kernel_rfl) (fun _ _ _ h => h) ⟨Or.inl ⟨by rfl, ?_⟩, fun _ => rfl⟩ ?_
    rotate_left
    · (intro w; go_simp) <;> with_reducible rfl
    try go_simp
    refine wpAnyIn_take (i := 4) (v := ?_) rfl rfl (by kernel_rfl) (by kernel_rfl) (by kernel_rfl) (fun _ _ _ h => h) ⟨Or.inl ⟨by rfl, ?_⟩, fun _ => rfl⟩ ?_
    rotate_left
    · (intro w; go_simp) <;> with_reducible rfl
    try go_simp
    refine wpAnyIn_take (i := 5) (v := ?_) rfl rfl (by kernel_rfl) (by kernel_rfl) (by kernel_rfl) (fun _ _ _ h => h) ⟨Or.inl ⟨by rfl, ?_⟩, fun _ => rfl⟩ ?_
    rotate_left
    · (intro w; go_simp) <;> with_reducible rfl
    try go_simp
    refine wpAnyIn_ready (rs := [3]) (by kernel_rfl) (by simp) (AllReadyIn.cons rfl (fun K hK => ?_) AllReadyIn.nil)
    go_simp
    refine hK _ _ ?_
    clear hK K
    try go_simp
    refine wpAnyIn_ready (rs := [6]) (by kernel_rfl) (by simp) (AllReadyIn.cons rfl (fun K hK => ?_) AllReadyIn.nil)
    go_simp
    gi_wp2_with (refine ⟨trivial, (fun h => (by cases h)), ?_⟩; gi_at_call 103; refine (H1.out _ HK1.out).mono ?_; rintro e w2 (⟨rfl, HK2⟩ | ⟨rfl, hJ⟩))
    · clear c0 c1 c2 c3 HK1
      obtain ⟨c0, c1, c2, c3⟩ := HC.out _ _ HK2
      obtain ⟨fn, tmps, assign, body, hy, hRn⟩ := HY.out _ HK2
      clear HK2
      refine wpAnyIn_take (i := 7) (v := ?_) rfl rfl (by kernel_rfl) (by kernel_rfl) (by kernel_rfl) (fun _ _ _ h => h) ⟨Or.inl ⟨by rfl, ?_⟩, fun _ => rfl⟩ ?_
      rotate_left
      · (intro w; go_simp) <;> with_reducible rfl
      try go_simp
      refine wpAnyIn_take (i := 8) (v := ?_) rfl rfl (by kernel_rfl) (by kernel_rfl) (by kernel_rfl) (fun _ _ _ h => h) ⟨Or.inl ⟨by rfl, ?_⟩, fun _ => rfl⟩ ?_
      rotate_left
      · (intro w; go_simp) <;> with_reducible rfl
      try go_simp
      refine wpAnyIn_take (i := 9) (v := ?_) rfl rfl (by kernel_rfl) (by kernel_rfl) (by kernel_rfl) (fun _ _ _ h => h) ⟨Or.inl ⟨by rfl, ?_⟩, fun _ => rfl⟩ ?_
      rotate_left
      · (intro w; go_simp) <;> with_reducible rfl
      try go_simp
      refine wpAnyIn_take (i := 10) (v := ?_) rfl rfl (by kernel_rfl) (by kernel_rfl) (by kernel_rfl) (fun _ _ _ h => h) ⟨Or.inl ⟨by rfl, ?_⟩, fun _ => rfl⟩ ?_
      rotate_left
      · (intro w; go_simp) <;> with_reducible rfl
      try go_simp
      refine wpAnyIn_take (i := 11) (v := ?_) rfl rfl (by kernel_rfl) (by kernel_rfl) (by kernel_rfl) (fun _ _ _ h => h) ⟨Or.inl ⟨by rfl, ?_⟩, fun _ => rfl⟩ ?_
      rotate_left
      · (intro w; go_simp) <;> with_reducible rfl
      try go_simp
      refine wpAnyIn_take (i := 13) (v := ?_) rfl rfl (by kernel_rfl) (by kernel_rfl) (by kernel_rfl) (fun _ _ _ h => h) ⟨Or.inl ⟨by rfl, ?_⟩, fun _ => rfl⟩ ?_
      rotate_left
      · (intro w; go_simp) <;> with_reducible rfl
      try go_simp
      refine wpAnyIn_take (i := 14) (v := ?_) rfl rfl (by kernel_rfl) (by kernel_rfl) (by kernel_rfl) (fun _ _ _ h => h) ⟨Or.inl ⟨by rfl, ?_⟩, fun _ => rfl⟩ ?_
      rotate_left
      · (intro w; go_simp) <;> with_reducible rfl
      try go_simp
      refine wpAnyIn_take (i := 15) (v := ?_) rfl rfl (by kernel_rfl) (by kernel_rfl) (by kernel_rfl) (fun _ _ _ h => h) ⟨Or.inl ⟨by rfl, ?_⟩, fun _ => rfl⟩ ?_
      rotate_left
      · (intro w; go_simp) <;> with_reducible rfl
      try go_simp
      refine wpAnyIn_ready (rs := [12, 16]) (by kernel_rfl) (by simp) (AllReadyIn.cons rfl (fun K hK => ?_) (AllReadyIn.cons rfl (fun K hK => ?_) AllReadyIn.nil))
      all_goals
        go_simp
        refine hK _ _ ?_
        clear hK K
        try go_simp
      refine wpAnyIn_ready (rs := [16]) (by kernel_rfl) (by simp) (AllReadyIn.cons rfl (fun K hK => ?_) AllReadyIn.nil)
      go_simp
      refine hK _ _ ?_
      clear hK K
      try go_simp
      rotate_left
      refine wpAnyIn_ready (rs := [12]) (by kernel_rfl) (by simp) (AllReadyIn.cons rfl (fun K hK => ?_) AllReadyIn.nil)
      go_simp
      refine hK _ _ ?_
      clear hK K
      try go_simp
      all_goals
        refine wpAnyIn_ready (rs := [17]) (by kernel_rfl) (by simp) (AllReadyIn.cons rfl (fun K hK => ?_) AllReadyIn.nil)
        go_simp
        refine ⟨fun h => (by cases h), ?_⟩
        refine hRn.mono ?_
        clear hRn hy
        rintro e w3 (⟨rfl, HK3⟩ | ⟨rfl, hJ⟩)
        · refine hK _ _ ?_
          clear hK K c0 c1 c2 c3
          obtain ⟨c0, c1, c2, c3⟩ := HC.out _ _ HK3
          have HK3 := Lib.hid HK3
          try go_simp
          refine wpAnyIn_take (i := 18) (v := ?_) rfl rfl (by kernel_rfl) (by kernel_rfl) (by kernel_rfl) (fun _ _ _ h => h) ⟨Or.inl ⟨by rfl, ?_⟩, fun _ => rfl⟩ ?_
          rotate_left
          · (intro w; go_simp) <;> with_reducible rfl
          try go_simp
          refine wpAnyIn_take (i := 19) (v := ?_) rfl rfl (by kernel_rfl) (by kernel_rfl) (by kernel_rfl) (fun _ _ _ h => h) ⟨Or.inl ⟨by rfl, ?_⟩, fun _ => rfl⟩ ?_
          rotate_left
          · (intro w; go_simp) <;> with_reducible rfl
          try go_simp
          refine wpAnyIn_take (i := 20) (v := ?_) rfl rfl (by kernel_rfl) (by kernel_rfl) (by kernel_rfl) (fun _ _ _ h => h) ⟨Or.inl ⟨by rfl, ?_⟩, fun _ => rfl⟩ ?_
          rotate_left
          · (intro w; go_simp) <;> with_reducible rfl
          try go_simp
          refine wpAnyIn_take (i := 21) (v := ?_) rfl rfl (by kernel_rfl) (by kernel_rfl) (by kernel_rfl) (fun _ _ _ h => h) ⟨Or.inl ⟨by rfl, ?_⟩, fun _ => rfl⟩ ?_
          rotate_left
          · (intro w; go_simp) <;> with_reducible rfl
          try go_simp
          refine wpAnyIn_take (i := 22) (v := ?_) rfl rfl (by kernel_rfl) (by kernel_rfl) (by kernel_rfl) (fun _ _ _ h => h) ⟨Or.inl ⟨by rfl, ?_⟩, fun _ => rfl⟩ ?_
          rotate_left
          · (intro w; go_simp) <;> with_reducible rfl
          try go_simp
          refine wpAnyIn_take (i := 24) (v := ?_) rfl rfl (by kernel_rfl) (by kernel_rfl) (by kernel_rfl) (fun _ _ _ h => h) ⟨Or.inl ⟨by rfl, ?_⟩, fun _ => rfl⟩ ?_
          rotate_left
          · (intro w; go_simp) <;> with_reducible rfl
          try go_simp
          refine wpAnyIn_ready (rs := [23]) (by kernel_rfl) (by simp) (AllReadyIn.cons rfl (fun K hK => ?_) AllReadyIn.nil)
          go_simp
          refine hK _ _ ?_
          clear hK K
          try go_simp
          refine wpAnyIn_ready (rs := [25]) (by kernel_rfl) (by simp) (AllReadyIn.cons rfl (fun K hK => ?_) AllReadyIn.nil)
          go_simp
          gi_wp2_with (refine ⟨trivial, (fun h => (by cases h)), ?_⟩; gi_at_call 103; refine (H2.out _ HK3.out).mono ?_; rintro e w4 (⟨rfl, HK4⟩ | ⟨rfl, hJ⟩))
          all_goals
            refine wpAnyIn_take (i := 26) (v := ?_) rfl rfl (by kernel_rfl) (by kernel_rfl) (by kernel_rfl) (fun _ _ _ h => h) ⟨Or.inl ⟨by rfl, ?_⟩, fun _ => rfl⟩ ?_
            rotate_left
            · (intro w; go_simp) <;> with_reducible rfl
            try go_simp
            refine wpAnyIn_take (i := 27) (v := ?_) rfl rfl (by kernel_rfl) (by kernel_rfl) (by kernel_rfl) (fun _ _ _ h => h) ⟨Or.inl ⟨by rfl, ?_⟩, fun _ => rfl⟩ ?_
            rotate_left
            · (intro w; go_simp) <;> with_reducible rfl
            try go_simp
            refine wpAnyIn_done (by kernel_rfl) ?_ _
            gi_wp2_with fail
            go_ret
          · exact .inl ⟨rfl, HK4⟩
          · exact .inr ⟨rfl, hJ⟩
        · refine hK _ _ ?_
          clear hK K
          try go_simp
          refine wpAnyIn_take (i := 18) (v := ?_) rfl rfl (by kernel_rfl) (by kernel_rfl) (by kernel_rfl) (fun _ _ _ h => h) ⟨Or.inl ⟨by rfl, ?_⟩, fun _ => rfl⟩ ?_
          rotate_left
          · (intro w; go_simp) <;> with_reducible rfl
          try go_simp
          refine wpAnyIn_take (i := 19) (v := ?_) rfl rfl (by kernel_rfl) (by kernel_rfl) (by kernel_rfl) (fun _ _ _ h => h) ⟨Or.inl ⟨by rfl, ?_⟩, fun _ => rfl⟩ ?_
          rotate_left
          · (intro w; go_simp) <;> with_reducible rfl
          try go_simp
          refine wpAnyIn_take (i := 20) (v := undef) rfl rfl (by kernel_rfl) (by kernel_rfl) (by kernel_rfl) (fun _ _ _ h => h) ⟨Or.inr ⟨by rfl, rfl⟩, fun _ => rfl⟩ ?_
          try go_simp
          refine wpAnyIn_take (i := 21) (v := undef) rfl rfl (by kernel_rfl) (by kernel_rfl) (by kernel_rfl) (fun _ _ _ h => h) ⟨Or.inr ⟨by rfl, rfl⟩, fun _ => rfl⟩ ?_
          try go_simp
          refine wpAnyIn_take (i := 22) (v := undef) rfl rfl (by kernel_rfl) (by kernel_rfl) (by kernel_rfl) (fun _ _ _ h => h) ⟨Or.inr ⟨by rfl, rfl⟩, fun _ => rfl⟩ ?_
          try go_simp
          refine wpAnyIn_take (i := 23) (v := undef) rfl rfl (by kernel_rfl) (by kernel_rfl) (by kernel_rfl) (fun _ _ _ h => h) ⟨Or.inr ⟨by rfl, rfl⟩, fun _ => rfl⟩ ?_
          try go_simp
          refine wpAnyIn_take (i := 24) (v := undef) rfl rfl (by kernel_rfl) (by kernel_rfl) (by kernel_rfl) (fun _ _ _ h => h) ⟨Or.inr ⟨by rfl, rfl⟩, fun _ => rfl⟩ ?_
          try go_simp
          refine wpAnyIn_ready (rs := [25]) (by kernel_rfl) (by simp) (AllReadyIn.cons rfl (fun K hK => ?_) AllReadyIn.nil)
          refine Eq.mpr (if_neg (Bool.eq_false_iff.mp (by rfl))) ?_
          refine ⟨fun _ _ => trivial, hK _ _ ?_⟩
          clear hK K
          try go_simp
          refine wpAnyIn_take (i := 26) (v := ?_) rfl rfl (by kernel_rfl) (by kernel_rfl) (by kernel_rfl) (fun _ _ _ h => h) ⟨Or.inl ⟨by rfl, ?_⟩, fun _ => rfl⟩ ?_
          rotate_left
          · (intro w; go_simp) <;> with_reducible rfl
          try go_simp
          refine wpAnyIn_take (i := 27) (v := ?_) rfl rfl (by kernel_rfl) (by kernel_rfl) (by kernel_rfl) (fun _ _ _ h => h) ⟨Or.inl ⟨by rfl, ?_⟩, fun _ => rfl⟩ ?_
          rotate_left
          · (intro w; go_simp) <;> with_reducible rfl
          try go_simp
          refine wpAnyIn_done (by kernel_rfl) ?_ _
          gi_wp2_with fail
          go_ret
          exact .inr ⟨rfl, hJ⟩
    ·
      refine wpAnyIn_take (i := 7) (v := ?_) rfl rfl (by kernel_rfl) (by kernel_rfl) (by kernel_rfl) (fun _ _ _ h => h) ⟨Or.inl ⟨by rfl, ?_⟩, fun _ => rfl⟩ ?_
      rotate_left
      · (intro w; go_simp) <;> with_reducible rfl
      try go_simp
      refine wpAnyIn_take (i := 8) (v := undef) rfl rfl (by kernel_rfl) (by kernel_rfl) (by kernel_rfl) (fun _ _ _ h => h) ⟨Or.inr ⟨by rfl, rfl⟩, fun _ => rfl⟩ ?_
      try go_simp
      refine wpAnyIn_take (i := 9) (v := undef) rfl rfl (by kernel_rfl) (by kernel_rfl) (by kernel_rfl) (fun _ _ _ h => h) ⟨Or.inr ⟨by rfl, rfl⟩, fun _ => rfl⟩ ?_
      try go_simp
      refine wpAnyIn_take (i := 10) (v := undef) rfl rfl (by kernel_rfl) (by kernel_rfl) (by kernel_rfl) (fun _ _ _ h => h) ⟨Or.inr ⟨by rfl, rfl⟩, fun _ => rfl⟩ ?_
      try go_simp
      refine wpAnyIn_take (i := 11) (v := undef) rfl rfl (by kernel_rfl) (by kernel_rfl) (by kernel_rfl) (fun _ _ _ h => h) ⟨Or.inr ⟨by rfl, rfl⟩, fun _ => rfl⟩ ?_
      try go_simp
      refine wpAnyIn_take (i := 12) (v := undef) rfl rfl (by kernel_rfl) (by kernel_rfl) (by kernel_rfl) (fun _ _ _ h => h) ⟨Or.inr ⟨by rfl, rfl⟩, fun _ => rfl⟩ ?_
      try go_simp
      refine wpAnyIn_take (i := 13) (v := undef) rfl rfl (by kernel_rfl) (by kernel_rfl) (by kernel_rfl) (fun _ _ _ h => h) ⟨Or.inr ⟨by rfl, rfl⟩, fun _ => rfl⟩ ?_
      try go_simp
      refine wpAnyIn_take (i := 14) (v := undef) rfl rfl (by kernel_rfl) (by kernel_rfl) (by kernel_rfl) (fun _ _ _ h => h) ⟨Or.inr ⟨by rfl, rfl⟩, fun _ => rfl⟩ ?_
      try go_simp
      refine wpAnyIn_take (i := 15) (v := undef) rfl rfl (by kernel_rfl) (by kernel_rfl) (by kernel_rfl) (fun _ _ _ h => h) ⟨Or.inr ⟨by rfl, rfl⟩, fun _ => rfl⟩ ?_
      try go_simp
      refine wpAnyIn_take (i := 16) (v := undef) rfl rfl (by kernel_rfl) (by kernel_rfl) (by kernel_rfl) (fun _ _ _ h => h) ⟨Or.inr ⟨by rfl, rfl⟩, fun _ => rfl⟩ ?_
      try go_simp
      refine wpAnyIn_ready (rs := [17]) (by kernel_rfl) (by simp) (AllReadyIn.cons rfl (fun K hK => ?_) AllReadyIn.nil)
      refine Eq.mpr (if_neg (Bool.eq_false_iff.mp (by rfl))) ?_
      refine ⟨fun _ _ => trivial, hK _ _ ?_⟩
      clear hK K
      try go_simp
      refine wpAnyIn_take (i := 18) (v := ?_) rfl rfl (by kernel_rfl) (by kernel_rfl) (by kernel_rfl) (fun _ _ _ h => h) ⟨Or.inl ⟨by rfl, ?_⟩, fun _ => rfl⟩ ?_
      rotate_left
      · (intro w; go_simp) <;> with_reducible rfl
      try go_simp
      refine wpAnyIn_take (i := 19) (v := ?_) rfl rfl (by kernel_rfl) (by kernel_rfl) (by kernel_rfl) (fun _ _ _ h => h) ⟨Or.inl ⟨by rfl, ?_⟩, fun _ => rfl⟩ ?_
      rotate_left
      · (intro w; go_simp) <;> with_reducible rfl
      try go_simp
      refine wpAnyIn_take (i := 20) (v := undef) rfl rfl (by kernel_rfl) (by kernel_rfl) (by kernel_rfl) (fun _ _ _ h => h) ⟨Or.inr ⟨by rfl, rfl⟩, fun _ => rfl⟩ ?_
      try go_simp
      refine wpAnyIn_take (i := 21) (v := undef) rfl rfl (by kernel_rfl) (by kernel_rfl) (by kernel_rfl) (fun _ _ _ h => h) ⟨Or.inr ⟨by rfl, rfl⟩, fun _ => rfl⟩ ?_
      try go_simp
      refine wpAnyIn_take (i := 22) (v := undef) rfl rfl (by kernel_rfl) (by kernel_rfl) (by kernel_rfl) (fun _ _ _ h => h) ⟨Or.inr ⟨by rfl, rfl⟩, fun _ => rfl⟩ ?_
      try go_simp
      refine wpAnyIn_take (i := 23) (v := undef) rfl rfl (by kernel_rfl) (by kernel_rfl) (by kernel_rfl) (fun _ _ _ h => h) ⟨Or.inr ⟨by rfl, rfl⟩, fun _ => rfl⟩ ?_
      try go_simp
      refine wpAnyIn_take (i := 24) (v := undef) rfl rfl (by kernel_rfl) (by kernel_rfl) (by kernel_rfl) (fun _ _ _ h => h) ⟨Or.inr ⟨by rfl, rfl⟩, fun _ => rfl⟩ ?_
      try go_simp
      refine wpAnyIn_ready (rs := [25]) (by kernel_rfl) (by simp) (AllReadyIn.cons rfl (fun K hK => ?_) AllReadyIn.nil)
      refine Eq.mpr (if_neg (Bool.eq_false_iff.mp (by rfl))) ?_
      refine ⟨fun _ _ => trivial, hK _ _ ?_⟩
      clear hK K
      try go_simp
      refine wpAnyIn_take (i := 26) (v := ?_) rfl rfl (by kernel_rfl) (by kernel_rfl) (by kernel_rfl) (fun _ _ _ h => h) ⟨Or.inl ⟨by rfl, ?_⟩, fun _ => rfl⟩ ?_
      rotate_left
      · (intro w; go_simp) <;> with_reducible rfl
      try go_simp
      refine wpAnyIn_take (i := 27) (v := ?_) rfl rfl (by kernel_rfl) (by kernel_rfl) (by kernel_rfl) (fun _ _ _ h => h) ⟨Or.inl ⟨by rfl, ?_⟩, fun _ => rfl⟩ ?_
      rotate_left
      · (intro w; go_simp) <;> with_reducible rfl
      try go_simp
      refine wpAnyIn_done (by kernel_rfl) ?_ _
      gi_wp2_with fail
      go_ret
      exact .inr ⟨rfl, hJ⟩
end

end Go.Proofs.Ytmdacfgofilbdaa.TabB
