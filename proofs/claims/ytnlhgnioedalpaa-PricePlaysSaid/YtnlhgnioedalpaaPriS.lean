/- price: the other methods of a store. -/
import Derived.Test.YtnlhgnioedalpaaPriP
import Derived.BigQuiet
set_option linter.unusedSimpArgs false
set_option linter.unusedVariables false
namespace Go.Proofs.Ytnlhgnioedalpaa.Pri
open Go.RowKit Go.Proofs.YtnlhgnioedalpaaW.PrintWords Go.Proofs.Ytnlhgnioedalpaa.PPricePlays
attribute [local go_sem] Oper.semAt_some

theorem wrap_succ {i : Nat} (h : i < 9223372036854775807) : wrap64 ((i : Int) + 1) = ((i + 1 : Nat) : Int) := by unfold wrap64; omega
theorem rdE (l : List En) {i : Nat} (hi : i < l.length) : rd_T41 (l.map toE) (i : Int) = toE l[i] := by simp [rd_T41, hi]
theorem equal_l0 (l m : List En) (he : l.length = m.length) (hl : l.length ≤ 1099511627776) : ∀ e i, i + e = l.length → Ev (fun k => api_Entry_61.l0 k (l.map toE) (m.map toE) (l.length : Int) (i : Int)) (decide (l.drop i = m.drop i)) := by
  intro e
  induction e with
  | zero =>
    intro i hi
    rw [List.drop_eq_nil_of_le (show l.length ≤ i by omega), List.drop_eq_nil_of_le (show m.length ≤ i by omega), decide_eq_true rfl]
    refine Ev.step (f := fun _ => some true) (fun k => ?_) (Ev.now _)
    simp only [api_Entry_61.l0, List.length_map]
    rw [if_neg (by omega)]
  | succ e ih =>
    intro i hi
    have hil : i < l.length := by omega
    have him : i < m.length := by omega
    have e1 : l.drop i = l[i] :: l.drop (i + 1) := (List.getElem_cons_drop ..).symm
    have e2 : m.drop i = m[i] :: m.drop (i + 1) := (List.getElem_cons_drop ..).symm
    by_cases h : l[i] = m[i]
    · have hd : decide (l.drop i = m.drop i) = decide (l.drop (i + 1) = m.drop (i + 1)) := decide_eq_decide.2 (by rw [e1, e2, h]; exact ⟨fun q => (List.cons.inj q).2, fun q => by rw [q]⟩)
      rw [hd]
      refine Ev.step (f := fun k => api_Entry_61.l0 k (l.map toE) (m.map toE) (l.length : Int) ((i + 1 : Nat) : Int)) (fun k => ?_) (ih (i + 1) (by omega))
      simp only [api_Entry_61.l0, List.length_map]
      rw [if_pos (by omega), if_pos (by omega), if_pos (by omega), if_pos (by omega), rdE l hil, rdE m him, h, if_neg (by simp), wrap_succ (by omega)]
    · have hd : decide (l.drop i = m.drop i) = false := by rw [e1, e2]; exact decide_eq_false (fun q => h (List.cons.inj q).1)
      rw [hd]
      refine Ev.step (f := fun _ => some false) (fun k => ?_) (Ev.now _)
      simp only [api_Entry_61.l0, List.length_map]
      rw [if_pos (by omega), if_pos (by omega), if_pos (by omega), if_pos (by omega), rdE l hil, rdE m him, if_pos]
      have : ¬ (l[i].1 = m[i].1 ∧ l[i].2 = m[i].2) := fun hh => h (Prod.ext hh.1 hh.2)
      simp only [toE]
      by_cases h1 : l[i].1 = m[i].1
      · have h2 : ¬ l[i].2 = m[i].2 := fun hh => this ⟨h1, hh⟩
        simp [h1, h2]
      · simp [h1]
theorem equal_ev (l m : List En) (hl : l.length ≤ 1099511627776) : Ev (fun k => api_Entry_61.f k (l.map toE) (m.map toE)) (decide (l = m)) := by
  by_cases he : l.length = m.length
  · refine Ev.congr (fun k => ?_) (equal_l0 l m he hl l.length 0 (by omega))
    simp only [api_Entry_61.f, List.length_map]
    rw [if_pos (by omega)]
    rfl
  · have hd : decide (l = m) = false := by simp; intro h; exact he (congrArg List.length h)
    rw [hd]
    refine Ev.congr (fun k => ?_) (Ev.now (r := false))
    simp only [api_Entry_61.f, List.length_map]
    rw [if_neg (by omega)]
theorem equal_any (W : World) (v u : Value) (l m : List En) (h : PE W v l) (k : PE W u m) (hl : l.length ≤ 1099511627776) :
    Calls Try.prog 61 #[v, u] W fun e w' => e = .returned (.bool (decide (l = m))) ∧ Below W.heap.size W w' := by
  obtain ⟨A, c, rfl, h1, _, h2⟩ := h
  obtain ⟨B, d, rfl, k1, _, k2⟩ := k
  obtain ⟨n, hn⟩ := (equal_ev l m hl).rounds
  have := api_Entry_61.calls n A c (l.map toE) B d (m.map toE) (decide (l = m)) W (by rw [List.length_map]; exact h2) (by rw [List.length_map]; exact h1) (by rw [List.length_map]; exact k2) (by rw [List.length_map]; exact k1) hn
  rw [List.length_map, List.length_map] at this
  exact this.mono fun e w' ⟨x, y⟩ => ⟨x, y.below⟩
theorem list_any (W : World) (p : Nat) (es : List En) (h : PR W p es) (hl : es.length ≤ 1099511627776) :
    Calls Try.prog 17 #[.pointer (some ⟨p, 0, none⟩)] W fun e w' => ∃ v', e = .returned v' ∧ w'.ownsRow W.heap.size tE 2 v' es.length (cellsOf cE es) ∧ Below W.heap.size W w' := by
  obtain ⟨v, hb, hpe⟩ := h
  have cp := hb.cell (i := 0) rfl
  have C := Lib.hid (clone_any W v es hpe hl)
  clear hb hpe
  go_enter Try.func17, Try.ntmps17
  go_wp2_with fail
  refine C.out.mono ?_; rintro e w1 ⟨v', rfl, ho, hb⟩
  have HO := Lib.hid ho; have HB := Lib.hid hb
  clear ho hb
  go_wp2_with fail
  exact bodyPost_ret (v := v') (by simp [results, Try.f17, go_sem]) rfl ⟨_, rfl, HO.out, HB.out⟩
theorem len_any (W : World) (p : Nat) (es : List En) (h : PR W p es) :
    Calls Try.prog 18 #[.pointer (some ⟨p, 0, none⟩)] W fun e w' => e = .returned (.int .i64 (es.length : Int)) ∧ W = w' := by
  obtain ⟨v, hb, hpe⟩ := h
  have cp := hb.cell (i := 0) rfl
  obtain ⟨A, c, rfl, -⟩ := hpe
  clear hb
  go_enter Try.func18, Try.ntmps18
  go_wp2_with fail
  go_ret
  exact ⟨rfl, rfl⟩
theorem sclone_any (W : World) (p : Nat) (es : List En) (h : PR W p es) (hl : es.length ≤ 1099511627776) :
    Calls Try.prog 27 #[.pointer (some ⟨p, 0, none⟩)] W fun e w' => ∃ q : Nat, e = .returned (.pointer (some ⟨q, 0, none⟩)) ∧ W.heap.size ≤ q ∧ PR w' q es ∧ Below W.heap.size W w' := by
  have C := Lib.hid (list_any W p es h hl)
  go_enter Try.func27, Try.ntmps27
  go_wp2_with fail
  refine C.out.mono ?_; rintro e w1 ⟨v', rfl, ho, hb⟩
  obtain ⟨A, c, rfl⟩ := own_sl ho
  have hpe := pe_own hl ho
  have hal : Below w1.heap.size w1 (w1.alloc (.cells #[.slice A es.length c] tS)) := (Below.refl _ w1).alloc (Nat.le_refl _) _
  have HF := Lib.hid (show PR (w1.alloc (.cells #[.slice A es.length c] tS)) w1.heap.size es ∧ Below W.heap.size W (w1.alloc (.cells #[.slice A es.length c] tS)) ∧ W.heap.size ≤ w1.heap.size from
    ⟨⟨_, Blk.new w1 _ _, hpe.below hal⟩, hb.trans (hal.mono hb.size), hb.size⟩)
  clear ho hb hpe hal
  go_wp2_with fail
  exact bodyPost_ret (v := .pointer (some ⟨w1.heap.size, 0, none⟩)) (by simp [results, Try.f27, go_sem]) rfl ⟨_, rfl, HF.out.2.2, HF.out.1, HF.out.2.1⟩
set_option maxHeartbeats 2000000 in
theorem same_any (W : World) (p q : Nat) (l m : List En) (h : PR W p l) (k : PR W q m) (hl : l.length ≤ 1099511627776) :
    Calls Try.prog 26 #[.pointer (some ⟨p, 0, none⟩), .pointer (some ⟨q, 0, none⟩)] W fun e w' => e = .returned (.bool (decide (l = m))) ∧ Below W.heap.size W w' := by
  obtain ⟨v, hb, hpe⟩ := h
  obtain ⟨u, kb, kpe⟩ := k
  have cp := hb.cell (i := 0) rfl
  have cq := kb.cell (i := 0) rfl
  obtain ⟨o, ho⟩ : ∃ o, decide (l = m) = o := ⟨_, rfl⟩
  have C := equal_any W.drew v u l m (hpe.below ((Below.refl _ W).drew)) (kpe.below ((Below.refl _ W).drew)) hl
  rw [ho] at C ⊢
  have HC := Lib.hid C
  clear C hb kb hpe kpe ho
  go_enter Try.func26, Try.ntmps26
  go_wp2_with fail
  go_region_with ((go_at_call 61; refine HC.out.mono ?_; rintro e w2 ⟨rfl, hb2⟩))
  all_goals
    go_wp2_with fail
    go_ret
    exact ⟨rfl, ((Below.refl _ W).drew).trans hb2⟩

theorem put_len (es : List En) (s a : Int) : (putP es s a).length ≤ es.length + 1 := by
  unfold putP
  split
  · have h1 : ∀ l : List En, (insL l s a).length = l.length + 1 := fun l => by
      induction l with
      | nil => rfl
      | cons e r ih => simp only [insL]; split <;> simp [ih]
    have h2 : (delL es s a).length ≤ es.length := List.length_filter_le ..
    rw [h1]; omega
  · omega
theorem UE.put {es : List En} (h : UE es) {s : Int} (hs : U s) (a : Int) : UE (putP es s a) := by
  unfold putP
  split
  · intro e he
    rcases ins_mem.1 he with rfl | he
    · exact hs
    · exact h.del s a e he
  · exact h
theorem ofL_take {es : List En} {k : Nat} (hk : k < es.length) : ofL (es.take (k + 1)) = putP (ofL (es.take k)) (es.getD k dE).1 (es.getD k dE).2 := by
  rw [List.take_succ_eq_append_getElem hk, show es.getD k dE = es[k] from by simp [List.getD, hk]]
  unfold ofL
  rw [List.foldl_append]
  rfl
theorem SR.put {W W' : World} {p : Nat} {es : List En} {s a : Int} (h : SR W p es) (hs : U s) (hp : PR W' p (putP es s a)) (hl : es.length < 100000000) : SR W' p (putP es s a) :=
  ⟨hp, h.ue.put hs a, h.ti.put hs a, by have := put_len es s a; omega⟩
/-- Put, told of a store of puts -/
theorem sput_any (W : World) (p : Nat) (es : List En) (s a : Int) (h : SR W p es) (hs : U s) :
    Calls Try.prog 25 #[.pointer (some ⟨p, 0, none⟩), .int .u64 s, .int .i64 a] W fun e w' => e = .returned (.bool (okP es s a)) ∧ PR w' p (putP es s a) ∧ W.grownBy w' (some p) := put_any W p es s a h.pr h.ue h.ti hs h.len
theorem sput_anyF (W : World) (p : Nat) (es : List En) (s a : Int) (h : SR W p es) (hs : U s) :
    Calls Try.prog 25 #[.pointer (some ⟨p, 0, none⟩), .int .u64 s, .int .i64 a] W fun e w' => e = .returned (.bool (okP es s a)) ∧ PR w' p (putP es s a) ∧ W.grownBy w' (some p) ∧ NF W w' p := put_anyF W p es s a h.pr h.ue h.ti hs h.len
theorem sask_any (W : World) (p : Nat) (es : List En) (s : Int) (h : SR W p es) (hs : U s) :
    Calls Try.prog 21 #[.pointer (some ⟨p, 0, none⟩), .int .u64 s] W fun e w' => e = .returned (.int .i64 (askL es s)) ∧ Below W.heap.size W w' := ask_any W p es s h.pr h.ue hs (by have := h.len; omega)
set_option maxRecDepth 100000 in
set_option maxHeartbeats 4000000 in
theorem of_any (W : World) (v : Value) (es : List En) (h : PE W v es) (hU : UE es) (hl : es.length ≤ 1000000) :
    Calls Try.prog 23 #[v] W fun e w' => e = .returned (.pointer (some ⟨W.heap.size, 0, none⟩)) ∧ SR w' W.heap.size (ofL es) ∧ (ofL es).length ≤ es.length ∧ Below W.heap.size W w' := by
  have H := Lib.hid h
  obtain ⟨A, c, rfl, -⟩ := h
  have HS0 := Lib.hid (show SR (W.alloc (.cells #[.slice none 0 0] tS)) W.heap.size (ofL (es.take 0)) ∧ Below W.heap.size W (W.alloc (.cells #[.slice none 0 0] tS)) from
    ⟨⟨⟨_, Blk.new W _ _, pe_nil _⟩, by intro e he; simp [ofL] at he, Tight.nil, by simp [ofL]⟩, (Below.refl _ W).alloc (Nat.le_refl _) _⟩)
  go_enter Try.func23, Try.ntmps23
  go_wp2_with fail
  go_loopw [10] (fun i wr => ∃ k : Nat, k ≤ es.length ∧ i = .int .i64 (k : Int) ∧ SR wr W.heap.size (ofL (es.take k)) ∧ (ofL (es.take k)).length ≤ k ∧ Below W.heap.size W wr) (fun i _ => es.length - (intOf i).toNat)
  case atStart => exact ⟨0, Nat.zero_le _, rfl, HS0.out.1, by simp [ofL], HS0.out.2⟩
  case round =>
    clear HS0
    obtain ⟨k, hk, rfl, hS, hlen, hB⟩ := hrel
    by_cases hlt : k < es.length
    · obtain ⟨⟨x, y⟩, hx⟩ : ∃ x, es[k] = x := ⟨_, rfl⟩
      have hx2 : es[k]? = some (x, y) := by rw [List.getElem?_eq_getElem hlt, hx]
      have hgd : es.getD k dE = (x, y) := by rw [List.getD_eq_getElem?_getD, hx2]; rfl
      have hux : U x := hU _ (List.mem_of_getElem? hx2)
      obtain ⟨b3, off3, c4, e1, hlb, r0, r1⟩ := (H.out.below hB).at hx2
      obtain ⟨rfl, rfl⟩ : A = some ⟨b3, off3, none⟩ ∧ c = c4 := by injection e1 with e1 e2 e3; exact ⟨e1, e3⟩
      simp only at r0 r1
      have hal : Below wr.heap.size wr (wr.alloc (.cells #[.int .u64 x, .int .i64 y] tE)) := (Below.refl _ wr).alloc (Nat.le_refl _) _
      have hot := ofL_take hlt
      rw [hgd] at hot
      have HPUT := Lib.hid (sput_any _ W.heap.size (ofL (es.take k)) x y (hS.below hal) hux)
      have HS := Lib.hid (hS.below hal); have HOT := Lib.hid hot; have HB := Lib.hid (hB.trans (hal.mono hB.size))
      clear hx hx2 hgd e1 hal hot hS hB
      go_wp2_with fail
      refine HPUT.out.mono ?_; rintro e w1 ⟨rfl, hp1, hg1⟩
      have HN := Lib.hid (show SR w1 W.heap.size (ofL (es.take (k + 1))) ∧ (ofL (es.take (k + 1))).length ≤ k + 1 ∧ Below W.heap.size W w1 from by
        have hpl := put_len (ofL (es.take k)) x y
        rw [HOT.out]
        exact ⟨HS.out.put hux hp1 (by omega), by omega, HB.out.grown hg1 HB.out.size (fun r e => by cases e; exact Nat.le_refl _)⟩)
      clear hp1 hg1 HPUT
      go_wp2_with fail
      go_roundw
      case rel => exact ⟨k + 1, by omega, by simp, HN.out.1, HN.out.2.1, HN.out.2.2⟩
      case measure => simp [intOf]; omega
    · obtain rfl : k = es.length := by omega
      rw [List.take_length] at hS hlen
      go_wp2_with fail
      go_ret
      exact ⟨rfl, hS, hlen, hB⟩
theorem tight_any (W : World) (v : Value) (es : List En) (h : PE W v es) (hU : UE es) (hl : es.length ≤ 1000000) :
    Calls Try.prog 20 #[v] W fun e w' => e = .returned (.bool (decide (ofL es = es))) ∧ Below W.heap.size W w' := by
  have H := Lib.hid h
  obtain ⟨o, ho⟩ : ∃ o, decide (ofL es = es) = o := ⟨_, rfl⟩
  have HO := Lib.hid ho
  rw [ho]
  clear ho
  go_enter Try.func20, Try.ntmps20
  go_wp2_with fail
  refine (of_any W v es H.out hU hl).mono ?_; rintro e w1 ⟨rfl, hS, hln, hb1⟩
  obtain ⟨u, hb, hpe⟩ := hS.pr
  have cp := hb.cell (i := 0) rfl
  have C := equal_any w1 u v (ofL es) es hpe (H.out.below hb1) (by omega)
  rw [HO.out] at C
  have HC := Lib.hid C; have HB1 := Lib.hid hb1
  clear C hb hpe hS hb1
  go_wp2_with fail
  refine HC.out.mono ?_; rintro e w2 ⟨rfl, hb2⟩
  go_wp2_with fail
  go_ret
  exact ⟨rfl, HB1.out.trans (hb2.mono HB1.out.size)⟩
def riseOk (es : List En) (s by0 : Int) : Bool := decide (1 ≤ by0) && decide (by0 ≤ 1099511627776) && okP es s (askL es s + by0)
def riseL (es : List En) (s by0 : Int) : List En := if riseOk es s by0 = true then putP es s (askL es s + by0) else es
def riseN (es : List En) (s by0 : Int) : Int := if riseOk es s by0 = true then askL es s + by0 else 0
theorem ask_le {es : List En} (h : Tight es) (s : Int) : askL es s ≤ most := by
  have h0 := ask_nonneg es s
  rcases Int.lt_or_le 0 (askL es s) with hp | hp
  · rcases ask_ge.1 (Int.le_refl (askL es s)) with h1 | ⟨e, he, _, h2⟩
    · omega
    · have := (h.ok e he).2.2.2; omega
  · have : (0 : Int) ≤ most := by decide
    omega
set_option maxHeartbeats 2000000 in
theorem rise_anyF (W : World) (p : Nat) (es : List En) (s n : Int) (h : SR W p es) (hs : U s) :
    Calls Try.prog 56 #[.pointer (some ⟨p, 0, none⟩), .int .u64 s, .int .i64 n] W fun e w' => e = .returned (.tuple #[.int .i64 (riseN es s n), .bool (riseOk es s n)]) ∧ PR w' p (riseL es s n) ∧ W.grownBy w' (some p) ∧ NF W w' p := by
  by_cases h1 : n < 1
  · have hr : riseOk es s n = false := by unfold riseOk; simp; omega
    have hr2 : riseN es s n = 0 := by unfold riseN; rw [hr]; rfl
    have hr3 : riseL es s n = es := by unfold riseL; rw [hr]; rfl
    rw [hr, hr2, hr3]
    clear hr hr2 hr3
    go_enter Try.func56, Try.ntmps56
    go_wp2_with fail
    go_ret2
    exact ⟨rfl, h.pr, below_gb (Below.refl _ W), NF.below h.pr.lt (Below.refl _ W)⟩
  · by_cases h2 : 1099511627776 < n
    · have hr : riseOk es s n = false := by unfold riseOk; simp; omega
      have hr2 : riseN es s n = 0 := by unfold riseN; rw [hr]; rfl
      have hr3 : riseL es s n = es := by unfold riseL; rw [hr]; rfl
      rw [hr, hr2, hr3]
      clear hr hr2 hr3
      go_enter Try.func56, Try.ntmps56
      go_wp2_with fail
      go_ret2
      exact ⟨rfl, h.pr, below_gb (Below.refl _ W), NF.below h.pr.lt (Below.refl _ W)⟩
    · have hal := ask_le h.ti s
      have han := ask_nonneg es s
      unfold most at hal
      obtain ⟨m, hm⟩ : ∃ m, askL es s = m := ⟨_, rfl⟩
      have hr : riseOk es s n = okP es s (m + n) := by unfold riseOk; rw [hm]; simp; omega
      have AK := sask_any W p es s h hs
      rw [hm] at AK hal han
      obtain ⟨o, ho⟩ : ∃ o, okP es s (m + n) = o := ⟨_, rfl⟩
      rw [ho] at hr
      have hr2 : riseN es s n = if o = true then m + n else 0 := by unfold riseN; rw [hr, hm]
      have hr3 : riseL es s n = if o = true then putP es s (m + n) else es := by unfold riseL; rw [hr, hm]
      have hpe : o = false → putP es s (m + n) = es := fun e => by unfold putP; rw [ho, e]; rfl
      rw [hr, hr2, hr3]
      have g1 : -9223372036854775808 ≤ m + n := by omega
      have g2 : m + n ≤ 9223372036854775807 := by omega
      have HAK := Lib.hid AK; have HO := Lib.hid ho; have HPE := Lib.hid hpe
      clear AK hr hr2 hr3 ho hpe hm hal han
      go_enter Try.func56, Try.ntmps56
      go_wp2_with fail
      refine HAK.out.mono ?_; rintro e w1 ⟨rfl, hb1⟩
      have HP := sput_anyF w1 p es s (m + n) (h.below hb1) hs
      rw [HO.out] at HP
      have HHP := Lib.hid HP; have HB1 := Lib.hid hb1
      clear HP hb1
      go_wp2_with fail
      refine HHP.out.mono ?_; rintro e w2 ⟨rfl, hp2, hg2, hn2⟩
      have HG := Lib.hid (show W.grownBy w2 (some p) ∧ NF W w2 p from ⟨gb_trans (below_gb (p := p) HB1.out) hg2, (NF.below h.pr.lt HB1.out).trans hn2 HB1.out.size hg2.size⟩); have HP2 := Lib.hid hp2
      clear hp2 hg2 hn2
      cases o with
      | true =>
        go_wp2_with fail
        go_ret2
        exact ⟨rfl, HP2.out, HG.out⟩
      | false =>
        go_wp2_with fail
        go_ret2
        exact ⟨rfl, by have := HP2.out; rw [HPE.out (by first | trivial | rfl)] at this; exact this, HG.out⟩

theorem rise_any (W : World) (p : Nat) (es : List En) (s n : Int) (h : SR W p es) (hs : U s) :
    Calls Try.prog 56 #[.pointer (some ⟨p, 0, none⟩), .int .u64 s, .int .i64 n] W fun e w' => e = .returned (.tuple #[.int .i64 (riseN es s n), .bool (riseOk es s n)]) ∧ PR w' p (riseL es s n) ∧ W.grownBy w' (some p) :=
  (rise_anyF W p es s n h hs).mono fun e w' ⟨h1, h2, h3, _⟩ => ⟨h1, h2, h3⟩

set_option maxHeartbeats 400000 in
theorem entries_any (W : World) (p : Nat) :
    Calls Try.prog 28 #[.pointer (some ⟨p, 0, none⟩)] W fun e w' => e = .returned (.func (.func 70) #[] #[.pointer (some ⟨W.heap.size, 0, none⟩)]) ∧ w' = W.alloc (.cells #[.pointer (some ⟨p, 0, none⟩)] 25) := by
  go_enter Try.func28, Try.ntmps28
  go_wp2_with fail
  go_ret
  exact ⟨rfl, rfl⟩
set_option maxRecDepth 100000 in
set_option maxHeartbeats 4000000 in
theorem entries_iter (n : Nat) (B1 p : Nat) (v : Value) (es : List En) (hsm : es.length < 9223372036854775807) (Inv : Nat → World → Prop)
    (hI : ∀ k W, Inv k W → W.cell? ⟨B1, 0, none⟩ = some (.pointer (some ⟨p, 0, none⟩)) ∧ W.cell? ⟨p, 0, none⟩ = some v ∧ PE W v es)
    (hal : ∀ k W o, Inv k W → Inv k (W.alloc o)) :
    IterOk Fence.wide n Try.prog 70 #[.pointer (some ⟨B1, 0, none⟩)] (fun k : Nat => #[.int .u64 (es.getD k dE).1, .int .i64 (es.getD k dE).2])
      (Inv 0) (fun k W => k < es.length ∧ Inv k W) (fun k W => Inv (k + 1) W) (Inv es.length) := by
  intro l Rc JX W1 hRc hJX hR0 hS0 hY
  refine callsIn_of_wp Try.func70 rfl trivial ?_ rfl
  simp only [Try.ntmps70, List.size_toArray, List.length_cons, List.length_nil, Nat.reduceAdd, Nat.reduceSub, Array.replicate_succ, Array.replicate_zero, List.push_toArray, List.append_toArray, List.nil_append, List.cons_append]
  obtain ⟨cb1, cp, hPE⟩ := hI _ _ hS0
  obtain ⟨A, c, rfl, -⟩ := hPE
  gi_wp2_with fail
  gi_loopw [10] (fun i wr => ∃ k : Nat, k ≤ es.length ∧ i = .int .i64 k ∧ Rc wr ∧ Inv k wr) (fun i _ => es.length - (intOf i).toNat)
  case atStart => exact ⟨0, Nat.zero_le _, rfl, hR0, hS0⟩
  case round =>
    obtain ⟨k, hk, rfl, hr, hi⟩ := hrel
    obtain ⟨db1, dp, hPE⟩ := hI _ _ hi
    have k0 : (0 : Int) ≤ (k : Int) := Int.natCast_nonneg _
    have k9 : (k : Int) ≤ 9223372036854775807 := by omega
    by_cases hlt2 : k < es.length
    · have kl : (k : Int) < (es.length : Int) := by omega
      obtain ⟨⟨x, y⟩, hx⟩ : ∃ x, es[k] = x := ⟨_, rfl⟩
      have hx2 : es[k]? = some (x, y) := by rw [List.getElem?_eq_getElem hlt2, hx]
      have hgd : es.getD k dE = (x, y) := by rw [List.getD_eq_getElem?_getD, hx2]; rfl
      obtain ⟨b3, off3, c4, e1, hlb, r0, r1⟩ := hPE.at hx2
      obtain ⟨rfl, rfl⟩ : A = some ⟨b3, off3, none⟩ ∧ c = c4 := by injection e1 with e1 e2 e3; exact ⟨e1, e3⟩
      simp only at r0 r1
      have hia := hal _ _ (.cells #[.int .u64 x, .int .i64 y] tE) hi
      have hra := hRc _ _ hr (belowOthers ((Below.refl wr.heap.size wr).alloc (Nat.le_refl _) (.cells #[.int .u64 x, .int .i64 y] tE)))
      obtain ⟨fn, tmps, assign, body, hy, hRn⟩ := hY k _ ⟨hlt2, hia⟩ hra
      rw [hgd] at hy
      dsimp only at hy
      clear hx hx2 hgd hia hra e1 db1 dp hPE
      gi_wp2_with fail
      refine ⟨fun h => (by cases h), ?_⟩
      refine hRn.mono ?_
      rintro e W3 (⟨rfl, hi3, hr3⟩ | ⟨rfl, hJ⟩)
      · gi_wp2_with fail
        go_roundw
        case rel => exact ⟨k + 1, by omega, by simp, hr3, hi3⟩
        case measure => simp [intOf]; omega
      · gi_wp2_with fail
        refine bodyPost_ret (results_none rfl _ _ _) rfl ?_
        exact ⟨⟨_, rfl⟩, .inr hJ⟩
    · obtain rfl : k = es.length := by omega
      gi_wp2_with fail
      go_end0
      exact ⟨⟨_, rfl⟩, .inl ⟨hi, hr⟩⟩

end Go.Proofs.Ytnlhgnioedalpaa.Pri
