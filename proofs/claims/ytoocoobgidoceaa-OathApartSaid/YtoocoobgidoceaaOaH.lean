import Derived.Test.YtoocoobgidoceaaOaG
namespace Go.Proofs.Ytoocoobgidoceaa
open Go.RowKit
set_option linter.unusedVariables false

set_option maxHeartbeats 2000000 in
theorem ask_no1 (A : Option Addr) (n c : Nat) (asked : Int) (label : ByteArray) (w : World) (hs : ¬ label.size ≤ 32) :
    Calls Try.prog 13 #[.agg #[.slice A n c, .int .i64 asked], .string label] w (AskPost ([], 0, 0, 2) w) := by
  have hq := askQ_wrap asked
  have hql := askQ_lt asked
  have hone : strN [askQ asked] = oneB asked := rfl
  have H1s := oneB_size asked
  have D1 := Lib.hid (fun W => record_no label (oneB asked) W (fun h => hs h.1))
  obtain ⟨q, hqe⟩ : ∃ q, askQ asked = q := ⟨_, rfl⟩
  rw [hqe] at hq hql hone
  clear hqe hs H1s
  have b0 := (((Below.refl w.heap.size w).alloc (Nat.le_refl _) (.cells #[.slice A n c, .int .i64 asked] 24)).alloc (by simp) (.cells #[.slice none 0 0, .int .i64 0] 24)).alloc (by simp; omega) (.cells #[.int .u64 0, .int .u64 0, .int .u64 0, .int .u64 0] 35)
  have x0 := ((Box2.new w (.slice A n c) (.int .i64 asked)).alloc (.cells #[.slice none 0 0, .int .i64 0] 24)).alloc (.cells #[.int .u64 0, .int .u64 0, .int .u64 0, .int .u64 0] 35)
  have y0 : Box2 ((w.alloc (.cells #[.slice A n c, .int .i64 asked] 24)).alloc (.cells #[.slice none 0 0, .int .i64 0] 24)) (w.heap.size + 1) (.slice none 0 0) (.int .i64 0) := by
    have := Box2.new (w.alloc (.cells #[.slice A n c, .int .i64 asked] 24)) (.slice none 0 0) (.int .i64 0)
    rwa [World.size_alloc] at this
  have y0 := y0.alloc (.cells #[.int .u64 0, .int .u64 0, .int .u64 0, .int .u64 0] 35)
  have z0 : Own (((w.alloc (.cells #[.slice A n c, .int .i64 asked] 24)).alloc (.cells #[.slice none 0 0, .int .i64 0] 24)).alloc (.cells #[.int .u64 0, .int .u64 0, .int .u64 0, .int .u64 0] 35)) (w.heap.size + 1 + 1) 35 .u64 [0, 0, 0, 0] := by
    have := Own.freshF ((w.alloc (.cells #[.slice A n c, .int .i64 asked] 24)).alloc (.cells #[.slice none 0 0, .int .i64 0] 24))
    rwa [World.size_alloc, World.size_alloc] at this
  go_enter Try.func13, Try.ntmps13
  go_upto_region 1 with fail
  generalize ((w.alloc (.cells #[.slice A n c, .int .i64 asked] 24)).alloc (.cells #[.slice none 0 0, .int .i64 0] 24)).alloc (.cells #[.int .u64 0, .int .u64 0, .int .u64 0, .int .u64 0] 35) = W0 at *
  have hx0 := x0.c0
  have hx1 := x0.c1
  have hc1 : (convert 22 9 (.slice (some ⟨W0.heap.size, 0, none⟩) 1 1)).run Try.prog (W0.alloc (.cells #[.int .u8 (q : Int)] 5)) = .ok (.string (oneB asked)) (W0.alloc (.cells #[.int .u8 (q : Int)] 5)) := hone ▸ conv_new W0 [q] rfl (by intro x hx; simp at hx; omega)
  go_wp2_with fail
  refine (D1.out _).mono ?_
  rintro e w1 ⟨rfl, rfl⟩
  have d1 := (Below.refl W0.heap.size W0).alloc (Nat.le_refl _) (.cells #[.int .u8 (q : Int)] 5)
  have y1 := y0.bel d1
  have z1 := z0.bel d1
  have t1 := b0.trans (d1.mono b0.size)
  clear hc1 hx0 hx1 D1 x0 y0 z0 b0 d1 hq
  have k0 := y1.c0
  have k1 := y1.c1
  have l0 := y1.f 0
  have l1 := y1.f 1
  obtain ⟨m0, m1, m2, m3⟩ := z1.c4
  have n0 := z1.frozen 0
  have n1 := z1.frozen 1
  have n2 := z1.frozen 2
  have n3 := z1.frozen 3
  go_wp2_with fail
  have hw3 := t1.size
  refine bodyPost_ret (results_ask rfl _ rfl rfl ((((((y1.set0 _).set1 _).far (by intro h; simp at h; try omega) _).far (by intro h; simp at h; try omega) _).far (by intro h; simp at h; try omega) _).far (by intro h; simp at h; try omega) _) (own_four (a0 := 0) (a1 := 0) (a2 := 0) (a3 := 0) ((z1.far (by intro h; simp at h; try omega) _).far (by intro h; simp at h; try omega) _) rfl) rfl) rfl ⟨none, 0, rfl, Nat.le_refl _, Nat.zero_le _, Sl.nil _ _ _, (fun a e => by cases e), below_four ((t1.setCell (p := ⟨w.heap.size + 1, 0, none⟩) (by simp) _).setCell (p := ⟨w.heap.size + 1, 1, none⟩) (by simp) _) (by omega)⟩

set_option maxHeartbeats 2000000 in
theorem ask_no2 (A : Option Addr) (n c : Nat) (asked : Int) (label : ByteArray) (w : World) (hs : label.size ≤ 32) (hlt : 65536 < n + label.size + 6) :
    Calls Try.prog 13 #[.agg #[.slice A n c, .int .i64 asked], .string label] w (AskPost ([], 0, 0, 2) w) := by
  have hq := askQ_wrap asked
  have hql := askQ_lt asked
  have hone : strN [askQ asked] = oneB asked := rfl
  have H1s := oneB_size asked
  have D1 := Lib.hid (fun W => record_ok label (oneB asked) W hs (by omega))
  obtain ⟨R, hR⟩ : ∃ R, strN (recN label (oneB asked)) = R := ⟨_, rfl⟩
  have hRs : R.size = label.size + 6 := by rw [← hR, strN_size, recN_length, H1s]
  have hle' : (n : Int) > 65536 - (R.size : Int) := by omega
  have hRl : R.size ≤ 65600 := by omega
  rw [hR] at D1
  obtain ⟨q, hqe⟩ : ∃ q, askQ asked = q := ⟨_, rfl⟩
  rw [hqe] at hq hql hone
  clear hqe hs H1s hR hRs hlt
  have b0 := (((Below.refl w.heap.size w).alloc (Nat.le_refl _) (.cells #[.slice A n c, .int .i64 asked] 24)).alloc (by simp) (.cells #[.slice none 0 0, .int .i64 0] 24)).alloc (by simp; omega) (.cells #[.int .u64 0, .int .u64 0, .int .u64 0, .int .u64 0] 35)
  have x0 := ((Box2.new w (.slice A n c) (.int .i64 asked)).alloc (.cells #[.slice none 0 0, .int .i64 0] 24)).alloc (.cells #[.int .u64 0, .int .u64 0, .int .u64 0, .int .u64 0] 35)
  have y0 : Box2 ((w.alloc (.cells #[.slice A n c, .int .i64 asked] 24)).alloc (.cells #[.slice none 0 0, .int .i64 0] 24)) (w.heap.size + 1) (.slice none 0 0) (.int .i64 0) := by
    have := Box2.new (w.alloc (.cells #[.slice A n c, .int .i64 asked] 24)) (.slice none 0 0) (.int .i64 0)
    rwa [World.size_alloc] at this
  have y0 := y0.alloc (.cells #[.int .u64 0, .int .u64 0, .int .u64 0, .int .u64 0] 35)
  have z0 : Own (((w.alloc (.cells #[.slice A n c, .int .i64 asked] 24)).alloc (.cells #[.slice none 0 0, .int .i64 0] 24)).alloc (.cells #[.int .u64 0, .int .u64 0, .int .u64 0, .int .u64 0] 35)) (w.heap.size + 1 + 1) 35 .u64 [0, 0, 0, 0] := by
    have := Own.freshF ((w.alloc (.cells #[.slice A n c, .int .i64 asked] 24)).alloc (.cells #[.slice none 0 0, .int .i64 0] 24))
    rwa [World.size_alloc, World.size_alloc] at this
  go_enter Try.func13, Try.ntmps13
  go_upto_region 1 with fail
  generalize ((w.alloc (.cells #[.slice A n c, .int .i64 asked] 24)).alloc (.cells #[.slice none 0 0, .int .i64 0] 24)).alloc (.cells #[.int .u64 0, .int .u64 0, .int .u64 0, .int .u64 0] 35) = W0 at *
  have hx0 := x0.c0
  have hx1 := x0.c1
  have hc1 : (convert 22 9 (.slice (some ⟨W0.heap.size, 0, none⟩) 1 1)).run Try.prog (W0.alloc (.cells #[.int .u8 (q : Int)] 5)) = .ok (.string (oneB asked)) (W0.alloc (.cells #[.int .u8 (q : Int)] 5)) := hone ▸ conv_new W0 [q] rfl (by intro x hx; simp at hx; omega)
  go_wp2_with fail
  refine (D1.out _).mono ?_
  rintro e w1 ⟨rfl, b1⟩
  have d1 := ((Below.refl W0.heap.size W0).alloc (Nat.le_refl _) (.cells #[.int .u8 (q : Int)] 5)).trans (b1.mono (by simp))
  have x1 := x0.bel d1
  have y1 := y0.bel d1
  have z1 := z0.bel d1
  have t1 := b0.trans (d1.mono b0.size)
  clear hc1 hx0 hx1 D1 x0 y0 z0 b0 d1 hq
  have hx0 := x1.c0
  have hx1 := x1.c1
  have k0 := y1.c0
  have k1 := y1.c1
  have l0 := y1.f 0
  have l1 := y1.f 1
  obtain ⟨m0, m1, m2, m3⟩ := z1.c4
  have n0 := z1.frozen 0
  have n1 := z1.frozen 1
  have n2 := z1.frozen 2
  have n3 := z1.frozen 3
  go_wp2_with fail
  have hw3 := t1.size
  refine bodyPost_ret (results_ask rfl _ rfl rfl ((((((y1.set0 _).set1 _).far (by intro h; simp at h; try omega) _).far (by intro h; simp at h; try omega) _).far (by intro h; simp at h; try omega) _).far (by intro h; simp at h; try omega) _) (own_four (a0 := 0) (a1 := 0) (a2 := 0) (a3 := 0) ((z1.far (by intro h; simp at h; try omega) _).far (by intro h; simp at h; try omega) _) rfl) rfl) rfl ⟨none, 0, rfl, Nat.le_refl _, Nat.zero_le _, Sl.nil _ _ _, (fun a e => by cases e), below_four ((t1.setCell (p := ⟨w.heap.size + 1, 0, none⟩) (by simp) _).setCell (p := ⟨w.heap.size + 1, 1, none⟩) (by simp) _) (by omega)⟩

theorem ask_any (A : Option Addr) (n c : Nat) (asked : Int) (bs : List Nat) (label : ByteArray) (w : World) (hb : bs.length = n) (ob : Byt bs) (sb : Sl w .u8 A bs) :
    Calls Try.prog 13 #[.agg #[.slice A n c, .int .i64 asked], .string label] w (AskPost (askR bs asked label) w) := by
  unfold askR
  have h1 := oneB_size asked
  subst hb
  by_cases h : MaySay bs.length label (oneB asked)
  · rw [if_pos h]
    exact ask_ok A _ c asked bs label w rfl ob sb h
  · rw [if_neg h]
    by_cases hs : label.size ≤ 32
    · exact ask_no2 A _ c asked label w hs (by unfold MaySay at h; omega)
    · exact ask_no1 A _ c asked label w hs

def RaFacts (asked : Int) (q : Nat) (r : Int) : Prop := asked.tmod 256 = r ∧ -256 < r ∧ r < 256 ∧ (r + 256).tmod 256 = (q : Int) ∧ (r + 256) % 256 = (q : Int)
theorem raFacts (asked : Int) : ∃ r, RaFacts asked (askQ asked) r := by
  obtain ⟨h1, h2, h3⟩ := tmod_range asked
  exact ⟨_, rfl, h1, h2, askQ_ref asked, by rw [h3]; unfold askQ; omega⟩

set_option maxHeartbeats 2000000 in
theorem rask_no (A : Option Addr) (n c : Nat) (asked : Int) (label : ByteArray) (w : World) (hn : n ≤ maxLen) (hl : label.size ≤ maxLen) (hs : ¬ MaySay n label (oneB asked)) :
    Calls Try.prog 14 #[.agg #[.slice A n c, .int .i64 asked], .string label] w (AskPost ([], 0, 0, 2) w) := by
  have hql := askQ_lt asked
  have hone : strN [askQ asked] = oneB asked := rfl
  have H1s := oneB_size asked
  have D1 := Lib.hid (fun W => long_no n label (oneB asked) W hn hl (by unfold maxLen; omega) hs)
  obtain ⟨r, hr1, hr2, hr3, hr4, hr5⟩ := raFacts asked
  obtain ⟨q, hqe⟩ : ∃ q, askQ asked = q := ⟨_, rfl⟩
  rw [hqe] at hr4 hr5 hql hone
  have hq : IntKind.u8.wrap (q : Int) = (q : Int) := by rw [IntKind.wrap_u8]; omega
  clear hqe hs H1s hn hl
  have b0 := (((Below.refl w.heap.size w).alloc (Nat.le_refl _) (.cells #[.slice A n c, .int .i64 asked] 24)).alloc (by simp) (.cells #[.slice none 0 0, .int .i64 0] 24)).alloc (by simp; omega) (.cells #[.int .u64 0, .int .u64 0, .int .u64 0, .int .u64 0] 35)
  have x0 := ((Box2.new w (.slice A n c) (.int .i64 asked)).alloc (.cells #[.slice none 0 0, .int .i64 0] 24)).alloc (.cells #[.int .u64 0, .int .u64 0, .int .u64 0, .int .u64 0] 35)
  have y0 : Box2 ((w.alloc (.cells #[.slice A n c, .int .i64 asked] 24)).alloc (.cells #[.slice none 0 0, .int .i64 0] 24)) (w.heap.size + 1) (.slice none 0 0) (.int .i64 0) := by
    have := Box2.new (w.alloc (.cells #[.slice A n c, .int .i64 asked] 24)) (.slice none 0 0) (.int .i64 0)
    rwa [World.size_alloc] at this
  have y0 := y0.alloc (.cells #[.int .u64 0, .int .u64 0, .int .u64 0, .int .u64 0] 35)
  have z0 : Own (((w.alloc (.cells #[.slice A n c, .int .i64 asked] 24)).alloc (.cells #[.slice none 0 0, .int .i64 0] 24)).alloc (.cells #[.int .u64 0, .int .u64 0, .int .u64 0, .int .u64 0] 35)) (w.heap.size + 1 + 1) 35 .u64 [0, 0, 0, 0] := by
    have := Own.freshF ((w.alloc (.cells #[.slice A n c, .int .i64 asked] 24)).alloc (.cells #[.slice none 0 0, .int .i64 0] 24))
    rwa [World.size_alloc, World.size_alloc] at this
  go_enter Try.func14, Try.ntmps14
  go_upto_region 1 with fail
  generalize ((w.alloc (.cells #[.slice A n c, .int .i64 asked] 24)).alloc (.cells #[.slice none 0 0, .int .i64 0] 24)).alloc (.cells #[.int .u64 0, .int .u64 0, .int .u64 0, .int .u64 0] 35) = W0 at *
  have hx0 := x0.c0
  have hx1 := x0.c1
  have hc1 : (convert 22 9 (.slice (some ⟨W0.heap.size, 0, none⟩) 1 1)).run Try.prog (W0.alloc (.cells #[.int .u8 (q : Int)] 5)) = .ok (.string (oneB asked)) (W0.alloc (.cells #[.int .u8 (q : Int)] 5)) := hone ▸ conv_new W0 [q] rfl (by intro x hx; simp at hx; omega)
  have d1 := (Below.refl W0.heap.size W0).alloc (Nat.le_refl _) (.cells #[.int .u8 (q : Int)] 5)
  have y1 := y0.bel d1
  have z1 := z0.bel d1
  have x1 := x0.bel d1
  have t1 := b0.trans (d1.mono b0.size)
  have hx10 := x1.c0
  have hx11 := x1.c1
  go_wp2_with fail
  refine (D1.out _).mono ?_
  rintro e w1 ⟨rfl, rfl⟩
  clear hc1 hx0 hx1 D1 x0 y0 z0 b0 d1 hq
  have k0 := y1.c0
  have k1 := y1.c1
  have l0 := y1.f 0
  have l1 := y1.f 1
  obtain ⟨m0, m1, m2, m3⟩ := z1.c4
  have n0 := z1.frozen 0
  have n1 := z1.frozen 1
  have n2 := z1.frozen 2
  have n3 := z1.frozen 3
  go_wp2_with fail
  have hw3 := t1.size
  refine bodyPost_ret (results_ask rfl _ rfl rfl ((((((y1.set0 _).set1 _).far (by intro h; simp at h; try omega) _).far (by intro h; simp at h; try omega) _).far (by intro h; simp at h; try omega) _).far (by intro h; simp at h; try omega) _) (own_four (a0 := 0) (a1 := 0) (a2 := 0) (a3 := 0) ((z1.far (by intro h; simp at h; try omega) _).far (by intro h; simp at h; try omega) _) rfl) rfl) rfl ⟨none, 0, rfl, Nat.le_refl _, Nat.zero_le _, Sl.nil _ _ _, (fun a e => by cases e), below_four ((t1.setCell (p := ⟨w.heap.size + 1, 0, none⟩) (by simp) _).setCell (p := ⟨w.heap.size + 1, 1, none⟩) (by simp) _) (by omega)⟩

set_option maxHeartbeats 4000000 in
/-- chirographref14.Ask -/
theorem rask_ok (A : Option Addr) (n c : Nat) (asked : Int) (bs : List Nat) (label : ByteArray) (w : World) (hb : bs.length = n) (ob : Byt bs) (sb : Sl w .u8 A bs) (hs : MaySay n label (oneB asked)) :
    Calls Try.prog 14 #[.agg #[.slice A n c, .int .i64 asked], .string label] w (AskPost (bytesN (askD bs asked label), IntKind.i64.wrap (asked + 1), hN (bytesN (askD bs asked label)) % rN, 0) w) := by
  have hql := askQ_lt asked
  have hone : strN [askQ asked] = oneB asked := rfl
  have H1s := oneB_size asked
  have D1 := Lib.hid (fun W => long_ok n label (oneB asked) W (by have := hs.2.2.1; unfold maxLen; omega) (by have := hs.1; unfold maxLen; omega) (by unfold maxLen; omega) hs)
  have D4 := Lib.hid (fun W => rrecord_any label (oneB asked) W hs.1 hs.2.1)
  obtain ⟨r, hr1, hr2, hr3, hr4, hr5⟩ := raFacts asked
  obtain ⟨q, hqe⟩ : ∃ q, askQ asked = q := ⟨_, rfl⟩
  rw [hqe] at hr4 hr5 hql hone
  have hq : IntKind.u8.wrap (q : Int) = (q : Int) := by rw [IntKind.wrap_u8]; omega
  have hcv := fun W (s : Sl W .u8 A bs) => conv_sl (c := c) hb ob s
  obtain ⟨S2, hS2⟩ : ∃ S, strN (recN label (oneB asked)) = S := ⟨_, rfl⟩
  obtain ⟨S1, hS1⟩ : ∃ S, strN bs = S := ⟨_, rfl⟩
  have z2' : S2.size = label.size + 6 := by rw [← hS2, strN_size, recN_length, H1s]
  have z1' : S1.size = n := by rw [← hS1, strN_size, hb]
  have zz : n + S2.size ≤ 65536 := by have := hs.2.2.2; omega
  have hTs : (S1 ++ S2).size ≤ 65536 := by rw [ByteArray.size_append]; omega
  have hd : strB (digN (bytesN (S1 ++ S2))) = askD bs asked label := by rw [bytesN_append, ← hS1, ← hS2, bytesN_strN ob, bytesN_strN (recN_byt hs.1 hs.2.1)]; rfl
  have D2 := fun W => refhash_any (S1 ++ S2) W hTs
  rw [hd] at D2
  have D2 := Lib.hid D2
  have hds := askD_size bs asked label
  rw [hS2] at D4
  rw [hS1] at hcv
  have z3' : S1.size + S2.size ≤ 65536 := by omega
  clear hS2 hS1 hd hTs hs H1s z2'
  generalize askD bs asked label = dg at *
  have D3 := fun W => rhash_any dg W (by unfold maxLen; omega)
  obtain ⟨e0, e1, e2, e3, he⟩ := fl4 (hN (bytesN dg) % rN)
  unfold FrPost at D3
  rw [he] at D3
  have D3 : ∀ W : World, Calls Try.prog 24 #[.string dg] W fun e w' => e = .returned (.agg #[.int .u64 (e0 : Nat), .int .u64 (e1 : Nat), .int .u64 (e2 : Nat), .int .u64 (e3 : Nat)]) ∧ Below W.heap.size W w' := D3
  have D3 := Lib.hid D3
  have He := Lib.hid he
  have Hcv := Lib.hid hcv
  clear he hqe hb ob hcv
  have b0 := (((Below.refl w.heap.size w).alloc (Nat.le_refl _) (.cells #[.slice A n c, .int .i64 asked] 24)).alloc (by simp) (.cells #[.slice none 0 0, .int .i64 0] 24)).alloc (by simp; omega) (.cells #[.int .u64 0, .int .u64 0, .int .u64 0, .int .u64 0] 35)
  have x0 := ((Box2.new w (.slice A n c) (.int .i64 asked)).alloc (.cells #[.slice none 0 0, .int .i64 0] 24)).alloc (.cells #[.int .u64 0, .int .u64 0, .int .u64 0, .int .u64 0] 35)
  have y0 : Box2 ((w.alloc (.cells #[.slice A n c, .int .i64 asked] 24)).alloc (.cells #[.slice none 0 0, .int .i64 0] 24)) (w.heap.size + 1) (.slice none 0 0) (.int .i64 0) := by
    have := Box2.new (w.alloc (.cells #[.slice A n c, .int .i64 asked] 24)) (.slice none 0 0) (.int .i64 0)
    rwa [World.size_alloc] at this
  have y0 := y0.alloc (.cells #[.int .u64 0, .int .u64 0, .int .u64 0, .int .u64 0] 35)
  have z0 : Own (((w.alloc (.cells #[.slice A n c, .int .i64 asked] 24)).alloc (.cells #[.slice none 0 0, .int .i64 0] 24)).alloc (.cells #[.int .u64 0, .int .u64 0, .int .u64 0, .int .u64 0] 35)) (w.heap.size + 1 + 1) 35 .u64 [0, 0, 0, 0] := by
    have := Own.freshF ((w.alloc (.cells #[.slice A n c, .int .i64 asked] 24)).alloc (.cells #[.slice none 0 0, .int .i64 0] 24))
    rwa [World.size_alloc, World.size_alloc] at this
  have s0 := sb.bel b0
  go_enter Try.func14, Try.ntmps14
  go_upto_region 1 with fail
  generalize ((w.alloc (.cells #[.slice A n c, .int .i64 asked] 24)).alloc (.cells #[.slice none 0 0, .int .i64 0] 24)).alloc (.cells #[.int .u64 0, .int .u64 0, .int .u64 0, .int .u64 0] 35) = W0 at *
  have hx0 := x0.c0
  have hx1 := x0.c1
  have hc1 : (convert 22 9 (.slice (some ⟨W0.heap.size, 0, none⟩) 1 1)).run Try.prog (W0.alloc (.cells #[.int .u8 (q : Int)] 5)) = .ok (.string (oneB asked)) (W0.alloc (.cells #[.int .u8 (q : Int)] 5)) := hone ▸ conv_new W0 [q] rfl (by intro x hx; simp at hx; omega)
  have d1 := (Below.refl W0.heap.size W0).alloc (Nat.le_refl _) (.cells #[.int .u8 (q : Int)] 5)
  have y1 := y0.bel d1
  have z1 := z0.bel d1
  have x1 := x0.bel d1
  have s1 := s0.bel d1
  have t1 := b0.trans (d1.mono b0.size)
  have hx10 := x1.c0
  have hx11 := x1.c1
  go_wp2_with fail
  refine (D1.out _).mono ?_
  rintro e w1 ⟨rfl, rfl⟩
  clear hc1 hx0 hx1 hx10 hx11 D1 x0 y0 z0 b0 d1 hq s0
  generalize W0.alloc (.cells #[.int .u8 (q : Int)] 5) = W1 at *
  go_upto_region 5 with fail
  have hx10 := x1.c0
  have hx11 := x1.c1
  have hcU := Hcv.out W1.drew (s1.bel (Below.refl _ _).drew)
  have yd := y1.bel ((Below.refl _ _).drew)
  have zd := z1.drew
  have xd := x1.bel ((Below.refl _ _).drew)
  have sd := s1.bel ((Below.refl _ _).drew)
  have td := t1.drew
  go_region_with (first
    | (go_at_call 20; refine (D4.out _).mono ?_; rintro e w1 ⟨rfl, b1⟩
       have xe := xd.bel b1
       have ye := yd.bel b1
       have ze := zd.bel b1
       have te := td.trans (b1.mono td.size)
       have hxe0 := xe.c0
       have hxe1 := xe.c1
       have hce := Hcv.out w1 (sd.bel b1))
    | (go_at_call 23; refine (D2.out _).mono ?_; rintro e w3 ⟨rfl, b3⟩
       have x3 := xe.bel b3
       have y3 := ye.bel b3
       have z3 := ze.bel b3
       have t3 := te.trans (b3.mono te.size)
       have hx30 := x3.c0
       have hx31 := x3.c1
       obtain ⟨cap1, V1, hcb1, hcap1, hcap1', sV1, bV1⟩ := conv_bytesO dg w3.drew (by omega)
       rw [hds] at hcb1 hcap1
       have x4 := x3.bel (W' := V1) ((Below.refl _ _).drew.trans bV1)
       have hx40 := x4.c0
       have hx41 := x4.c1))
  all_goals clear xd yd zd td sd xe ye ze te hce hcU hx10 hx11 hxe0 hxe1
  all_goals go_wp2_with fail
  all_goals
    have yd := y3.bel ((Below.refl _ _).drew)
    have zd := z3.drew
    have xd := x3.bel ((Below.refl _ _).drew)
    have td := t3.drew
    go_region_with (go_at_call 24; refine (D3.out _).mono ?_; rintro e w7 ⟨rfl, b7⟩
                    first
                    | (have bq := bV1.trans (b7.mono bV1.size)
                       have xe := xd.bel bq
                       have xe0 := xe.c0
                       have xe1 := xe.c1
                       have yF := yd.bel bq
                       have zF := zd.bel bq
                       have tF := td.trans (bq.mono td.size)
                       have sF := sV1.bel b7
                       have hcF := hcap1
                       have hcF' := hcap1'
                       have hgF : w3.heap.size ≤ w3.heap.size := Nat.le_refl _
                       have k0 := yF.c0
                       have k1 := yF.c1
                       have l0 := yF.f 0
                       have l1 := yF.f 1
                       obtain ⟨m0, m1, m2, m3⟩ := zF.c4
                       have n0 := zF.frozen 0
                       have n1 := zF.frozen 1
                       have n2 := zF.frozen 2
                       have n3 := zF.frozen 3)
                    | (have xe := xd.bel b7
                       have xe0 := xe.c0
                       have xe1 := xe.c1
                       obtain ⟨cap2, V2, hcb2, hcap2, hcap2', sV2, bV2⟩ := conv_bytesO dg w7 (by omega)
                       rw [hds] at hcb2 hcap2
                       have xf := xe.bel bV2
                       have xf0 := xf.c0
                       have xf1 := xf.c1
                       have bq := b7.trans (bV2.mono b7.size)
                       have yF := yd.bel bq
                       have zF := zd.bel bq
                       have tF := td.trans (bq.mono td.size)
                       have sF := sV2
                       have hcF := hcap2
                       have hcF' := hcap2'
                       have hgF : w3.heap.size ≤ w7.heap.size := b7.size
                       have k0 := yF.c0
                       have k1 := yF.c1
                       have l0 := yF.f 0
                       have l1 := yF.f 1
                       obtain ⟨m0, m1, m2, m3⟩ := zF.c4
                       have n0 := zF.frozen 0
                       have n1 := zF.frozen 1
                       have n2 := zF.frozen 2
                       have n3 := zF.frozen 3))
    all_goals go_wp2_with fail
    all_goals
      have hz3 := z3.lt
      have hw3 := t3.size
      refine bodyPost_ret (results_ask rfl _ rfl rfl ((((((yF.set0 _).set1 _).far (by intro h; simp at h; try omega) _).far (by intro h; simp at h; try omega) _).far (by intro h; simp at h; try omega) _).far (by intro h; simp at h; try omega) _) (own_four ((zF.far (by intro h; simp at h; try omega) _).far (by intro h; simp at h; try omega) _) rfl) rfl) rfl ⟨_, _, by simp only [He.out, bytesN_length, hds]; rfl, by simpa only [bytesN_length, hds] using hcF, hcF', ((((((sF.up (fun a e => ?_) _).up (fun a e => ?_) _).up (fun a e => ?_) _).up (fun a e => ?_) _).up (fun a e => ?_) _).up (fun a e => ?_) _), fun a e => ?_, below_four ((tF.setCell (p := ⟨w.heap.size + 1, 0, none⟩) (by simp) _).setCell (p := ⟨w.heap.size + 1, 1, none⟩) (by simp) _) (by omega)⟩
      all_goals (cases e; simp; try omega)

end Go.Proofs.Ytoocoobgidoceaa
