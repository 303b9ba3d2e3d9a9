import Derived.Test.YtoocoobgidoceaaOaF
import Derived.Test.YtoocoobgidoceaaFrH
import Derived.Test.YtoocoobgidoceaaSpHR
namespace Go.Proofs.Ytoocoobgidoceaa
open Go.RowKit
set_option linter.unusedVariables false

theorem results_cell2_tmp {fn : Func} {p q u : Tmp} {ty tz : TypeId} (h : fn.results = #[.cell p ty, .cell q tz, .tmp u]) (tmps : Array Value) (P : Program) (w : World) :
    (results fn tmps).run P w =
      ((asAddr (tmps.getD p undef)).run P w).andThen fun a w₁ => ((loadVar ty a).run P w₁).andThen fun v w₂ => ((asAddr (tmps.getD q undef)).run P w₂).andThen fun b w₃ => ((loadVar tz b).run P w₃).andThen fun v' w₄ => .ok (.tuple #[v, v', tmps.getD u undef]) w₄ := by
  simp only [results, h]
  simp [Sem.run_bind, Result.andThen]
theorem results_ask {W : World} {b g : Nat} {v0 v1 : Value} {zs : List Nat} {fn : Func} {p q u : Tmp} (hf : fn.results = #[.cell p 24, .cell q 35, .tmp u]) (tmps : Array Value) (hp : tmps.getD p undef = .pointer (some ⟨b, 0, none⟩)) (hq : tmps.getD q undef = .pointer (some ⟨g, 0, none⟩))
    (h : Box2 W b v0 v1) (o : Own W g 35 .u64 zs) (hz : zs.length = 4) :
    (results fn tmps).run Try.prog W = .ok (.tuple #[.agg #[v0, v1], .agg (lim .u64 zs), tmps.getD u undef]) W := by
  rw [results_cell2_tmp hf, hp, hq]
  simp [asAddr, run_loadVar_row W b 24 _ #[v0, v1] (0, 0) _ h Try.underlying24 rfl (by kernel_rfl), run_loadVar_row W g 35 _ (lim .u64 zs) (0, 0) (.array 4 33) o (show Try.prog.underlying 35 = some (.array 4 33) by kernel_rfl) rfl (by rw [lim_size, hz]; kernel_rfl), Result.andThen]
/-- The byte that a question bears. -/
def askQ (asked : Int) : Nat := (asked % 256).toNat
theorem askQ_lt (asked : Int) : askQ asked < 256 := by unfold askQ; omega
theorem askQ_wrap (asked : Int) : IntKind.u8.wrap asked = (askQ asked : Int) := by rw [IntKind.wrap_u8]; unfold askQ; omega
theorem tmod_range (asked : Int) : -256 < asked.tmod 256 ∧ asked.tmod 256 < 256 ∧ (asked.tmod 256 + 256) % 256 = asked % 256 := by
  by_cases h : asked < 0
  · have e : asked.tmod 256 = -((-asked) % 256) := by
      have h1 := Int.neg_tmod (-asked) 256
      rw [Int.neg_neg] at h1
      rw [h1, Int.tmod_eq_emod_of_nonneg (by omega)]
    omega
  · have e : asked.tmod 256 = asked % 256 := Int.tmod_eq_emod_of_nonneg (by omega)
    omega
theorem askQ_ref (asked : Int) : (asked.tmod 256 + 256).tmod 256 = (askQ asked : Int) := by
  obtain ⟨h1, h2, h3⟩ := tmod_range asked
  rw [Int.tmod_eq_emod_of_nonneg (by omega), h3]
  unfold askQ
  omega
def oneB (asked : Int) : ByteArray := strN [askQ asked]
theorem oneB_size (asked : Int) : (oneB asked).size = 1 := by unfold oneB; rw [strN_size]; rfl
def askD (bs : List Nat) (asked : Int) (label : ByteArray) : ByteArray := strB (digN (bs ++ recN label (oneB asked)))
theorem askD_size (bs : List Nat) (asked : Int) (label : ByteArray) : (askD bs asked label).size = 32 := dig_size _
/-- What a transcript is behind a question, and the number. -/
def askR (bs : List Nat) (asked : Int) (label : ByteArray) : List Nat × Int × Nat × Int :=
  if MaySay bs.length label (oneB asked) then (bytesN (askD bs asked label), IntKind.i64.wrap (asked + 1), hN (bytesN (askD bs asked label)) % rN, 0) else ([], 0, 0, 2)
def AskPost (r : List Nat × Int × Nat × Int) (w : World) (e : Ending) (w' : World) : Prop :=
  ∃ A c, e = .returned (.tuple #[.agg #[.slice A r.1.length c, .int .i64 r.2.1], .agg (lim .u64 (fl r.2.2.1)), .int .i64 r.2.2.2]) ∧ r.1.length ≤ c ∧ c ≤ maxLen ∧ Sl w' .u8 A r.1 ∧ (∀ a, A = some a → w.heap.size ≤ a.block) ∧ Below w.heap.size w w'

theorem Own.freshF (w : World) : Own (w.alloc (.cells #[.int .u64 0, .int .u64 0, .int .u64 0, .int .u64 0] 35)) w.heap.size 35 .u64 [0, 0, 0, 0] := Own.new w 35 .u64 [0, 0, 0, 0]

set_option maxHeartbeats 4000000 in
/-- oath.Ask -/
theorem ask_ok (A : Option Addr) (n c : Nat) (asked : Int) (bs : List Nat) (label : ByteArray) (w : World) (hb : bs.length = n) (ob : Byt bs) (sb : Sl w .u8 A bs) (hs : MaySay n label (oneB asked)) :
    Calls Try.prog 13 #[.agg #[.slice A n c, .int .i64 asked], .string label] w (AskPost (bytesN (askD bs asked label), IntKind.i64.wrap (asked + 1), hN (bytesN (askD bs asked label)) % rN, 0) w) := by
  have hq := askQ_wrap asked
  have hql := askQ_lt asked
  have hone : strN [askQ asked] = oneB asked := rfl
  have H1s := oneB_size asked
  have D1 := Lib.hid (fun W => record_ok label (oneB asked) W hs.1 hs.2.1)
  obtain ⟨R, hR⟩ : ∃ R, strN (recN label (oneB asked)) = R := ⟨_, rfl⟩
  have hRs : R.size = label.size + 6 := by rw [← hR, strN_size, recN_length, H1s]
  have hle : n + R.size ≤ 65536 := by have := hs.2.2.2; omega
  have hle' : ¬ (n : Int) > 65536 - (R.size : Int) := by omega
  have hRb : bytesN R = recN label (oneB asked) := by rw [← hR, bytesN_strN (recN_byt hs.1 hs.2.1)]
  have obR : Byt (bs ++ bytesN R) := ob.append (bytesN_bytO R)
  obtain ⟨T, hT⟩ : ∃ T, strN (bs ++ bytesN R) = T := ⟨_, rfl⟩
  have hTs : T.size ≤ 65536 := by rw [← hT, strN_size, List.length_append, bytesN_length, hb]; exact hle
  have hd : strB (digN (bytesN T)) = askD bs asked label := by rw [← hT, bytesN_strN obR, hRb]; rfl
  have D2 := fun W => hash_any T W hTs
  rw [hd] at D2
  have D2 := Lib.hid D2
  have hds := askD_size bs asked label
  rw [hR] at D1
  clear hR hRs hRb hd hTs hs H1s
  generalize askD bs asked label = dg at *
  have D3 := fun W => fhash_any dg W (by unfold maxLen; omega)
  obtain ⟨e0, e1, e2, e3, he⟩ := fl4 (hN (bytesN dg) % rN)
  unfold FrPost at D3
  rw [he] at D3
  have D3 : ∀ W : World, Calls Try.prog 22 #[.string dg] W fun e w' => e = .returned (.agg #[.int .u64 (e0 : Nat), .int .u64 (e1 : Nat), .int .u64 (e2 : Nat), .int .u64 (e3 : Nat)]) ∧ Below W.heap.size W w' := D3
  have D3 := Lib.hid D3
  have He := Lib.hid he
  clear he
  obtain ⟨q, hqe⟩ : ∃ q, askQ asked = q := ⟨_, rfl⟩
  rw [hqe] at hq hql hone
  have Hb := Lib.hid hb
  have HoR := Lib.hid obR
  have HT := Lib.hid hT
  clear hqe hb ob hT obR
  have b0 := (((Below.refl w.heap.size w).alloc (Nat.le_refl _) (.cells #[.slice A n c, .int .i64 asked] 24)).alloc (by simp) (.cells #[.slice none 0 0, .int .i64 0] 24)).alloc (by simp; omega) (.cells #[.int .u64 0, .int .u64 0, .int .u64 0, .int .u64 0] 35)
  have x0 := ((Box2.new w (.slice A n c) (.int .i64 asked)).alloc (.cells #[.slice none 0 0, .int .i64 0] 24)).alloc (.cells #[.int .u64 0, .int .u64 0, .int .u64 0, .int .u64 0] 35)
  have y0 : Box2 ((w.alloc (.cells #[.slice A n c, .int .i64 asked] 24)).alloc (.cells #[.slice none 0 0, .int .i64 0] 24)) (w.heap.size + 1) (.slice none 0 0) (.int .i64 0) := by
    have := Box2.new (w.alloc (.cells #[.slice A n c, .int .i64 asked] 24)) (.slice none 0 0) (.int .i64 0)
    rwa [World.size_alloc] at this
  have y0 := y0.alloc (.cells #[.int .u64 0, .int .u64 0, .int .u64 0, .int .u64 0] 35)
  have z0 : Own (((w.alloc (.cells #[.slice A n c, .int .i64 asked] 24)).alloc (.cells #[.slice none 0 0, .int .i64 0] 24)).alloc (.cells #[.int .u64 0, .int .u64 0, .int .u64 0, .int .u64 0] 35)) (w.heap.size + 1 + 1) 35 .u64 [0, 0, 0, 0] := by
    have := Own.freshF ((w.alloc (.cells #[.slice A n c, .int .i64 asked] 24)).alloc (.cells #[.slice none 0 0, .int .i64 0] 24))
    rwa [World.size_alloc, World.size_alloc] at this
  have s0 := sb.bel b0
  go_enter Try.func13, Try.ntmps13
  go_upto_region 1 with fail
  generalize ((w.alloc (.cells #[.slice A n c, .int .i64 asked] 24)).alloc (.cells #[.slice none 0 0, .int .i64 0] 24)).alloc (.cells #[.int .u64 0, .int .u64 0, .int .u64 0, .int .u64 0] 35) = W0 at *
  have hx0 := x0.c0
  have hx1 := x0.c1
  have hc1 : (convert 22 9 (.slice (some ⟨W0.heap.size, 0, none⟩) 1 1)).run Try.prog (W0.alloc (.cells #[.int .u8 (q : Int)] 5)) = .ok (.string (oneB asked)) (W0.alloc (.cells #[.int .u8 (q : Int)] 5)) := hone ▸ conv_new W0 [q] rfl (by intro x hx; simp at hx; omega)
  go_wp2_with fail
  refine (D1.out _).mono ?_
  rintro e w1 ⟨rfl, b1⟩
  have d1 := ((Below.refl W0.heap.size W0).alloc (Nat.le_refl _) (.cells #[.int .u8 (q : Int)] 5)).trans (b1.mono (by simp))
  have x1 := x0.bel d1
  have y1 := y0.bel d1
  have z1 := z0.bel d1
  have s1 := s0.bel d1
  have t1 := b0.trans (d1.mono b0.size)
  clear hc1 hx0 hx1 D1 x0 y0 z0 s0 b0 d1 b1 hq
  have hx0 := x1.c0
  have hx1 := x1.c1
  go_wp2_with fail
  have d2 := (Below.refl w1.heap.size w1).alloc (Nat.le_refl _) (.cells #[.string R] 9)
  refine (behind_any A n c w1.heap.size bs R _ Hb.out (s1.bel d2) (by omega) (by simp) (by simp)).mono ?_
  rintro e w2 ⟨A2, c2', rfl, hc2, hc2', s2, ha2, b2⟩
  have d3 := d2.trans (b2.mono (by simp))
  have x2 := x1.bel d3
  have y2 := y1.bel d3
  have z2 := z1.bel d3
  have t2 := t1.trans (d3.mono t1.size)
  have hcv := conv_sl (c := c2') (by rw [List.length_append, bytesN_length, Hb.out]) HoR.out s2
  rw [HT.out] at hcv
  clear hx0 hx1 x1 y1 z1 t1 d2 d3 b2 s1
  go_wp2_with fail
  refine (D2.out _).mono ?_
  rintro e w3 ⟨rfl, b3⟩
  have x3 := x2.bel b3
  have y3 := y2.bel b3
  have z3 := z2.bel b3
  have t3 := t2.trans (b3.mono t2.size)
  clear hcv x2 y2 z2 t2 b3 D2 s2
  have hx0 := x3.c0
  have hx1 := x3.c1
  obtain ⟨cap1, V1, hcb1, hcap1, hcap1', sV1, bV1⟩ := conv_bytesO dg w3.drew (by omega)
  rw [hds] at hcb1 hcap1
  have x4 := x3.bel (W' := V1) ((Below.refl _ _).drew.trans bV1)
  have hx40 := x4.c0
  have hx41 := x4.c1
  go_wp2_with fail
  have yd := y3.bel ((Below.refl _ _).drew)
  have zd := z3.drew
  have xd := x3.bel ((Below.refl _ _).drew)
  have td := t3.drew
  go_region_with (go_at_call 22; refine (D3.out _).mono ?_; rintro e w7 ⟨rfl, b7⟩
                  first
                  | (have bq := bV1.trans (b7.mono bV1.size)
                     have xe := xd.bel bq
                     have xe0 := xe.c0
                     have xe1 := xe.c1
                     have yF := yd.bel bq
                     have zF := zd.bel bq
                     have tF := td.trans (bq.mono td.size)
                     have sF := sV1.bel b7
                     have hcF := hcap1
                     have hcF' := hcap1'
                     have hgF : w3.heap.size ≤ w3.heap.size := Nat.le_refl _
                     have k0 := yF.c0
                     have k1 := yF.c1
                     have l0 := yF.f 0
                     have l1 := yF.f 1
                     obtain ⟨m0, m1, m2, m3⟩ := zF.c4
                     have n0 := zF.frozen 0
                     have n1 := zF.frozen 1
                     have n2 := zF.frozen 2
                     have n3 := zF.frozen 3)
                  | (have xe := xd.bel b7
                     have xe0 := xe.c0
                     have xe1 := xe.c1
                     obtain ⟨cap2, V2, hcb2, hcap2, hcap2', sV2, bV2⟩ := conv_bytesO dg w7 (by omega)
                     rw [hds] at hcb2 hcap2
                     have xf := xe.bel bV2
                     have xf0 := xf.c0
                     have xf1 := xf.c1
                     have bq := b7.trans (bV2.mono b7.size)
                     have yF := yd.bel bq
                     have zF := zd.bel bq
                     have tF := td.trans (bq.mono td.size)
                     have sF := sV2
                     have hcF := hcap2
                     have hcF' := hcap2'
                     have hgF : w3.heap.size ≤ w7.heap.size := b7.size
                     have k0 := yF.c0
                     have k1 := yF.c1
                     have l0 := yF.f 0
                     have l1 := yF.f 1
                     obtain ⟨m0, m1, m2, m3⟩ := zF.c4
                     have n0 := zF.frozen 0
                     have n1 := zF.frozen 1
                     have n2 := zF.frozen 2
                     have n3 := zF.frozen 3))
  all_goals go_wp2_with fail
  all_goals
    have hz3 := z3.lt
    have hw3 := t3.size
    refine bodyPost_ret (results_ask rfl _ rfl rfl ((((((yF.set0 _).set1 _).far (by intro h; simp at h; try omega) _).far (by intro h; simp at h; try omega) _).far (by intro h; simp at h; try omega) _).far (by intro h; simp at h; try omega) _) (own_four ((zF.far (by intro h; simp at h; try omega) _).far (by intro h; simp at h; try omega) _) rfl) rfl) rfl ⟨_, _, by simp only [He.out, bytesN_length, hds]; rfl, by simpa only [bytesN_length, hds] using hcF, hcF', ((((((sF.up (fun a e => ?_) _).up (fun a e => ?_) _).up (fun a e => ?_) _).up (fun a e => ?_) _).up (fun a e => ?_) _).up (fun a e => ?_) _), fun a e => ?_, below_four ((tF.setCell (p := ⟨w.heap.size + 1, 0, none⟩) (by simp) _).setCell (p := ⟨w.heap.size + 1, 1, none⟩) (by simp) _) (by omega)⟩
    all_goals (cases e; simp; try omega)
end Go.Proofs.Ytoocoobgidoceaa
