/- Chapter 24: op. -/
import Derived.Test.YtdilgmokiclfaaaDoorScD
namespace Go.Proofs.YtdilgmokiclfaaaDoor
open Go.RowKit
set_option linter.unusedVariables false
set_option maxRecDepth 100000

theorem eq4 (a0 a1 a2 a3 b0 b1 b2 b3 : Nat) (w : World) : (Op.equalIn 10000 24 (.agg #[.int .u64 (a0 : Nat), .int .u64 (a1 : Nat), .int .u64 (a2 : Nat), .int .u64 (a3 : Nat)]) (.agg #[.int .u64 (b0 : Nat), .int .u64 (b1 : Nat), .int .u64 (b2 : Nat), .int .u64 (b3 : Nat)])).run Tryd.prog w = .ok (decide ([a0, a1, a2, a3] = [b0, b1, b2, b3])) w :=
  eq_lim4 [a0, a1, a2, a3] [b0, b1, b2, b3] rfl rfl w
theorem fl_inj {a b : Nat} (ha : a < pw 4) (hb : b < pw 4) (h : fl a = fl b) : a = b := by
  rw [← fl_val ha, ← fl_val hb, h]
/-- What a line of an operation may hold. -/
structure OpD where
  t : Int
  a : Int
  b : Int
  c : Int
  n : Int
  k : Nat
  ks : List Nat
  vs : List Int
def opV' (o : OpD) (KA : Option Addr) (kc : Nat) (VA : Option Addr) (vc : Nat) : Array Value :=
  opV o.t o.a o.b o.c o.n (nth (fl o.k) 0) (nth (fl o.k) 1) (nth (fl o.k) 2) (nth (fl o.k) 3) KA o.ks.length kc VA o.vs.length vc
def headOk (o : OpD) : Bool :=
  decide (1 ≤ o.t ∧ o.t ≤ 11) && (decide (0 < namesN o.t) || o.a == 0) && (decide (1 < namesN o.t) || o.b == 0) && (decide (2 < namesN o.t) || o.c == 0) && (o.t == 10 || o.n == 0) && (o.t == 3 || o.k == 0) &&
  (if o.t = 6 then decide (1 ≤ o.vs.length ∧ o.vs.length ≤ 64 ∧ o.ks.length = o.vs.length) else o.vs.length == 0 && o.ks.length == 0)
def opOk (o : OpD) : Bool :=
  headOk o && (inB o.a && inB o.b && inB o.c && inB o.n) && o.vs.all inB && ltB o.k rN && o.ks.all fun x => ltB x rN
theorem str_beq (a b : ByteArray) : (a.toList == b.toList) = decide (a = b) := by
  rw [ByteArray.toList_eq, ByteArray.toList_eq]
  by_cases h : a = b
  · subst h; simp
  · have hd : a.data.toList ≠ b.data.toList := fun e => h (by
      cases a; cases b
      simp only [ByteArray.mk.injEq] at *
      exact Array.ext' e)
    rw [decide_eq_false h]
    exact beq_eq_false_iff_ne.2 hd
theorem wordB_ne {t : Int} : decide (wordB t = ⟨#[]⟩) = !decide (1 ≤ t ∧ t ≤ 11) := by
  rcases tag_cases t with rfl | rfl | rfl | rfl | rfl | rfl | rfl | rfl | rfl | rfl | rfl | h
  iterate 11
    · decide
  · rw [wordB_other h, decide_eq_false (p := 1 ≤ t ∧ t ≤ 11) (by omega)]; rfl
theorem ok_t {o : OpD} (h : ¬ (1 ≤ o.t ∧ o.t ≤ 11)) : opOk o = false := by simp [opOk, headOk, h]
theorem ok_a {o : OpD} (h : ¬ o.a = pick (decide (0 < namesN o.t)) o.a) : opOk o = false := by
  have h1 : decide (0 < namesN o.t) = false := by
    by_cases e : 0 < namesN o.t <;> simp_all [pick]
  have h2 : (o.a == 0) = false := by simpa [pick, h1] using h
  simp [opOk, headOk, h1, h2]
theorem ok_b {o : OpD} (h : ¬ o.b = pick (decide (1 < namesN o.t)) o.b) : opOk o = false := by
  have h1 : decide (1 < namesN o.t) = false := by
    by_cases e : 1 < namesN o.t <;> simp_all [pick]
  have h2 : (o.b == 0) = false := by simpa [pick, h1] using h
  simp [opOk, headOk, h1, h2]
theorem ok_c {o : OpD} (h : ¬ o.c = pick (decide (2 < namesN o.t)) o.c) : opOk o = false := by
  have h1 : decide (2 < namesN o.t) = false := by
    by_cases e : 2 < namesN o.t <;> simp_all [pick]
  have h2 : (o.c == 0) = false := by simpa [pick, h1] using h
  simp [opOk, headOk, h1, h2]
theorem ok_n {o : OpD} (h : ¬ o.n = pick (o.t == 10) o.n) : opOk o = false := by
  have h1 : (o.t == 10) = false := by
    by_cases e : o.t = 10 <;> simp_all [pick]
  have h2 : (o.n == 0) = false := by simpa [pick, h1] using h
  simp [opOk, headOk, h1, h2]
theorem ok_k {o : OpD} (hk : o.k < pw 4) (h : ¬ [nth (fl o.k) 0, nth (fl o.k) 1, nth (fl o.k) 2, nth (fl o.k) 3] = [pickN (o.t == 3) (nth (fl o.k) 0), pickN (o.t == 3) (nth (fl o.k) 1), pickN (o.t == 3) (nth (fl o.k) 2), pickN (o.t == 3) (nth (fl o.k) 3)]) : opOk o = false := by
  have h1 : (o.t == 3) = false := by
    by_cases e : o.t = 3 <;> simp_all [pickN]
  have h2 : (o.k == 0) = false := by
    by_cases e : o.k = 0
    · exfalso; apply h; rw [e]; cases (o.t == 3) <;> decide
    · simpa using e
  simp [opOk, headOk, h1, h2]
theorem ok_kn {o : OpD} (h : ¬ o.ks.length = pickN (o.t == 6) o.ks.length) : opOk o = false := by
  have h1 : ¬ o.t = 6 := by
    intro e; simp_all [pickN]
  have h2 : (o.ks.length == 0) = false := by simpa [pickN, h1] using h
  simp only [opOk, headOk, h1, h2, if_false, Bool.and_false, Bool.false_and]
theorem ok_vn {o : OpD} (h : ¬ o.vs.length = pickN (o.t == 6) o.vs.length) : opOk o = false := by
  have h1 : ¬ o.t = 6 := by
    intro e; simp_all [pickN]
  have h2 : (o.vs.length == 0) = false := by simpa [pickN, h1] using h
  simp only [opOk, headOk, h1, h2, if_false, Bool.and_false, Bool.false_and]
theorem head_ok {o : OpD} (hk : o.k < pw 4) (h0 : 1 ≤ o.t ∧ o.t ≤ 11) (h1 : o.a = pick (decide (0 < namesN o.t)) o.a) (h2 : o.b = pick (decide (1 < namesN o.t)) o.b) (h3 : o.c = pick (decide (2 < namesN o.t)) o.c) (h4 : o.n = pick (o.t == 10) o.n)
    (h5 : [nth (fl o.k) 0, nth (fl o.k) 1, nth (fl o.k) 2, nth (fl o.k) 3] = [pickN (o.t == 3) (nth (fl o.k) 0), pickN (o.t == 3) (nth (fl o.k) 1), pickN (o.t == 3) (nth (fl o.k) 2), pickN (o.t == 3) (nth (fl o.k) 3)])
    (h6 : o.ks.length = pickN (o.t == 6) o.ks.length) (h7 : o.vs.length = pickN (o.t == 6) o.vs.length) :
    headOk o = if o.t = 6 then decide (1 ≤ o.vs.length ∧ o.vs.length ≤ 64 ∧ o.ks.length = o.vs.length) else true := by
  have g1 : (decide (0 < namesN o.t) || o.a == 0) = true := by cases e : decide (0 < namesN o.t) <;> simp_all [pick]
  have g2 : (decide (1 < namesN o.t) || o.b == 0) = true := by cases e : decide (1 < namesN o.t) <;> simp_all [pick]
  have g3 : (decide (2 < namesN o.t) || o.c == 0) = true := by cases e : decide (2 < namesN o.t) <;> simp_all [pick]
  have g4 : (o.t == 10 || o.n == 0) = true := by cases e : (o.t == 10) <;> simp_all [pick]
  have g5 : (o.t == 3 || o.k == 0) = true := by
    cases e : (o.t == 3) with
    | true => rfl
    | false =>
      rw [e] at h5
      have : fl o.k = fl 0 := h5
      simpa using fl_inj hk (by decide) this
  unfold headOk
  rw [decide_eq_true h0, g1, g2, g3, g4, g5]
  by_cases e : o.t = 6
  · rw [if_pos e, if_pos e]; rfl
  · rw [if_neg e, if_neg e]
    have e' : (o.t == 6) = false := by simpa using e
    rw [e'] at h6 h7
    have h6' : o.ks.length = 0 := h6
    have h7' : o.vs.length = 0 := h7
    rw [h6', h7']; rfl
theorem ok_q1 {o : OpD} (h1 : [o.a, o.b, o.c, o.n].all inB = false) : opOk o = false := by
  have : (inB o.a && inB o.b && inB o.c && inB o.n) = false := by
    rw [← h1]; simp [Bool.and_assoc]
  simp [opOk, this]
theorem ok_q2 {o : OpD} (h1 : o.vs.all inB = false) : opOk o = false := by
  simp only [opOk, h1, Bool.and_false, Bool.false_and]
theorem ok_q3 {o : OpD} (h1 : [o.k].all (fun x => ltB x rN) = false) : opOk o = false := by
  have : ltB o.k rN = false := by rw [← h1]; simp
  simp only [opOk, this, Bool.and_false, Bool.false_and]
theorem ok_q4 {o : OpD} (h : headOk o = true) (h1 : [o.a, o.b, o.c, o.n].all inB = true) (h2 : o.vs.all inB = true) (h3 : [o.k].all (fun x => ltB x rN) = true) : opOk o = o.ks.all fun x => ltB x rN := by
  have q1 : (inB o.a && inB o.b && inB o.c && inB o.n) = true := by
    rw [← h1]; simp [Bool.and_assoc]
  have q3 : ltB o.k rN = true := by rw [← h3]; simp
  simp only [opOk, h, q1, h2, q3, Bool.true_and]
theorem IntS.new4 (w : World) (a b c n : Int) : IntS (w.alloc (.cells #[.int .i64 a, .int .i64 b, .int .i64 c, .int .i64 n] 3)) (some ⟨w.heap.size, 0, none⟩) 4 4 [a, b, c, n] := by
  have h := Bk.new w 3 #[.int .i64 a, .int .i64 b, .int .i64 c, .int .i64 n]
  refine ⟨rfl, Nat.le_refl _, by decide, fun _ => ⟨w.heap.size, 0, rfl, h.lt, fun i hi => ?_⟩⟩
  have hi' : i = 0 ∨ i = 1 ∨ i = 2 ∨ i = 3 := by simp at hi; omega
  rcases hi' with rfl | rfl | rfl | rfl <;> exact h.cell rfl
theorem FrS.new1 (w : World) (k : Nat) (hk : k < pw 4) : FrS (w.alloc (.cells #[.int .u64 (nth (fl k) 0), .int .u64 (nth (fl k) 1), .int .u64 (nth (fl k) 2), .int .u64 (nth (fl k) 3)] 24)) (some ⟨w.heap.size, 0, none⟩) 1 1 [k] := by
  have h := Bk.new w 24 #[.int .u64 (nth (fl k) 0), .int .u64 (nth (fl k) 1), .int .u64 (nth (fl k) 2), .int .u64 (nth (fl k) 3)]
  refine ⟨rfl, Nat.le_refl _, by decide, fun x hx => by simp at hx; exact hx ▸ hk, fun _ => ⟨w.heap.size, 0, rfl, h.lt, fun i hi => ?_⟩⟩
  have hi' : i = 0 := by simp at hi; omega
  subst hi'
  exact h.range
set_option maxHeartbeats 4000000 in
/-- op -/
theorem op_any (o : OpD) (KA : Option Addr) (kc : Nat) (VA : Option Addr) (vc : Nat) (w : World) (hk : o.k < pw 4) (HK : FrS w KA o.ks.length kc o.ks) (HV : IntS w VA o.vs.length vc o.vs) :
    Calls Tryd.prog 27 #[.agg (opV' o KA kc VA vc)] w fun e w' => e = .returned (.bool (opOk o)) ∧ Below w.heap.size w w' := by
  obtain ⟨t, a, b, c, n, k, ks, vs⟩ := o
  dsimp only [opV'] at *
  generalize hr : opOk _ = R
  have D1 := Lib.hid (fun W => word_any t W)
  have D2 := Lib.hid (fun W => bare_any t a b c n (nth (fl k) 0) (nth (fl k) 1) (nth (fl k) 2) (nth (fl k) 3) KA ks.length kc VA vs.length vc W)
  have x0 := Bk.new w 55 (opV t a b c n (nth (fl k) 0) (nth (fl k) 1) (nth (fl k) 2) (nth (fl k) 3) KA ks.length kc VA vs.length vc)
  have b0 := (Below.refl w.heap.size w).alloc (Nat.le_refl _) (.cells (opV t a b c n (nth (fl k) 0) (nth (fl k) 1) (nth (fl k) 2) (nth (fl k) 3) KA ks.length kc VA vs.length vc) 55)
  have EE := Lib.hid (fl_inj (a := k) (b := 0) hk (by decide))
  have hb4 := bareV t a b c n (nth (fl k) 0) (nth (fl k) 1) (nth (fl k) 2) (nth (fl k) 3) KA ks.length kc VA vs.length vc (namesN t)
  go_enter Tryd.func27, Tryd.ntmps27
  go_upto_region 1 with fail
  generalize (w.alloc (.cells (opV t a b c n (nth (fl k) 0) (nth (fl k) 1) (nth (fl k) 2) (nth (fl k) 3) KA ks.length kc VA vs.length vc) 55)) = W1 at *
  have x1 := x0
  obtain ⟨x00, x01, x02, x03, x04, x05, x06, x07, x08, x09, x0a⟩ := opV_c x1
  go_wp2_with fail
  refine (D1.out _).mono ?_
  rintro e w3 ⟨rfl, rfl⟩
  go_upto_region 2 with fail
  go_wp2_with (refine wpList_load_row rfl 55 (.tmp 1) rfl w.heap.size rfl 55 (opV t a b c n (nth (fl k) 0) (nth (fl k) 1) (nth (fl k) 2) (nth (fl k) 3) KA ks.length kc VA vs.length vc) (0, 0) _ x0 Tryd.underlying55 rfl (by kernel_rfl) ?_)
  refine (D2.out _).mono ?_
  rintro e w4 ⟨rfl, b4⟩
  obtain ⟨A', hA⟩ : ∃ x, x = pick (decide (0 < namesN t)) a := ⟨_, rfl⟩
  obtain ⟨B', hB⟩ : ∃ x, x = pick (decide (1 < namesN t)) b := ⟨_, rfl⟩
  obtain ⟨C', hC⟩ : ∃ x, x = pick (decide (2 < namesN t)) c := ⟨_, rfl⟩
  obtain ⟨N', hN⟩ : ∃ x, x = pick (t == 10) n := ⟨_, rfl⟩
  obtain ⟨p0, hp0⟩ : ∃ x, x = pickN (t == 3) (nth (fl k) 0) := ⟨_, rfl⟩
  obtain ⟨p1, hp1⟩ : ∃ x, x = pickN (t == 3) (nth (fl k) 1) := ⟨_, rfl⟩
  obtain ⟨p2, hp2⟩ : ∃ x, x = pickN (t == 3) (nth (fl k) 2) := ⟨_, rfl⟩
  obtain ⟨p3, hp3⟩ : ∃ x, x = pickN (t == 3) (nth (fl k) 3) := ⟨_, rfl⟩
  obtain ⟨KA', hKA⟩ : ∃ x, x = if t == 6 then KA else none := ⟨_, rfl⟩
  obtain ⟨VA', hVA⟩ : ∃ x, x = if t == 6 then VA else none := ⟨_, rfl⟩
  obtain ⟨kn', hkn⟩ : ∃ x, x = pickN (t == 6) ks.length := ⟨_, rfl⟩
  obtain ⟨vn', hvn⟩ : ∃ x, x = pickN (t == 6) vs.length := ⟨_, rfl⟩
  obtain ⟨kc', hkc⟩ : ∃ x, x = pickN (t == 6) kc := ⟨_, rfl⟩
  obtain ⟨vc', hvc⟩ : ∃ x, x = pickN (t == 6) vc := ⟨_, rfl⟩
  have hbv : bareV t a b c n (nth (fl k) 0) (nth (fl k) 1) (nth (fl k) 2) (nth (fl k) 3) KA ks.length kc VA vs.length vc (namesN t) = opV t A' B' C' N' p0 p1 p2 p3 KA' kn' kc' VA' vn' vc' := by
    rw [hA, hB, hC, hN, hp0, hp1, hp2, hp3, hKA, hVA, hkn, hvn, hkc, hvc]; rfl
  rw [hbv]
  have HA := Lib.hid hA
  have HB := Lib.hid hB
  have HC := Lib.hid hC
  have HN := Lib.hid hN
  have Hp0 := Lib.hid hp0
  have Hp1 := Lib.hid hp1
  have Hp2 := Lib.hid hp2
  have Hp3 := Lib.hid hp3
  have Hkn := Lib.hid hkn
  have Hvn := Lib.hid hvn
  clear hA hB hC hN hp0 hp1 hp2 hp3 hkn hvn hKA hVA hkc hvc hbv
  have x2 := (x1.bel b4).alloc (.cells (opV t A' B' C' N' p0 p1 p2 p3 KA' kn' kc' VA' vn' vc') 55)
  have y2 := Bk.new w4 55 (opV t A' B' C' N' p0 p1 p2 p3 KA' kn' kc' VA' vn' vc')
  have b2 := (b0.trans (b4.mono b0.size)).alloc (b0.trans (b4.mono b0.size)).size (.cells (opV t A' B' C' N' p0 p1 p2 p3 KA' kn' kc' VA' vn' vc') 55)
  clear x00 x01 x02 x03 x04 x05 x06 x07 x08 x09 x0a x0 x1 b0 b4
  go_upto_region 3 with (refine wpList_store_newC rfl 55 (.tmp 5) (.tmp 13) rfl (opV t A' B' C' N' p0 p1 p2 p3 KA' kn' kc' VA' vn' vc') w4.heap.size rfl rfl rfl 55 _ (by kernel_rfl) (by kernel_rfl) (by kernel_rfl) ?_)
  generalize w4.alloc (.cells (opV t A' B' C' N' p0 p1 p2 p3 KA' kn' kc' VA' vn' vc') 55) = W2 at *
  obtain ⟨x00, x01, x02, x03, x04, x05, x06, x07, x08, x09, x0a⟩ := opV_c x2
  obtain ⟨y00, y01, y02, y03, y04, y05, y06, y07, y08, y09, y0a⟩ := opV_c y2
  have E4 := eq4 (nth (fl k) 0) (nth (fl k) 1) (nth (fl k) 2) (nth (fl k) 3) p0 p1 p2 p3
  have HR := Lib.hid hr
  clear hr
  have S1 : (wordB t).toList.isEmpty = !decide (1 ≤ t ∧ t ≤ 11) := by
    rw [← wordB_ne, ← str_beq, ByteArray.toList_eq, ByteArray.toList_eq]
    cases (wordB t).data.toList <;> rfl
  by_cases ht : 1 ≤ t ∧ t ≤ 11
  case neg =>
    rw [decide_eq_false ht] at S1
    have HT := Lib.hid ht
    clear ht
    go_wp2_with fail
    go_ret
    exact ⟨by rw [← HR.out, ok_t HT.out]; rfl, b2⟩
  rw [decide_eq_true ht] at S1
  have HT := Lib.hid ht
  clear ht
  by_cases ha : a = A'
  case neg =>
    have qa : (a != A') = true := by simp [ha]
    have Ga := Lib.hid ha
    clear ha
    go_wp2_with fail
    go_ret
    exact ⟨by rw [← HR.out, ok_a (o := ⟨t, a, b, c, n, k, ks, vs⟩) (by rw [← HA.out]; exact Ga.out)]; rfl, b2⟩
  have qa : (a != A') = false := by simp [ha]
  have Ga := Lib.hid ha
  clear ha
  by_cases hb : b = B'
  case neg =>
    have qb : (b != B') = true := by simp [hb]
    have Gb := Lib.hid hb
    clear hb
    go_wp2_with fail
    go_ret
    exact ⟨by rw [← HR.out, ok_b (o := ⟨t, a, b, c, n, k, ks, vs⟩) (by rw [← HB.out]; exact Gb.out)]; rfl, b2⟩
  have qb : (b != B') = false := by simp [hb]
  have Gb := Lib.hid hb
  clear hb
  by_cases hc : c = C'
  case neg =>
    have qc : (c != C') = true := by simp [hc]
    have Gc := Lib.hid hc
    clear hc
    go_wp2_with fail
    go_ret
    exact ⟨by rw [← HR.out, ok_c (o := ⟨t, a, b, c, n, k, ks, vs⟩) (by rw [← HC.out]; exact Gc.out)]; rfl, b2⟩
  have qc : (c != C') = false := by simp [hc]
  have Gc := Lib.hid hc
  clear hc
  by_cases hn : n = N'
  case neg =>
    have qn : (n != N') = true := by simp [hn]
    have Gn := Lib.hid hn
    clear hn
    go_wp2_with fail
    go_ret
    exact ⟨by rw [← HR.out, ok_n (o := ⟨t, a, b, c, n, k, ks, vs⟩) (by rw [← HN.out]; exact Gn.out)]; rfl, b2⟩
  have qn : (n != N') = false := by simp [hn]
  have Gn := Lib.hid hn
  clear hn
  by_cases hK : [nth (fl k) 0, nth (fl k) 1, nth (fl k) 2, nth (fl k) 3] = [p0, p1, p2, p3]
  case neg =>
    rw [decide_eq_false hK] at E4
    have GK := Lib.hid hK
    clear hK
    go_wp2_with fail
    go_ret
    exact ⟨by rw [← HR.out, ok_k (o := ⟨t, a, b, c, n, k, ks, vs⟩) hk (by rw [← Hp0.out, ← Hp1.out, ← Hp2.out, ← Hp3.out]; exact GK.out)]; rfl, b2⟩
  rw [decide_eq_true hK] at E4
  have GK := Lib.hid hK
  clear hK
  by_cases hkn : ks.length = kn'
  case neg =>
    have qkn : (((ks.length : Nat) : Int) != ((kn' : Nat) : Int)) = true := bne_iff_ne.2 (by omega)
    have Gkn := Lib.hid hkn
    clear hkn
    go_wp2_with fail
    go_ret
    exact ⟨by rw [← HR.out, ok_kn (o := ⟨t, a, b, c, n, k, ks, vs⟩) (by rw [← Hkn.out]; exact Gkn.out)]; rfl, b2⟩
  have qkn : (((ks.length : Nat) : Int) != ((kn' : Nat) : Int)) = false := by simp [hkn]
  have Gkn := Lib.hid hkn
  clear hkn
  by_cases hvn : vs.length = vn'
  case neg =>
    have qvn : (((vs.length : Nat) : Int) != ((vn' : Nat) : Int)) = true := bne_iff_ne.2 (by omega)
    have Gvn := Lib.hid hvn
    clear hvn
    go_wp2_with fail
    go_ret
    exact ⟨by rw [← HR.out, ok_vn (o := ⟨t, a, b, c, n, k, ks, vs⟩) (by rw [← Hvn.out]; exact Gvn.out)]; rfl, b2⟩
  have qvn : (((vs.length : Nat) : Int) != ((vn' : Nat) : Int)) = false := by simp [hvn]
  have Gvn := Lib.hid hvn
  clear hvn
  have HH := Lib.hid (head_ok (o := ⟨t, a, b, c, n, k, ks, vs⟩) hk HT.out (by rw [← HA.out]; exact Ga.out) (by rw [← HB.out]; exact Gb.out) (by rw [← HC.out]; exact Gc.out) (by rw [← HN.out]; exact Gn.out) (by rw [← Hp0.out, ← Hp1.out, ← Hp2.out, ← Hp3.out]; exact GK.out) (by rw [← Hkn.out]; exact Gkn.out) (by rw [← Hvn.out]; exact Gvn.out))
  go_upto_region 5 with fail
  have hal : Tryd.prog.cellsOf 3 = 1 := by kernel_rfl
  go_cut [92] from 69 to 92 (fun v W => v = .bool (!headOk ⟨t, a, b, c, n, k, ks, vs⟩) ∧ W = W2)
  case first =>
    by_cases e : t = 6
    · have qt : (t == 6) = true := by simpa using e
      have HH' : headOk ⟨t, a, b, c, n, k, ks, vs⟩ = decide (1 ≤ vs.length ∧ vs.length ≤ 64 ∧ ks.length = vs.length) := HH.out.trans (if_pos e)
      have T := Lib.hid e
      clear e
      have HHH := Lib.hid HH'
      clear HH'
      by_cases h1 : ((vs.length : Nat) : Int) < 1
      · have G1 := Lib.hid h1
        go_wp2_with fail
        go_meet
        case rel => exact ⟨by rw [HHH.out, decide_eq_false (by have := G1.out; omega)]; rfl, rfl⟩
      · by_cases h2 : (64 : Int) < ((vs.length : Nat) : Int)
        · have G2 := Lib.hid h2
          go_wp2_with fail
          go_meet
          case rel => exact ⟨by rw [HHH.out, decide_eq_false (by have := G2.out; omega)]; rfl, rfl⟩
        · have G1 := Lib.hid h1
          have G2 := Lib.hid h2
          by_cases h3 : ks.length = vs.length
          · have q3 : (((ks.length : Nat) : Int) != ((vs.length : Nat) : Int)) = false := by simp [h3]
            have G3 := Lib.hid h3
            clear h3
            go_wp2_with fail
            go_meet
            case rel => exact ⟨by rw [HHH.out, decide_eq_true (by have := G1.out; have := G2.out; have := G3.out; omega)]; rfl, rfl⟩
          · have q3 : (((ks.length : Nat) : Int) != ((vs.length : Nat) : Int)) = true := bne_iff_ne.2 (by omega)
            have G3 := Lib.hid h3
            clear h3
            go_wp2_with fail
            go_meet
            case rel => exact ⟨by rw [HHH.out, decide_eq_false (by have := G3.out; omega)]; rfl, rfl⟩
    · have qt : (t == 6) = false := by simpa using e
      have HH' : headOk ⟨t, a, b, c, n, k, ks, vs⟩ = true := HH.out.trans (if_neg e)
      have HHH := Lib.hid HH'
      clear HH'
      have T := Lib.hid e
      clear e
      go_wp2_with fail
      go_meet
      case rel => exact ⟨by rw [HHH.out]; rfl, rfl⟩
  case rest =>
    obtain ⟨rfl, rfl⟩ := hcut
    cases hh : headOk ⟨t, a, b, c, n, k, ks, vs⟩ with
    | false =>
      have Gh := Lib.hid hh
      clear hh
      go_wp2_with fail
      go_ret
      exact ⟨by rw [← HR.out]; simp only [opOk, Gh.out, Bool.false_and]; rfl, b2⟩
    | true =>
      have Gh := Lib.hid hh
      clear hh
      clear y2 y00 y01 y02 y03 y04 y05 y06 y07 y08 y09 y0a E4 S1 qa qb qc qn qkn qvn
      go_upto_region 7 with fail
      have b3 := b2.alloc b2.size (.cells #[.int .i64 a, .int .i64 b, .int .i64 c, .int .i64 n] 3)
      have x3 := x2.alloc (.cells #[.int .i64 a, .int .i64 b, .int .i64 c, .int .i64 n] 3)
      have E1 := Lib.hid (IntS.new4 wc a b c n)
      go_wp2_with fail
      generalize wc.alloc (.cells #[.int .i64 a, .int .i64 b, .int .i64 c, .int .i64 n] 3) = W3 at *
      refine (ssmall_any _ 4 4 [a, b, c, n] W3 E1.out).mono ?_
      rintro e w5 ⟨rfl, b5⟩
      generalize hq1 : [a, b, c, n].all inB = q1
      have Q1 := Lib.hid hq1
      clear hq1
      clear x2 b2 x00 x01 x02 x03 x04 x05 x06 x07 x08 x09 x0a E1
      have b5' := b3.trans (b5.mono b3.size)
      have x5 := x3.bel b5
      clear x3 b3 b5
      obtain ⟨x00, x01, x02, x03, x04, x05, x06, x07, x08, x09, x0a⟩ := opV_c x5
      cases q1 with
      | false =>
        go_wp2_with fail
        go_ret
        exact ⟨by rw [← HR.out, ok_q1 (o := ⟨t, a, b, c, n, k, ks, vs⟩) Q1.out]; rfl, b5'⟩
      | true =>
      go_wp2_with fail
      refine (ssmall_any VA vs.length vc vs w5 (HV.bel b5')).mono ?_
      rintro e w6 ⟨rfl, b6⟩
      generalize hq2 : vs.all inB = q2
      have Q2 := Lib.hid hq2
      clear hq2
      clear x00 x01 x02 x03 x04 x05 x06 x07 x08 x09 x0a
      have b6' := b5'.trans (b6.mono b5'.size)
      have x6 := x5.bel b6
      clear x5 b5' b6
      obtain ⟨x00, x01, x02, x03, x04, x05, x06, x07, x08, x09, x0a⟩ := opV_c x6
      cases q2 with
      | false =>
        go_wp2_with fail
        go_ret
        exact ⟨by rw [← HR.out, ok_q2 (o := ⟨t, a, b, c, n, k, ks, vs⟩) Q2.out]; rfl, b6'⟩
      | true =>
      have b7 := b6'.alloc b6'.size (.cells #[.int .u64 (nth (fl k) 0), .int .u64 (nth (fl k) 1), .int .u64 (nth (fl k) 2), .int .u64 (nth (fl k) 3)] 24)
      have x7 := x6.alloc (.cells #[.int .u64 (nth (fl k) 0), .int .u64 (nth (fl k) 1), .int .u64 (nth (fl k) 2), .int .u64 (nth (fl k) 3)] 24)
      have E2 := Lib.hid (FrS.new1 w6 k hk)
      go_wp2_with fail
      generalize w6.alloc (.cells #[.int .u64 (nth (fl k) 0), .int .u64 (nth (fl k) 1), .int .u64 (nth (fl k) 2), .int .u64 (nth (fl k) 3)] 24) = W7 at *
      refine (clean_any _ 1 1 [k] W7 E2.out).mono ?_
      rintro e w8 ⟨rfl, b8⟩
      generalize hq3 : [k].all (fun x => ltB x rN) = q3
      have Q3 := Lib.hid hq3
      clear hq3
      clear x6 b6' x00 x01 x02 x03 x04 x05 x06 x07 x08 x09 x0a E2
      have b8' := b7.trans (b8.mono b7.size)
      have x8 := x7.bel b8
      clear x7 b7 b8
      obtain ⟨x00, x01, x02, x03, x04, x05, x06, x07, x08, x09, x0a⟩ := opV_c x8
      cases q3 with
      | false =>
        go_wp2_with fail
        go_ret
        exact ⟨by rw [← HR.out, ok_q3 (o := ⟨t, a, b, c, n, k, ks, vs⟩) Q3.out]; rfl, b8'⟩
      | true =>
      go_wp2_with fail
      refine (clean_any KA ks.length kc ks w8 (HK.bel b8')).mono ?_
      rintro e w9 ⟨rfl, b9⟩
      have b9' := b8'.trans (b9.mono b8'.size)
      go_wp2_with fail
      go_ret
      exact ⟨by rw [← HR.out, ok_q4 Gh.out Q1.out Q2.out Q3.out]; rfl, b9'⟩
end Go.Proofs.YtdilgmokiclfaaaDoor
