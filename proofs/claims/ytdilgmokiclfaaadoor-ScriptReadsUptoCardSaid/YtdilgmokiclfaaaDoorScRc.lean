/- Chapter 24: the reference's field. -/
import Derived.Test.YtdilgmokiclfaaaDoorScRa
import Derived.Test.YtdilgmokiclfaaaDoorScJ
import Derived.Deep.RegionLaw
namespace Go.Proofs.YtdilgmokiclfaaaDoor
open Go.RowKit
set_option linter.unusedVariables false
set_option maxRecDepth 100000

/-- The value of the first k letters, each at its place. -/
def tv (bs : List Nat) : Nat → Nat
  | 0 => 0
  | k + 1 => tv bs k + hexV (nth bs k) * 16 ^ (bs.length - 1 - k)
theorem tv_hv (bs : List Nat) : ∀ k, k ≤ bs.length → tv bs k + hv bs (bs.length - k) = hv bs bs.length
  | 0, _ => by rw [tv, Nat.zero_add]; rfl
  | k + 1, h => by
    have ih := tv_hv bs k (by omega)
    have e : bs.length - k = (bs.length - (k + 1)) + 1 := by omega
    rw [e, hv] at ih
    rw [tv, ← ih, show bs.length - 1 - (bs.length - (k + 1)) = k by omega, show bs.length - 1 - k = bs.length - (k + 1) by omega]
    omega
theorem tv_all (bs : List Nat) : tv bs bs.length = hv bs bs.length := by
  have := tv_hv bs bs.length (Nat.le_refl _)
  rw [Nat.sub_self] at this
  exact this
theorem tv_div (bs : List Nat) : ∀ k, k ≤ bs.length → (∀ j, j < k → hexOk (nth bs j) = true) → ∃ u, tv bs k = 16 ^ (bs.length - k) * u ∧ u < 16 ^ k
  | 0, _, _ => ⟨0, rfl, Nat.zero_lt_one⟩
  | k + 1, h, hok => by
    obtain ⟨u, h1, h2⟩ := tv_div bs k (by omega) (fun j hj => hok j (by omega))
    have hd := hexV_lt (hok k (by omega))
    refine ⟨16 * u + hexV (nth bs k), ?_, by rw [Nat.pow_succ]; omega⟩
    rw [tv, h1, show bs.length - k = (bs.length - (k + 1)) + 1 by omega, show bs.length - 1 - k = bs.length - (k + 1) by omega, Nat.pow_succ, Nat.mul_add, Nat.mul_assoc, Nat.mul_comm (hexV _)]
/-- A digit laid into the limbs ahead of lower ones that are still nought. -/
theorem fl_add {V d i q r u : Nat} (hi : i = 16 * q + r) (hr : r < 16) (hq : q < 4) (hV : V = 16 ^ (i + 1) * u) (hd : d < 16) :
    (fl V).set q (nth (fl V) q + d * 2 ^ (4 * r)) = fl (V + d * 16 ^ i) ∧ nth (fl V) q < 18446744073709551616 ∧ d * 2 ^ (4 * r) < 18446744073709551616 ∧ nth (fl V) q + d * 2 ^ (4 * r) < 18446744073709551616 := by
  have e16 : (16 : Nat) ^ i = 2 ^ (64 * q) * 2 ^ (4 * r) := by
    rw [hi, ← Nat.pow_add, show (16 : Nat) = 2 ^ 4 from rfl, ← Nat.pow_mul]; congr 1; omega
  have e17 : (16 : Nat) ^ (i + 1) = 2 ^ (64 * q) * (2 ^ (4 * r) * 16) := by rw [Nat.pow_succ, e16, Nat.mul_assoc]
  have e64 : (18446744073709551616 : Nat) = 2 ^ (4 * r) * 16 * 2 ^ (60 - 4 * r) := by
    rw [show (18446744073709551616 : Nat) = 2 ^ 64 from rfl, show (2 : Nat) ^ (4 * r) * 16 = 2 ^ (4 * r + 4) by rw [Nat.pow_add], ← Nat.pow_add]; congr 1; omega
  have hM : 0 < 2 ^ (60 - 4 * r) := Nat.pow_pos (by decide)
  rw [e17, Nat.mul_assoc] at hV
  rw [e16, Nat.mul_left_comm]
  generalize 2 ^ (4 * r) = P at *
  generalize 2 ^ (60 - 4 * r) = M at *
  obtain ⟨Y, hY⟩ : ∃ Y, Y = P * 16 * u := ⟨_, rfl⟩
  rw [← hY] at hV
  obtain ⟨t, ht⟩ : ∃ t, t = d * P := ⟨_, rfl⟩
  rw [← ht]
  have hYa : Y % 18446744073709551616 = P * 16 * (u % M) := by rw [hY, e64, Nat.mul_mod_mul_left]
  have hum : u % M + 1 ≤ M := Nat.mod_lt _ hM
  have hPM : P * 16 * (u % M) + P * 16 ≤ P * 16 * M := by
    have := Nat.mul_le_mul_left (P * 16) hum
    rw [Nat.mul_add, Nat.mul_one] at this
    exact this
  have htP : t ≤ 15 * P := by rw [ht]; exact Nat.mul_le_mul_right _ (by omega)
  rw [← hYa, ← e64] at hPM
  have hsum : Y % 18446744073709551616 + t < 18446744073709551616 := by
    rcases Nat.eq_zero_or_pos P with h0 | h0
    · rw [h0] at htP; have := Nat.mod_lt Y (show 0 < 18446744073709551616 by decide); omega
    · omega
  have hdm := Nat.div_add_mod Y 18446744073709551616
  generalize Y % 18446744073709551616 = a at *
  generalize Y / 18446744073709551616 = b at *
  have hq4 : q = 0 ∨ q = 1 ∨ q = 2 ∨ q = 3 := by omega
  rw [hV, ← Nat.mul_add, ← hdm]
  clear hY hYa hum hPM htP hV hdm e16 e17 e64 hM
  have lim4 : nth (fl (2 ^ (64 * q) * (18446744073709551616 * b + a))) q = a := by
    rcases hq4 with rfl | rfl | rfl | rfl <;> simp only [fl, nth, List.getD_cons_zero, List.getD_cons_succ, pw] <;> omega
  rw [lim4]
  refine ⟨?_, by omega, by omega, by omega⟩
  rcases hq4 with rfl | rfl | rfl | rfl <;> simp only [fl, List.set_cons_zero, List.set_cons_succ, pw, List.cons.injEq, and_true] <;> omega
theorem numB_some {s : ByteArray} {v : Nat} (hn : numB s = some v) : ltB (hv (bytesN s) s.size) rN = true ∧ hv (bytesN s) s.size = v := by
  unfold numB at hn
  split at hn
  · cases hn
  · split at hn
    · split at hn
      · rename_i hx
        exact ⟨hx, Option.some.inj hn⟩
      · cases hn
    · cases hn
/-- What field answers, told by the letters' value. -/
theorem numB_tv (s : ByteArray) : (ltB (hv (bytesN s) s.size) rN && decide (hexB (hv (bytesN s) s.size) = s)) = (numB s).isSome ∧ ∀ v, numB s = some v → hv (bytesN s) s.size = v := by
  refine ⟨?_, fun v h => (numB_some h).2⟩
  cases hn : numB s with
  | some v =>
    obtain ⟨h1, h2⟩ := numB_some hn
    rw [h1, h2, (hexB_numB hn).1]
    simp
  | none =>
    rw [Bool.and_eq_false_iff.2]
    · rfl
    · by_cases hl : ltB (hv (bytesN s) s.size) rN = true
      · right
        refine decide_eq_false fun he => ?_
        have := numB_hexB hl
        rw [he, hn] at this
        cases this
      · left; simpa using hl
def RfRel (bs : List Nat) (B : Nat) (w : World) (i : Value) (wr : World) : Prop :=
  ∃ k : Nat, k ≤ bs.length ∧ i = .int .i64 (k : Int) ∧ (∀ j, j < k → hexOk (nth bs j) = true) ∧ Own wr B 24 .u64 [0, 0, 0, 0] ∧ Own wr (B + 1) 24 .u64 (fl (tv bs k)) ∧ Below B w wr
set_option maxHeartbeats 8000000 in
/-- ref.field -/
theorem rfield_any (s : ByteArray) (w : World) (hmax : s.size ≤ 100000000) :
    Calls Tryd.prog 65 #[.string s] w fun e w' => ∃ x : Nat, e = .returned (.tuple #[.agg (lim .u64 (fl x)), .bool (numB s).isSome]) ∧ x < pw 4 ∧ (∀ v, numB s = some v → x = v) ∧ Below w.heap.size w w' := by
  have hal : Tryd.prog.arrayLen 24 = 4 := by kernel_rfl
  obtain ⟨n, hn⟩ : ∃ n, s.size = n := ⟨_, rfl⟩
  have hbl := bytesN_length s
  rw [hn] at hbl hmax
  have HN := Lib.hid hn
  have HBL := Lib.hid hbl
  obtain ⟨R, hR⟩ : ∃ x, x = numB s := ⟨_, rfl⟩
  rw [← hR]
  have HR := Lib.hid hR
  have o1 : Own ((w.alloc (.cells #[.int .u64 0, .int .u64 0, .int .u64 0, .int .u64 0] 24)).alloc (.cells #[.int .u64 0, .int .u64 0, .int .u64 0, .int .u64 0] 24)) w.heap.size 24 .u64 [0, 0, 0, 0] := (Own.new w 24 .u64 [0, 0, 0, 0]).alloc _
  have o2 : Own ((w.alloc (.cells #[.int .u64 0, .int .u64 0, .int .u64 0, .int .u64 0] 24)).alloc (.cells #[.int .u64 0, .int .u64 0, .int .u64 0, .int .u64 0] 24)) (w.heap.size + 1) 24 .u64 [0, 0, 0, 0] := own_new1 w _ 24 .u64 [0, 0, 0, 0]
  have b0 : Below w.heap.size w ((w.alloc (.cells #[.int .u64 0, .int .u64 0, .int .u64 0, .int .u64 0] 24)).alloc (.cells #[.int .u64 0, .int .u64 0, .int .u64 0, .int .u64 0] 24)) := ((Below.refl w.heap.size w).alloc (Nat.le_refl _) _).alloc (by simp) _
  have hix : ∀ j, j < n → ∀ w, (Instr.index 9 (.string s) (.int .i64 (j : Int))).run Tryd.prog w = .ok (.int .u8 (nth (bytesN s) j : Nat)) w := fun j hj w => run_index_s s j w (by rw [HN.out]; exact hj)
  have HIX := Lib.hid hix
  have hno : n = 0 ∨ 64 < n → R = none := fun h => by rw [HR.out]; exact numB_bad (by rw [HN.out]; omega)
  have HNO := Lib.hid hno
  have D1 := Lib.hid digit_any
  clear hn hbl hix hno hR
  go_enter Tryd.func65, Tryd.ntmps65
  go_upto_region 2 with fail
  generalize ((w.alloc (.cells #[.int .u64 0, .int .u64 0, .int .u64 0, .int .u64 0] 24)).alloc (.cells #[.int .u64 0, .int .u64 0, .int .u64 0, .int .u64 0] 24)) = W2 at *
  have hsn : (s.size : Int) = (n : Int) := by rw [HN.out]
  have hx40 : ([0, 0, 0, 0] : List Nat).length = 4 := rfl
  have O1 := Lib.hid o1
  have O2 := Lib.hid o2
  have B0 := Lib.hid b0
  by_cases h0 : n = 0
  · have hq0 : ((n : Int) == 0) = true := by simp [h0]
    have hRx := Lib.hid (HNO.out (.inl h0))
    clear h0
    go_wp2_with (first
      | refine own_load o2 rfl 24 (.tmp 4) rfl rfl 4 22 hx40 (by kernel_rfl) (by kernel_rfl) ?_
      | refine wpList_store_row rfl 24 (.tmp 2) (.tmp 18) rfl w.heap.size (lim .u64 [0, 0, 0, 0]) rfl rfl 24 _ O1.out (by kernel_rfl) (by kernel_rfl) (by kernel_rfl) ?_)
    rw [setRow_self _ _ _ _ _ O1.out]
    exact bodyPost_ret (results_fr rfl _ rfl O1.out rfl) rfl ⟨0, by rw [hRx.out]; rfl, by decide, fun v hv => (by rw [hRx.out] at hv; cases hv), B0.out⟩
  have hq0 : ((n : Int) == 0) = false := beq_eq_false_iff_ne.2 (by omega)
  by_cases h64 : (64 : Int) < (n : Int)
  · have hRx := Lib.hid (HNO.out (.inr (by omega)))
    clear h0
    go_wp2_with (first
      | refine own_load o2 rfl 24 (.tmp 4) rfl rfl 4 22 hx40 (by kernel_rfl) (by kernel_rfl) ?_
      | refine wpList_store_row rfl 24 (.tmp 2) (.tmp 18) rfl w.heap.size (lim .u64 [0, 0, 0, 0]) rfl rfl 24 _ O1.out (by kernel_rfl) (by kernel_rfl) (by kernel_rfl) ?_)
    rw [setRow_self _ _ _ _ _ O1.out]
    exact bodyPost_ret (results_fr rfl _ rfl O1.out rfl) rfl ⟨0, by rw [hRx.out]; rfl, by decide, fun v hv => (by rw [hRx.out] at hv; cases hv), B0.out⟩
  have H0 := Lib.hid h0
  have hn1 : 1 ≤ n := by omega
  have hn64 : n ≤ 64 := by omega
  have hv0 : [0, 0, 0, 0] = fl (tv (bytesN s) 0) := by show _ = fl 0; decide
  have hst : RfRel (bytesN s) w.heap.size w (.int .i64 0) W2 := ⟨0, Nat.zero_le _, rfl, fun j hj => (by omega), O1.out, hv0 ▸ O2.out, B0.out⟩
  have Hst := Lib.hid hst
  clear hst hv0 h0 o1 o2 b0
  go_wp2_with fail
  go_loopw [5] (RfRel (bytesN s) w.heap.size w) (fun i _ => n - (intOf i).toNat)
  case atStart => exact Hst.out
  case round =>
    clear Hst
    obtain ⟨k, hk, rfl, hok, ow1, ow2, hb⟩ := hrel
    rw [HBL.out] at hk
    have HOK := Lib.hid hok
    clear hok
    by_cases hkn : k < n
    · have hkni : (k : Int) < (n : Int) := by omega
      obtain ⟨c, hc⟩ : ∃ c, nth (bytesN s) k = c := ⟨_, rfl⟩
      have hc256 : c < 256 := by rw [← hc]; exact (bytesN_bytO s).getD k
      have hjm := HIX.out k hkn
      rw [hc] at hjm
      have HC := Lib.hid hc
      clear hc
      have D2 := Lib.hid (D1.out c hc256)
      cases hcok : hexOk c with
      | false =>
        rw [hcok] at D2
        have hRx : R = none := by
          rw [HR.out]
          unfold numB
          by_cases hbad : s.size = 0 ∨ 64 < s.size ∨ (1 < s.size ∧ nth (bytesN s) 0 = 48)
          · rw [if_pos hbad]
          · rw [if_neg hbad, if_neg]
            intro hall
            have hpl : k < (bytesN s).length := by rw [HBL.out]; exact hkn
            have := List.all_eq_true.1 hall (nth (bytesN s) k) (by rw [nth_eq hpl]; exact List.getElem_mem hpl)
            rw [HC.out, hcok] at this
            cases this
        have HRX := Lib.hid hRx
        have hx4 : (fl (tv (bytesN s) k)).length = 4 := rfl
        have hlt4 : tv (bytesN s) k < pw 4 := by
          obtain ⟨u, h1, h2⟩ := tv_div (bytesN s) k (by rw [HBL.out]; exact hk) HOK.out
          rw [h1, HBL.out]
          refine Nat.lt_of_lt_of_le (Nat.mul_lt_mul_of_pos_left h2 (Nat.pow_pos (by decide))) ?_
          rw [← Nat.pow_add, show pw 4 = 16 ^ 64 by decide +kernel]
          exact Nat.pow_le_pow_right (by decide) (by omega)
        have HLT := Lib.hid hlt4
        generalize tv (bytesN s) k = V at *
        clear hRx hlt4 hcok
        go_wp2_with fail
        refine (D2.out _).mono ?_
        rintro e w5 ⟨rfl, rfl⟩
        go_wp2_with (first
          | refine own_load ow2 rfl 24 (.tmp 4) rfl rfl 4 22 hx4 (by kernel_rfl) (by kernel_rfl) ?_
          | refine wpList_store_row rfl 24 (.tmp 2) (.tmp 34) rfl w.heap.size (lim .u64 (fl V)) rfl rfl 24 _ ow1 (by kernel_rfl) rfl (lim_one _ _) ?_)
        have o3 : Own (w5.setRow w.heap.size (lim .u64 (fl V))) w.heap.size 24 .u64 (fl V) := setRow_heap w5 w.heap.size _ _ _ _ ow1
        exact bodyPost_ret (results_fr rfl _ rfl o3 rfl) rfl ⟨V, by rw [HRX.out]; rfl, HLT.out, fun v hv => (by rw [HRX.out] at hv; cases hv), below_setRow hb (Nat.le_refl _) _⟩
      | true =>
        rw [hcok] at D2
        obtain ⟨p, hp⟩ : ∃ p, n - 1 - k = p := ⟨_, rfl⟩
        have hpn : p < n := by omega
        have e0 : (n : Int) - 1 - (k : Int) = (p : Int) := by omega
        obtain ⟨q, hq⟩ : ∃ q, p / 16 = q := ⟨_, rfl⟩
        obtain ⟨r, hr⟩ : ∃ r, p % 16 = r := ⟨_, rfl⟩
        obtain ⟨z8, hz8⟩ : ∃ z, 4 * r = z := ⟨_, rfl⟩
        have hq4 : q < 4 := by omega
        have hr16 : r < 16 := by omega
        have e1 : (p : Int) / 16 = (q : Int) := by omega
        have e2 : (p : Int).tdiv 16 = (q : Int) := by rw [Int.tdiv_eq_ediv_of_nonneg (by omega)]; exact e1
        have e3 : (p : Int) % 16 = (r : Int) := by omega
        have e4 : (p : Int).tmod 16 = (r : Int) := by rw [Int.tmod_eq_emod_of_nonneg (by omega)]; exact e3
        have e5 : 4 * (r : Int) = (z8 : Int) := by omega
        have e6 : IntKind.i64.wrap (z8 : Int) = (z8 : Int) := by rw [IntKind.wrap_i64]; omega
        have e7 : IntKind.i64.wrap (q : Int) = (q : Int) := by rw [IntKind.wrap_i64]; omega
        have e8 : IntKind.i64.wrap (r : Int) = (r : Int) := by rw [IntKind.wrap_i64]; omega
        have e9 : IntKind.u64.wrap (z8 : Int) = (z8 : Int) := by rw [IntKind.wrap_u64]; omega
        have hz64 : (z8 : Int) < 64 := by omega
        have hz64' : (z8 : Int) ≤ 64 := by omega
        have hz0 : (0 : Int) ≤ (z8 : Int) := by omega
        have hqi : (q : Int) < 4 := by omega
        have hdv := tv_div (bytesN s) k (by rw [HBL.out]; exact hk) HOK.out
        rw [HBL.out, show n - k = p + 1 by omega] at hdv
        obtain ⟨u, hu, _⟩ := hdv
        have hd16 := hexV_lt hcok
        have hor := fl_add (V := tv (bytesN s) k) (d := hexV c) (i := p) (q := q) (r := r) (u := u) (by omega) hr16 hq4 hu hd16
        rw [hz8] at hor
        have hnx : tv (bytesN s) (k + 1) = tv (bytesN s) k + hexV c * 16 ^ p := by rw [tv, HBL.out, hp, HC.out]
        obtain ⟨V, hV⟩ : ∃ x, x = tv (bytesN s) k := ⟨_, rfl⟩
        obtain ⟨d, hd⟩ : ∃ x, x = hexV c := ⟨_, rfl⟩
        have hdi : (if (true : Bool) = true then hexV c else 0) = d := by rw [if_pos rfl, hd]
        rw [hdi] at D2
        rw [← hV, ← hd] at hor hnx
        rw [← hV] at ow2
        rw [← hd] at hd16
        obtain ⟨o1, o2, o4, o5⟩ := hor
        have hca := ow2.cell (i := q) (by show q < 4; omega)
        have hfa := ow2.frozen q
        obtain ⟨L, hL⟩ : ∃ x, x = nth (fl V) q := ⟨_, rfl⟩
        rw [← hL] at o1 o2 o5 hca
        obtain ⟨y, hy⟩ : ∃ x, x = d * 2 ^ z8 := ⟨_, rfl⟩
        rw [← hy] at o1 o4 o5
        have esh : IntKind.u64.wrap ((d : Int) * 2 ^ z8) = (y : Int) := by
          rw [show ((d : Int) * 2 ^ z8) = ((d * 2 ^ z8 : Nat) : Int) by simp, ← hy, IntKind.wrap_u64]; omega
        obtain ⟨S, hS⟩ : ∃ S, L + y = S := ⟨_, rfl⟩
        have esm : (L : Int) + (y : Int) = (S : Int) := by omega
        rw [hS] at o1 o5
        have esw : IntKind.u64.wrap (S : Int) = (S : Int) := by rw [IntKind.wrap_u64]; omega
        have HO1 := Lib.hid o1
        have HNXT := Lib.hid hnx
        have HNX := Lib.hid (show ∀ j, j < k + 1 → hexOk (nth (bytesN s) j) = true from fun j hj => by
          rcases Nat.lt_or_ge j k with h | h
          · exact HOK.out j h
          · obtain rfl : j = k := by omega
            rw [HC.out]; exact hcok)
        have HHB := Lib.hid hb
        have HW1 := Lib.hid ow1
        have HW2 := Lib.hid ow2
        clear hV hd hy o1 o2 o4 hL hcok hu hnx hdi hq hr hz8 hp D1 ow1 hb hS
        go_upto_region 10 with fail
        go_wp2_with fail
        refine (D2.out _).mono ?_
        rintro e w5 ⟨rfl, rfl⟩
        go_wp2_with fail
        have hst2 : RfRel (bytesN s) w.heap.size w (.int .i64 ((k : Int) + 1)) (w5.setCell ⟨w.heap.size + 1, q, none⟩ (.int .u64 (S : Nat))) := by
          refine ⟨k + 1, by rw [HBL.out]; omega, int_eq (by omega), HNX.out, HW1.out.far (by simp) _, ?_, HHB.out.setCell (p := ⟨w.heap.size + 1, q, none⟩) (by simp) _⟩
          rw [HNXT.out, ← HO1.out]
          exact HW2.out.set _ _
        exact ⟨hst2, by simp [intOf]; omega⟩
    · obtain rfl : k = n := by omega
      have hkni : ¬ (k : Int) < (k : Int) := by omega
      have hlt4 : tv (bytesN s) k < pw 4 := by
        obtain ⟨u, h1, h2⟩ := tv_div (bytesN s) k (by rw [HBL.out]; exact hk) HOK.out
        rw [h1, HBL.out]
        refine Nat.lt_of_lt_of_le (Nat.mul_lt_mul_of_pos_left h2 (Nat.pow_pos (by decide))) ?_
        rw [← Nat.pow_add, show pw 4 = 16 ^ 64 by decide +kernel]
        exact Nat.pow_le_pow_right (by decide) (by omega)
      have hnum := numB_tv s
      have hta := tv_all (bytesN s)
      rw [HBL.out] at hta
      rw [HN.out, ← hta, ← HR.out] at hnum
      have D2 := Lib.hid (fun W => rless24_any (tv (bytesN s) k) W hlt4)
      have D3 := Lib.hid (fun W => rhex_any (tv (bytesN s) k) W)
      have HLT := Lib.hid hlt4
      have hse := str_beq (hexB (tv (bytesN s) k)) s
      obtain ⟨V, hV⟩ : ∃ x, x = tv (bytesN s) k := ⟨_, rfl⟩
      rw [← hV] at hnum D2 D3 HLT ow2 hse
      obtain ⟨t, ht⟩ : ∃ t, t = ltB V rN := ⟨_, rfl⟩
      obtain ⟨hx, hhx⟩ : ∃ t, t = hexB V := ⟨_, rfl⟩
      rw [← ht] at D2 hnum
      rw [← hhx] at D3 hnum hse
      obtain ⟨q, hq⟩ : ∃ q, q = decide (hx = s) := ⟨_, rfl⟩
      rw [← hq] at hnum hse
      have HNUM := Lib.hid hnum
      obtain ⟨xs, hxs⟩ : ∃ x, x = fl V := ⟨_, rfl⟩
      have e4 := fl4 V
      rw [← hxs] at D2 D3 ow2 e4
      obtain ⟨a0, a1, a2, a3, rfl⟩ := e4
      have HXS := Lib.hid hxs
      clear hnum hlt4 hV ht hhx hq hxs hta HIX D1 H0
      go_upto_region 12 with fail
      obtain ⟨p0, p1, p2, p3⟩ := ow2.drew.c4
      obtain ⟨z0, z1, z2, z3⟩ := ow1.drew.c4
      cases t with
      | false =>
        first | go_region_with (first
          | (go_at_call 36
             refine (D2.out _).mono ?_
             rintro e w6 ⟨rfl, b6⟩
             have be := (Below.refl wr.heap.size wr).drew.trans b6
             have o1e := ow1.bel be
             have o2e := ow2.bel be
             have hbe := hb.trans (be.mono hb.size)
             obtain ⟨cb0, cb1, cb2, cb3⟩ := o1e.c4
             obtain ⟨cd0, cd1, cd2, cd3⟩ := o2e.c4
             have f0 := o1e.frozen 0
             have f1 := o1e.frozen 1
             have f2 := o1e.frozen 2
             have f3 := o1e.frozen 3)) | fail
        all_goals go_wp2_with fail
        all_goals
          have o3 : Own ((((w6.setCell ⟨w.heap.size, 0, none⟩ (.int .u64 (a0 : Nat))).setCell ⟨w.heap.size, 1, none⟩ (.int .u64 (a1 : Nat))).setCell ⟨w.heap.size, 2, none⟩ (.int .u64 (a2 : Nat))).setCell ⟨w.heap.size, 3, none⟩ (.int .u64 (a3 : Nat))) w.heap.size 24 .u64 [a0, a1, a2, a3] := (((o1e.set 0 a0).set 1 a1).set 2 a2).set 3 a3
          refine bodyPost_ret (results_fr rfl _ rfl o3 rfl) rfl ⟨V, ?_, HLT.out, HNUM.out.2, (((hbe.setCell (p := ⟨w.heap.size, 0, none⟩) (Nat.le_refl _) _).setCell (p := ⟨w.heap.size, 1, none⟩) (Nat.le_refl _) _).setCell (p := ⟨w.heap.size, 2, none⟩) (Nat.le_refl _) _).setCell (p := ⟨w.heap.size, 3, none⟩) (Nat.le_refl _) _⟩
          rw [← HXS.out, ← HNUM.out.1]
          rfl
      | true =>
        first | go_region_with (first
          | (go_at_call 64
             refine (D3.out _).mono ?_
             rintro e w7 ⟨rfl, b7⟩
             have o1f := o1e.bel b7
             have o2f := o2e.bel b7
             have hbf := hbe.trans (b7.mono hbe.size)
             obtain ⟨cg0, cg1, cg2, cg3⟩ := o1f.c4
             obtain ⟨ch0, ch1, ch2, ch3⟩ := o2f.c4
             have g0 := o1f.frozen 0
             have g1 := o1f.frozen 1
             have g2 := o1f.frozen 2
             have g3 := o1f.frozen 3)
          | (go_at_call 36
             refine (D2.out _).mono ?_
             rintro e w6 ⟨rfl, b6⟩
             have be := (Below.refl wr.heap.size wr).drew.trans b6
             have o1e := ow1.bel be
             have o2e := ow2.bel be
             have hbe := hb.trans (be.mono hb.size)
             obtain ⟨cd0, cd1, cd2, cd3⟩ := o2e.c4)) | fail
        all_goals go_wp2_with fail
        all_goals
          have o3 : Own ((((w7.setCell ⟨w.heap.size, 0, none⟩ (.int .u64 (a0 : Nat))).setCell ⟨w.heap.size, 1, none⟩ (.int .u64 (a1 : Nat))).setCell ⟨w.heap.size, 2, none⟩ (.int .u64 (a2 : Nat))).setCell ⟨w.heap.size, 3, none⟩ (.int .u64 (a3 : Nat))) w.heap.size 24 .u64 [a0, a1, a2, a3] := (((o1f.set 0 a0).set 1 a1).set 2 a2).set 3 a3
          refine bodyPost_ret (results_fr rfl _ rfl o3 rfl) rfl ⟨V, ?_, HLT.out, HNUM.out.2, (((hbf.setCell (p := ⟨w.heap.size, 0, none⟩) (Nat.le_refl _) _).setCell (p := ⟨w.heap.size, 1, none⟩) (Nat.le_refl _) _).setCell (p := ⟨w.heap.size, 2, none⟩) (Nat.le_refl _) _).setCell (p := ⟨w.heap.size, 3, none⟩) (Nat.le_refl _) _⟩
          rw [← HXS.out, ← HNUM.out.1]
          rfl
end Go.Proofs.YtdilgmokiclfaaaDoor
