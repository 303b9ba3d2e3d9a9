import Derived.Test.YtfkpcmjmibbmbaaNatG
import Derived.Test.YtfkpcmjmibbmbaaLen64
namespace Go.Proofs.Ytfkpcmjmibbmbaa
open Go.RowKit
set_option linter.unusedVariables false

theorem bitLen_half (x : Nat) (h : x ≠ 0) : bitLen x = 1 + bitLen (x / 2) := by
  unfold bitLen
  rw [if_neg h, Nat.log2_def]
  by_cases h2 : 2 ≤ x
  · rw [if_pos h2, if_neg (by omega)]; omega
  · rw [if_neg h2, if_pos (by omega)]
theorem bitLenAux_eq : ∀ (f x : Nat), x < 2 ^ f → Lib.bitLenAux f x = bitLen x := by
  intro f
  induction f with
  | zero => intro x hx; have : x = 0 := by omega
            subst this; rfl
  | succ f ih =>
    intro x hx
    unfold Lib.bitLenAux
    by_cases h : x = 0
    · subst h; rfl
    · rw [if_neg h, bitLen_half x h, ih _ (by rw [Nat.pow_succ] at hx; omega)]
theorem len64_at (x : Nat) (hx : x < 18446744073709551616) (w : World) :
    Calls Try.prog 51 #[.int .u64 (x : Int)] w fun e w' => e = .returned (.int .i64 (bitLen x : Nat)) ∧ w = w' :=
  (len64_lib x w (by omega) (by omega)).mono fun e w' ⟨h1, h2⟩ => ⟨by rw [h1, Int.toNat_natCast, Lib.bitLen, bitLenAux_eq 64 x hx], h2.symm⟩

set_option maxHeartbeats 400000 in
theorem cmp_lt (A B : Option Addr) (n c m d na ma : Nat) (xs ys : List Nat) (w : World) (hn : n ≤ c) (hc : c ≤ maxLen) (hm : m ≤ d) (hd : d ≤ maxLen)
    (ea : min n 16 = na) (eb : min m 16 = ma) (hna : na ≤ 16) (hma : ma ≤ 16) (hx : xs.length = na) (hy : ys.length = ma) (ox : Ok xs) (oy : Ok ys) (sx : Sl w .u64 A xs) (sy : Sl w .u64 B ys) (hle : na < ma) :
    Calls Try.prog 45 #[.slice A n c, .slice B m d] w fun e w' => e = .returned (.int .i64 (cmpN (val xs) (val ys))) ∧ w = w' := by
  have H1 := Lib.hid (cut_at A n c na w hn hc ea)
  have H2 := Lib.hid (cut_at B m d ma w hm hd eb)
  have Hx := Lib.hid hx
  have Hy := Lib.hid hy
  have Htop := Lib.hid ((val_top ox (show xs.length ≤ ma by omega)).trans (val_top oy (show ys.length ≤ ma by omega)).symm)
  clear hx hy ea eb
  go_enter Try.func45, Try.ntmps45
  go_wp2_with fail
  refine (H1.out).mono ?_
  rintro e w' ⟨rfl, rfl⟩
  go_wp2_with fail
  refine (H2.out).mono ?_
  rintro e w' ⟨rfl, rfl⟩
  go_wp2_with fail
  go_loop [5] (fun i => ∃ k : Nat, k ≤ ma ∧ i = .int .i64 ((k : Int) - 1) ∧ Hid (val xs / pw k = val ys / pw k)) (fun i => (intOf i + 1).toNat)
  case atStart => exact ⟨ma, Nat.le_refl _, int_eq (by omega), Htop⟩
  case round =>
    obtain ⟨k, hk, hi, He⟩ := hrel
    rcases k with _ | j
    · subst hi
      go_wp2
      go_ret
      exact ⟨ret_congr (int_eq (cmpN_eq (by have := He.out; rwa [pw_zero, Nat.div_one, Nat.div_one] at this)).symm), rfl⟩
    · obtain rfl : _ = Value.int .i64 (j : Int) := hi.trans (int_eq (by omega))
      clear hi
      go_wp2_with fail
      refine (limb_any A na na xs j _ (by omega) Hx.out sx).mono ?_
      rintro e w' ⟨rfl, rfl⟩
      go_wp2_with fail
      refine (limb_any B ma ma ys j _ (by omega) Hy.out sy).mono ?_
      rintro e w' ⟨rfl, rfl⟩
      rw [Int.toNat_natCast]
      rcases Nat.lt_trichotomy (nth xs j) (nth ys j) with h | h | h
      · go_wp2_with fail
        go_ret
        exact ⟨ret_congr (int_eq (cmpN_lt (val_lt_of ox oy He.out h)).symm), rfl⟩
      · have H := Lib.hid h
        have h1 : ¬ ((nth xs j : Nat) : Int) < (nth ys j : Nat) := by omega
        have h2 : ¬ ((nth ys j : Nat) : Int) < (nth xs j : Nat) := by omega
        clear h
        go_wp2_with fail
        exact ⟨⟨j, by omega, rfl, val_eq_of ox oy He.out H.out⟩, by simp [intOf]⟩
      · have h1 : ¬ ((nth xs j : Nat) : Int) < (nth ys j : Nat) := by omega
        go_wp2_with fail
        go_ret
        exact ⟨ret_congr (int_eq (cmpN_gt (val_lt_of oy ox He.out.symm h)).symm), rfl⟩

set_option maxHeartbeats 400000 in
theorem cmp_ge (A B : Option Addr) (n c m d na ma : Nat) (xs ys : List Nat) (w : World) (hn : n ≤ c) (hc : c ≤ maxLen) (hm : m ≤ d) (hd : d ≤ maxLen)
    (ea : min n 16 = na) (eb : min m 16 = ma) (hna : na ≤ 16) (hma : ma ≤ 16) (hx : xs.length = na) (hy : ys.length = ma) (ox : Ok xs) (oy : Ok ys) (sx : Sl w .u64 A xs) (sy : Sl w .u64 B ys) (hle : ma ≤ na) :
    Calls Try.prog 45 #[.slice A n c, .slice B m d] w fun e w' => e = .returned (.int .i64 (cmpN (val xs) (val ys))) ∧ w = w' := by
  have H1 := Lib.hid (cut_at A n c na w hn hc ea)
  have H2 := Lib.hid (cut_at B m d ma w hm hd eb)
  have Hx := Lib.hid hx
  have Hy := Lib.hid hy
  have Htop := Lib.hid ((val_top ox (show xs.length ≤ na by omega)).trans (val_top oy (show ys.length ≤ na by omega)).symm)
  clear hx hy ea eb
  go_enter Try.func45, Try.ntmps45
  go_wp2_with fail
  refine (H1.out).mono ?_
  rintro e w' ⟨rfl, rfl⟩
  go_wp2_with fail
  refine (H2.out).mono ?_
  rintro e w' ⟨rfl, rfl⟩
  go_wp2_with fail
  go_loop [5] (fun i => ∃ k : Nat, k ≤ na ∧ i = .int .i64 ((k : Int) - 1) ∧ Hid (val xs / pw k = val ys / pw k)) (fun i => (intOf i + 1).toNat)
  case atStart => exact ⟨na, Nat.le_refl _, int_eq (by omega), Htop⟩
  case round =>
    obtain ⟨k, hk, hi, He⟩ := hrel
    rcases k with _ | j
    · subst hi
      go_wp2
      go_ret
      exact ⟨ret_congr (int_eq (cmpN_eq (by have := He.out; rwa [pw_zero, Nat.div_one, Nat.div_one] at this)).symm), rfl⟩
    · obtain rfl : _ = Value.int .i64 (j : Int) := hi.trans (int_eq (by omega))
      clear hi
      go_wp2_with fail
      refine (limb_any A na na xs j _ (by omega) Hx.out sx).mono ?_
      rintro e w' ⟨rfl, rfl⟩
      go_wp2_with fail
      refine (limb_any B ma ma ys j _ (by omega) Hy.out sy).mono ?_
      rintro e w' ⟨rfl, rfl⟩
      rw [Int.toNat_natCast]
      rcases Nat.lt_trichotomy (nth xs j) (nth ys j) with h | h | h
      · go_wp2_with fail
        go_ret
        exact ⟨ret_congr (int_eq (cmpN_lt (val_lt_of ox oy He.out h)).symm), rfl⟩
      · have H := Lib.hid h
        have h1 : ¬ ((nth xs j : Nat) : Int) < (nth ys j : Nat) := by omega
        have h2 : ¬ ((nth ys j : Nat) : Int) < (nth xs j : Nat) := by omega
        clear h
        go_wp2_with fail
        exact ⟨⟨j, by omega, rfl, val_eq_of ox oy He.out H.out⟩, by simp [intOf]⟩
      · have h1 : ¬ ((nth xs j : Nat) : Int) < (nth ys j : Nat) := by omega
        go_wp2_with fail
        go_ret
        exact ⟨ret_congr (int_eq (cmpN_gt (val_lt_of oy ox He.out.symm h)).symm), rfl⟩

/-- nat.Cmp -/
theorem cmp_any (A B : Option Addr) (n c m d : Nat) (xs ys : List Nat) (w : World) (hn : n ≤ c) (hc : c ≤ maxLen) (hm : m ≤ d) (hd : d ≤ maxLen)
    (hx : xs.length = min n 16) (hy : ys.length = min m 16) (ox : Ok xs) (oy : Ok ys) (sx : Sl w .u64 A xs) (sy : Sl w .u64 B ys) :
    Calls Try.prog 45 #[.slice A n c, .slice B m d] w fun e w' => e = .returned (.int .i64 (cmpN (val xs) (val ys))) ∧ w = w' := by
  have h1 := Nat.min_le_right n 16
  have h2 := Nat.min_le_right m 16
  by_cases h : min n 16 < min m 16
  · exact cmp_lt A B n c m d _ _ xs ys w hn hc hm hd rfl rfl h1 h2 hx hy ox oy sx sy h
  · exact cmp_ge A B n c m d _ _ xs ys w hn hc hm hd rfl rfl h1 h2 hx hy ox oy sx sy (Nat.le_of_not_lt h)

theorem nth_top {xs : List Nat} (ox : Ok xs) {j : Nat} (h : val xs / pw (j + 1) = 0) : nth xs j = val xs / pw j := by
  rw [getD_val ox]
  rw [pw_succ, Nat.mul_comm, ← Nat.div_div_eq_div_mul] at h
  rw [Nat.mod_eq_of_lt]
  exact (Nat.div_eq_zero_iff_lt (by decide)).1 h
theorem bits_top {xs : List Nat} (ox : Ok xs) {j : Nat} (h : val xs / pw (j + 1) = 0) (h0 : nth xs j ≠ 0) : bitLen (val xs) = 64 * j + bitLen (nth xs j) := by
  have e := nth_top ox h
  have h1 := bitLen_lt (nth xs j)
  have h2 := bitLen_le h0
  have h3 := bitLen_pos h0
  generalize bitLen (nth xs j) = b at *
  obtain ⟨a, rfl⟩ : ∃ a, b = a + 1 := ⟨b - 1, by omega⟩
  rw [Nat.add_sub_cancel] at h2
  rw [← Nat.add_assoc]
  rw [e] at h1 h2
  refine bitLen_eq ?_ ?_
  · have := (Nat.div_lt_iff_lt_mul (pw_pos j)).1 h1
    rw [Nat.add_assoc, Nat.pow_add, ← pw_two, Nat.mul_comm]; exact this
  · have := (Nat.le_div_iff_mul_le (pw_pos j)).1 h2
    rw [Nat.pow_add, ← pw_two, Nat.mul_comm]; exact this
theorem bits_skip {xs : List Nat} (ox : Ok xs) {j : Nat} (h : val xs / pw (j + 1) = 0) (h0 : nth xs j = 0) : val xs / pw j = 0 := by rw [← nth_top ox h]; exact h0

set_option maxHeartbeats 400000 in
/-- nat.Bits -/
theorem bits_any (A : Option Addr) (n c na : Nat) (xs : List Nat) (w : World) (hn : n ≤ c) (hc : c ≤ maxLen) (ea : min n 16 = na) (hx : xs.length = na) (ox : Ok xs) (sx : Sl w .u64 A xs) :
    Calls Try.prog 35 #[.slice A n c] w fun e w' => e = .returned (.int .i64 (bitLen (val xs) : Nat)) ∧ w = w' := by
  have hna : na ≤ 16 := by omega
  have H1 := Lib.hid (cut_at A n c na w hn hc ea)
  have Hx := Lib.hid hx
  have Htop := Lib.hid (val_top ox (show xs.length ≤ na by omega))
  clear hx ea
  go_enter Try.func35, Try.ntmps35
  go_wp2_with fail
  refine (H1.out).mono ?_
  rintro e w' ⟨rfl, rfl⟩
  go_wp2_with fail
  go_loop [3] (fun i => ∃ k : Nat, k ≤ na ∧ i = .int .i64 ((k : Int) - 1) ∧ Hid (val xs / pw k = 0)) (fun i => (intOf i + 1).toNat)
  case atStart => exact ⟨na, Nat.le_refl _, rfl, Htop⟩
  case round =>
    obtain ⟨k, hk, hi, He⟩ := hrel
    rcases k with _ | j
    · subst hi
      have h0 := He.out
      rw [pw_zero, Nat.div_one] at h0
      have H0 := Lib.hid h0
      clear h0
      go_wp2
      go_ret
      exact ⟨ret_congr (int_eq (by rw [H0.out]; rfl)), rfl⟩
    · obtain rfl : _ = Value.int .i64 (j : Int) := hi.trans (int_eq (by omega))
      clear hi
      obtain ⟨ba, off, rfl, hlb, hcb⟩ := sx (by have := Hx.out; omega)
      have hc1 := hcb j (by have := Hx.out; omega)
      have bx := ox.getD j
      clear hcb
      by_cases h0 : nth xs j = 0
      · have ht : (((nth xs j : Nat) : Int) != 0) = false := by rw [h0]; rfl
        have H0 := Lib.hid h0
        clear h0
        go_wp2_with fail
        exact ⟨⟨j, by omega, rfl, bits_skip ox He.out H0.out⟩, by simp [intOf]⟩
      · have ht : (((nth xs j : Nat) : Int) != 0) = true := by simpa using h0
        have H0 := Lib.hid h0
        have hbl : bitLen (nth xs j) ≤ 64 := by
          rcases Nat.lt_or_ge 64 (bitLen (nth xs j)) with h | h
          · have h1 := bitLen_le h0
            have h2 : (2 : Nat) ^ 64 ≤ 2 ^ (bitLen (nth xs j) - 1) := Nat.pow_le_pow_right (by decide) (by omega)
            omega
          · exact h
        clear h0
        go_wp2_with fail
        refine (len64_at (nth xs j) bx _).mono ?_
        rintro e w' ⟨rfl, rfl⟩
        go_wp2_with fail
        go_ret
        exact ⟨ret_congr (int_eq (by rw [bits_top ox He.out H0.out]; rfl)), rfl⟩

set_option maxHeartbeats 400000 in
/-- chirographref01.Bits -/
theorem rbits_any (A : Option Addr) (n c na : Nat) (xs : List Nat) (w : World) (hn : n ≤ c) (hc : c ≤ maxLen) (ea : min n 16 = na) (hx : xs.length = na) (ox : Ok xs) (sx : Sl w .u64 A xs) :
    Calls Try.prog 43 #[.slice A n c] w fun e w' => e = .returned (.int .i64 (bitLen (val xs) : Nat)) ∧ w = w' := by
  have hna : na ≤ 16 := by omega
  have H1 := Lib.hid (rcut_any A n c na w hn hc ea)
  have Hx := Lib.hid hx
  have htop : val xs / 2 ^ (64 * na) = 0 := by rw [← pw_two]; exact val_top ox (show xs.length ≤ na by omega)
  have Htop := Lib.hid htop
  clear hx ea htop
  go_enter Try.func43, Try.ntmps43
  go_wp2_with fail
  refine (H1.out).mono ?_
  rintro e w' ⟨c', hc1, hc2, rfl, rfl⟩
  go_wp2_with fail
  go_loop [3] (fun i => ∃ k : Nat, k ≤ 64 * na ∧ i = .int .i64 (k : Int) ∧ Hid (val xs / 2 ^ k = 0)) (fun i => (intOf i).toNat)
  case atStart => exact ⟨64 * na, Nat.le_refl _, int_eq (by omega), Htop⟩
  case round =>
    obtain ⟨k, hk, rfl, He⟩ := hrel
    rcases k with _ | j
    · have h0 := He.out
      rw [Nat.pow_zero, Nat.div_one] at h0
      have H0 := Lib.hid h0
      clear h0
      go_wp2
      go_ret
      exact ⟨ret_congr (int_eq (by rw [H0.out]; rfl)), rfl⟩
    · have hj0 : (0 : Int) < ((j + 1 : Nat) : Int) := by omega
      go_wp2_with fail
      refine (bit_any A na _ xs _ _ (by omega) (by omega) Hx.out ox sx).mono ?_
      rintro e w' ⟨rfl, rfl⟩
      rw [Int.toNat_natCast]
      have hd := div_pow_succ (val xs) j
      rw [He.out] at hd
      have hbl := bitOf_lt (val xs) j
      by_cases h1 : bitOf (val xs) j = 1
      · have H1' := Lib.hid h1
        have Hd := Lib.hid hd
        have ht : (((bitOf (val xs) j : Nat) : Int) == 1) = true := by rw [h1]; rfl
        clear h1 hd hbl
        go_wp2_with fail
        go_ret
        refine ⟨ret_congr (int_eq ?_), rfl⟩
        have hd := Hd.out
        have h1 := H1'.out
        have hz := He.out
        have hp : 0 < 2 ^ j := Nat.pow_pos (by decide)
        rw [bitLen_eq (k := j)]
        · rfl
        · exact (Nat.div_eq_zero_iff_lt (Nat.pow_pos (by decide))).1 hz
        · have := (Nat.le_div_iff_mul_le (x := 1) (y := val xs) hp).1 (by omega)
          omega
      · have h0 : bitOf (val xs) j = 0 := by omega
        have ht : (((bitOf (val xs) j : Nat) : Int) == 1) = false := by rw [h0]; rfl
        have H0 := Lib.hid (show val xs / 2 ^ j = 0 by omega)
        clear h1 h0 hd hbl
        go_wp2_with fail
        exact ⟨⟨j, by omega, rfl, H0⟩, by simp [intOf]⟩
end Go.Proofs.Ytfkpcmjmibbmbaa
