import Derived.Test.YtfkpcmjmibbmbaaNatB
namespace Go.Proofs.Ytfkpcmjmibbmbaa
open Go.RowKit
set_option linter.unusedVariables false

/-- chirographref01.Cut -/
theorem rcut_any (A : Option Addr) (n c na : Nat) (w : World) (hn : n ≤ c) (hc : c ≤ maxLen) (e : min n 16 = na) :
    Calls Try.prog 53 #[.slice A n c] w fun e w' => ∃ c', na ≤ c' ∧ c' ≤ maxLen ∧ e = .returned (.slice A na c') ∧ w = w' := by
  have hc0 := hc
  unfold maxLen at hc
  by_cases h : n ≤ 16
  · obtain rfl : n = na := by omega
    have h' : ¬ (16 : Int) < (n : Int) := by omega
    clear e
    go_enter Try.func53, Try.ntmps53
    go_wp2
    go_ret
    exact ⟨c, hn, hc0, rfl, rfl⟩
  · obtain rfl : 16 = na := by omega
    have h' : (16 : Int) < (n : Int) := by omega
    clear e
    go_enter Try.func53, Try.ntmps53
    go_wp2
    go_ret
    exact ⟨c, by omega, hc0, rfl, rfl⟩

/-- chirographref01.wide -/
theorem wide_any (A B : Option Addr) (n c m d L : Nat) (w : World) (hn : n ≤ 9223372036854775807) (hm : m ≤ 9223372036854775807) (e : max n m = L) :
    Calls Try.prog 54 #[.slice A n c, .slice B m d] w fun e w' => e = .returned (.int .i64 (L : Int)) ∧ w = w' := by
  by_cases h : m < n
  · obtain rfl : n = L := by omega
    clear e
    go_enter Try.func54, Try.ntmps54
    go_wp2
    go_ret
    exact ⟨rfl, rfl⟩
  · obtain rfl : m = L := by omega
    clear e
    go_enter Try.func54, Try.ntmps54
    go_wp2
    go_ret
    exact ⟨rfl, rfl⟩

theorem shr_mod (x r : Nat) : ((x : Int) / 2 ^ r).tmod 2 = ((x / 2 ^ r % 2 : Nat) : Int) := by
  have e : (x : Int) / 2 ^ r = ((x / 2 ^ r : Nat) : Int) := by simp
  rw [e, Int.tmod_eq_emod_of_nonneg (Int.natCast_nonneg _)]; rfl
theorem or_shl (a b r : Nat) (ha : a < 18446744073709551616) (hb : b * 2 ^ r < 18446744073709551616) :
    bits .or .u64 (a : Int) (IntKind.u64.wrap ((b : Int) * 2 ^ r)) = ((a ||| b * 2 ^ r : Nat) : Int) := by
  have e : (b : Int) * 2 ^ r = ((b * 2 ^ r : Nat) : Int) := by simp
  rw [e, IntWalk.u64_in _ (by omega), u64_or_nat _ _ ha hb]
/-- chirographref01.Bit -/
theorem bit_any (A : Option Addr) (n c : Nat) (xs : List Nat) (i : Int) (w : World) (h0 : 0 ≤ i) (hi : i ≤ 9223372036854775807) (hx : xs.length = n) (ox : Ok xs) (hs : Sl w .u64 A xs) :
    Calls Try.prog 44 #[.slice A n c, .int .i64 i] w fun e w' => e = .returned (.int .u64 (bitOf (val xs) i.toNat : Nat)) ∧ w = w' := by
  obtain ⟨k, rfl⟩ := Int.eq_ofNat_of_zero_le h0
  rw [Int.toNat_natCast]
  have hbit := Lib.hid (bit_limb ox k)
  by_cases hk : k / 64 < n
  · obtain ⟨b, off, rfl, hb, hcell⟩ := hs (by omega)
    have hcl := hcell (k / 64) (by omega)
    clear hcell
    have h3 : ((k : Int) / 64 ≥ (n : Int)) = False := by simp; omega
    have h4 : (k : Int) / 64 < (n : Int) := by omega
    go_enter Try.func44, Try.ntmps44
    go_wp2
    go_ret
    exact ⟨ret_congr (congrArg (Value.int .u64) ((shr_mod _ _).trans (by rw [hbit.out]))), rfl⟩
  · have e : bitOf (val xs) k = 0 := by rw [← hbit.out, nth_ge (by omega), Nat.zero_div, Nat.zero_mod]
    rw [e]; clear e hbit
    go_enter Try.func44, Try.ntmps44
    go_wp2
    go_ret
    exact ⟨rfl, rfl⟩
/-- chirographref01.set -/
theorem set_any (g n c : Nat) (zs : List Nat) (i : Int) (bt : Int) (w : World) (h0 : 0 ≤ i) (hi : i.toNat / 64 < n) (hn : n ≤ 1000) (hz : zs.length = n) (oz : Ok zs) (own : Own w g 22 .u64 zs)
    (hv : val zs < 2 ^ i.toNat) (hb0 : 0 ≤ bt) (hb1 : bt < 2) :
    Calls Try.prog 55 #[.slice (some ⟨g, 0, none⟩) n c, .int .i64 i, .int .u64 bt] w fun e w' => e = .returned (.tuple #[]) ∧
      w.setCell ⟨g, i.toNat / 64, none⟩ (.int .u64 (nth zs (i.toNat / 64) + bt.toNat * 2 ^ (i.toNat % 64) : Nat)) = w' := by
  obtain ⟨k, rfl⟩ := Int.eq_ofNat_of_zero_le h0
  obtain ⟨bit, rfl⟩ := Int.eq_ofNat_of_zero_le hb0
  have hb : bit < 2 := by omega
  rw [Int.toNat_natCast] at *
  rw [Int.toNat_natCast]
  have hcl := own.cell (i := k / 64) (by omega)
  have hfr := own.frozen (k / 64)
  obtain ⟨h1, h2, h3⟩ := set_bit oz (by omega) hv hb
  have h4 : (k : Int) / 64 < (n : Int) := by omega
  have H1 := Lib.hid h1
  clear h1 h3 hv own hz
  go_enter Try.func55, Try.ntmps55
  go_wp2
  have e := or_shl (nth zs (k / 64)) bit (k % 64) (oz.getD _) (by omega)
  rw [H1.out] at e
  rw [e]
  go_end0
  exact ⟨rfl, rfl⟩

/-- chirographref01.Same, of two rows that are the same. -/
theorem same_any (A B : Option Addr) (n c d : Nat) (xs : List Nat) (w : World) (hn : n ≤ 9223372036854775807) (hx : xs.length = n) (sx : Sl w .u64 A xs) (sy : Sl w .u64 B xs) :
    Calls Try.prog 22 #[.slice A n c, .slice B n d] w fun e w' => e = .returned (.bool true) ∧ Below w.heap.size w w' := by
  have Hx := Lib.hid hx
  have hnn : ((n : Int) != (n : Int)) = false := by simp
  clear hx
  go_enter Try.func22, Try.ntmps22
  go_wp2
  go_loopw [13] (fun i wr => ∃ k : Nat, k ≤ n ∧ i = .int .i64 (k : Int) ∧ Below w.heap.size w wr) (fun i _ => n - (intOf i).toNat)
  case atStart => exact ⟨0, Nat.zero_le _, rfl, Below.refl _ _⟩
  case round =>
    obtain ⟨k, hk, rfl, hb⟩ := hrel
    by_cases hlt : k < n
    · obtain ⟨b, off, rfl, hlb, hcb⟩ := (sx.bel hb) (by have := Hx.out; omega)
      obtain ⟨b', off', rfl, hlb', hcb'⟩ := (sy.bel hb) (by have := Hx.out; omega)
      have hc1 := hcb k (by have := Hx.out; omega)
      have hc2 := hcb' k (by have := Hx.out; omega)
      have hlt' : (k : Int) < (n : Int) := by omega
      have hne : (((nth xs k : Nat) : Int) != ((nth xs k : Nat) : Int)) = false := by simp
      clear hcb hcb' sx sy
      go_wp2
      go_quiet (fail)
      go_wp2
      exact ⟨⟨k + 1, by omega, rfl, below_drewN hb _⟩, by simp [intOf]; omega⟩
    · go_wp2
      go_ret
      exact ⟨rfl, hb⟩
theorem int_eq {k : IntKind} {a b : Int} (h : a = b) : Value.int k a = Value.int k b := by rw [h]

def RAddRel (A B L g : Nat) (w : World) (i cy : Value) (wr : World) : Prop :=
  ∃ (k c : Nat) (zs : List Nat), k ≤ 64 * L ∧ i = .int .i64 (k : Int) ∧ cy = .int .u64 (c : Int) ∧ c ≤ 1 ∧ zs.length = L ∧ Ok zs ∧ Own wr g 22 .u64 zs ∧ Below w.heap.size w wr ∧
    val zs < 2 ^ k ∧ val zs + 2 ^ k * c = A % 2 ^ k + B % 2 ^ k

theorem RAddRel.start (A B L : Nat) (w : World) : RAddRel A B L w.heap.size w (.int .i64 0) (.int .u64 0) (w.alloc (.cells (lim .u64 (List.replicate L 0)) 22)) :=
  ⟨0, 0, _, Nat.zero_le _, rfl, rfl, Nat.zero_le _, List.length_replicate, Ok.replicate L, Own.new _ _ _ _, (Below.refl _ _).alloc (Nat.le_refl _) _, by simp [val_replicate], by simp [val_replicate, Nat.mod_one]⟩

/-- A bit put: what becomes of the row. -/
theorem put_bit {zs : List Nat} {k L b : Nat} {v : Int} (hk : k < 64 * L) (hz : zs.length = L) (oz : Ok zs) (hv : val zs < 2 ^ k) (hb : b < 2) (e : v = b) :
    (zs.set (k / 64) (nth zs (k / 64) + v.toNat * 2 ^ (k % 64))).length = L ∧ Ok (zs.set (k / 64) (nth zs (k / 64) + v.toNat * 2 ^ (k % 64))) ∧
      val (zs.set (k / 64) (nth zs (k / 64) + v.toNat * 2 ^ (k % 64))) = val zs + b * 2 ^ k := by
  obtain ⟨h1, h2, h3⟩ := set_bit oz (i := k) (b := b) (by omega) hv hb
  rw [e, Int.toNat_natCast]
  exact ⟨by simpa using hz, oz.set h2 _, h3⟩

theorem RAddRel.step {A B L g k c : Nat} {zs : List Nat} {v cv : Int} {w wr wr' : World} (hk : k < 64 * L) (hc : c ≤ 1) (hz : zs.length = L) (oz : Ok zs) (own : Own wr g 22 .u64 zs)
    (hb : Below w.heap.size w wr) (hg : w.heap.size ≤ g) (hv : val zs < 2 ^ k) (h : val zs + 2 ^ k * c = A % 2 ^ k + B % 2 ^ k)
    (ew : wr.setCell ⟨g, k / 64, none⟩ (.int .u64 (nth zs (k / 64) + v.toNat * 2 ^ (k % 64) : Nat)) = wr')
    (e1 : v = ((bitOf A k + bitOf B k + c) % 2 : Nat)) (e2 : cv = ((bitOf A k + bitOf B k + c) / 2 : Nat)) :
    RAddRel A B L g w (.int .i64 ((k : Int) + 1)) (.int .u64 cv) wr' := by
  have hA := bitOf_lt A k
  have hB := bitOf_lt B k
  obtain ⟨h1, h2, h3⟩ := put_bit hk hz oz hv (Nat.mod_lt _ (by decide)) e1
  subst ew
  refine ⟨k + 1, _, _, by omega, rfl, int_eq e2, by omega, h1, h2, own.set _ _, hb.setCell hg _, ?_, ?_⟩
  · rw [h3, Nat.pow_succ]
    have : (bitOf A k + bitOf B k + c) % 2 * 2 ^ k ≤ 1 * 2 ^ k := Nat.mul_le_mul_right _ (by omega)
    omega
  · rw [h3, mod_pow_succ A, mod_pow_succ B, Nat.pow_succ]
    have e := Nat.mod_add_div (bitOf A k + bitOf B k + c) 2
    have e3 : 2 ^ k * ((bitOf A k + bitOf B k + c) % 2 + 2 * ((bitOf A k + bitOf B k + c) / 2)) = 2 ^ k * (bitOf A k + bitOf B k + c) := by rw [e]
    rw [Nat.mul_add, Nat.mul_add, Nat.mul_add] at e3
    rw [Nat.mul_assoc, Nat.mul_comm ((bitOf A k + bitOf B k + c) % 2)]
    omega

theorem RAddRel.done {A B L g c : Nat} {zs : List Nat} {w wr : World} (hz : zs.length = L) (hA : A < pw L) (hB : B < pw L) (oz : Ok zs) (own : Own wr g 22 .u64 zs) (hc : c ≤ 1)
    (hb : Below w.heap.size w wr) (h : val zs + 2 ^ (64 * L) * c = A % 2 ^ (64 * L) + B % 2 ^ (64 * L)) :
    AddPost L (A + B) w (.returned (.tuple #[.slice (some ⟨g, 0, none⟩) L L, .int .u64 (c : Int)])) wr := by
  rw [← pw_two, Nat.mod_eq_of_lt hA, Nat.mod_eq_of_lt hB] at h
  exact ⟨g, zs, c, rfl, own, hz, oz, hc, h, hb⟩

set_option maxHeartbeats 400000 in
/-- chirographref01.Add -/
theorem radd_any (A B : Option Addr) (n c m d na ma L : Nat) (xs ys : List Nat) (w : World) (hn : n ≤ c) (hc : c ≤ maxLen) (hm : m ≤ d) (hd : d ≤ maxLen)
    (ea : min n 16 = na) (eb : min m 16 = ma) (eL : max na ma = L) (hx : xs.length = na) (hy : ys.length = ma) (ox : Ok xs) (oy : Ok ys) (sx : Sl w .u64 A xs) (sy : Sl w .u64 B ys) :
    Calls Try.prog 50 #[.slice A n c, .slice B m d] w (AddPost L (val xs + val ys) w) := by
  have hna : na ≤ 16 := by omega
  have hma : ma ≤ 16 := by omega
  have hL : L ≤ 16 := by omega
  have hmk := run_mk L (by omega)
  have H1 := Lib.hid (rcut_any A n c na w hn hc ea)
  have H2 := Lib.hid (rcut_any B m d ma w hm hd eb)
  have H3 := Lib.hid (fun c d => wide_any A B na c ma d L w (by omega) (by omega) eL)
  have Hx := Lib.hid hx
  have Hy := Lib.hid hy
  have Hlx := Lib.hid (Nat.lt_of_lt_of_le (val_lt ox) (pw_le (show xs.length ≤ L by omega)))
  have Hly := Lib.hid (Nat.lt_of_lt_of_le (val_lt oy) (pw_le (show ys.length ≤ L by omega)))
  clear hx hy ea eb eL
  go_enter Try.func50, Try.ntmps50
  go_wp2_with fail
  refine (H1.out).mono ?_
  rintro e w' ⟨c', hc1, hc2, rfl, rfl⟩
  go_wp2_with fail
  refine (H2.out).mono ?_
  rintro e w' ⟨d', hd1, hd2, rfl, rfl⟩
  go_wp2_with fail
  refine (H3.out _ _).mono ?_
  rintro e w' ⟨rfl, rfl⟩
  go_wp2_with fail
  clear hmk
  go_loopw [8, 7] (RAddRel (val xs) (val ys) L w.heap.size w) (fun i _ _ => 64 * L - (intOf i).toNat)
  case atStart => exact RAddRel.start _ _ L w
  case round =>
    obtain ⟨k, cy, zs, hk, rfl, rfl, hcy, hz, oz, own, hb, hv, hval⟩ := hrel
    have Hv := Lib.hid hval
    have Hz := Lib.hid hz
    have Hown := Lib.hid own
    have Hvl := Lib.hid hv
    clear hval own hz hv
    have b1 := bitOf_lt (val xs) k
    have b2 := bitOf_lt (val ys) k
    by_cases hlt : k < 64 * L
    · go_wp2_with fail
      refine (bit_any A na _ xs k _ (by omega) (by omega) Hx.out ox (sx.bel hb)).mono ?_
      rintro e w' ⟨rfl, rfl⟩
      go_wp2_with fail
      refine (bit_any B ma _ ys k _ (by omega) (by omega) Hy.out oy (sy.bel hb)).mono ?_
      rintro e w' ⟨rfl, rfl⟩
      go_wp2_with fail
      refine (set_any _ L L zs k _ _ (by omega) (by simp; omega) (by omega) Hz.out oz Hown.out (by simpa using Hvl.out) (by omega) (by omega)).mono ?_
      rintro e w1 ⟨rfl, hw1⟩
      have Hw := Lib.hid hw1
      clear hw1
      go_wp2_with fail
      exact ⟨RAddRel.step hlt hcy Hz.out oz Hown.out hb (Nat.le_refl _) Hvl.out Hv.out Hw.out (by omega) (by omega), by simp [intOf]; omega⟩
    · obtain rfl : k = 64 * L := by omega
      go_wp2
      go_ret2
      exact RAddRel.done Hz.out Hlx.out Hly.out oz Hown.out hcy hb Hv.out
end Go.Proofs.Ytfkpcmjmibbmbaa
