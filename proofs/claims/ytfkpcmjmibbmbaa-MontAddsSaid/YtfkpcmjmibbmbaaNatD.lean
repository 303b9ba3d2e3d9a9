import Derived.Test.YtfkpcmjmibbmbaaNatC
namespace Go.Proofs.Ytfkpcmjmibbmbaa
open Go.RowKit
set_option linter.unusedVariables false

def SubPost (L X Y : Nat) (w : World) (e : Ending) (w' : World) : Prop :=
  ∃ (g : Nat) (zs : List Nat) (cy : Nat), e = .returned (.tuple #[.slice (some ⟨g, 0, none⟩) L L, .int .u64 (cy : Int)]) ∧ Own w' g 22 .u64 zs ∧ zs.length = L ∧ Ok zs ∧ cy ≤ 1 ∧
    val zs + Y = X + pw L * cy ∧ Below w.heap.size w w'

def subLo (x y c : Nat) : Nat := (x + 18446744073709551616 - y - c) % 18446744073709551616
def subHi (x y c : Nat) : Nat := if x < y + c then 1 else 0
theorem subLo_lt (x y c : Nat) : subLo x y c < 18446744073709551616 := Nat.mod_lt _ (by decide)
theorem subHi_le (x y c : Nat) : subHi x y c ≤ 1 := by unfold subHi; split <;> omega
/-- math/bits.Sub64: the model's entry. -/
theorem sub64_at (x y c : Nat) (hc : c ≤ 1) (w : World) :
    (callFunc 37 #[.int .u64 (x : Int), .int .u64 (y : Int), .int .u64 (c : Int)]).run Try.prog w =
      .ok (.value (.tuple #[.int .u64 (subLo x y c : Nat), .int .u64 (subHi x y c : Nat)])) w := by
  rw [run_callFunc_extern Try.func37 (by kernel_rfl) (by kernel_rfl) (by kernel_rfl) (e := sub64Entry) (by kernel_rfl), run_sub64 x y c hc]
  rfl

def SubRel (xs ys : List Nat) (L g : Nat) (w : World) (i cy : Value) (wr : World) : Prop :=
  ∃ (k c : Nat) (zs : List Nat), k ≤ L ∧ i = .int .i64 (k : Int) ∧ cy = .int .u64 (c : Int) ∧ c ≤ 1 ∧ zs.length = L ∧ Ok zs ∧ Own wr g 22 .u64 zs ∧ Below w.heap.size w wr ∧
    val (zs.take k) + val (ys.take k) = val (xs.take k) + pw k * c

theorem SubRel.start (xs ys : List Nat) (L : Nat) (w : World) : SubRel xs ys L w.heap.size w (.int .i64 0) (.int .u64 0) (w.alloc (.cells (lim .u64 (List.replicate L 0)) 22)) :=
  ⟨0, 0, _, Nat.zero_le _, rfl, rfl, Nat.zero_le _, List.length_replicate, Ok.replicate L, Own.new _ _ _ _, (Below.refl _ _).alloc (Nat.le_refl _) _, by simp [val, pw]⟩

theorem SubRel.step {xs ys zs : List Nat} {L g k c : Nat} {w wr : World} (ox : Ok xs) (oy : Ok ys) (hk : k < L) (hc : c ≤ 1) (hz : zs.length = L) (oz : Ok zs) (own : Own wr g 22 .u64 zs)
    (hb : Below w.heap.size w wr) (hg : w.heap.size ≤ g) (h : val (zs.take k) + val (ys.take k) = val (xs.take k) + pw k * c) :
    SubRel xs ys L g w (.int .i64 ((k : Int) + 1)) (.int .u64 (subHi (nth xs k) (nth ys k) c : Nat)) (wr.setCell ⟨g, k, none⟩ (.int .u64 (subLo (nth xs k) (nth ys k) c : Nat))) := by
  refine ⟨k + 1, _, zs.set k (subLo (nth xs k) (nth ys k) c), by omega, rfl, rfl, subHi_le _ _ _, by simpa using hz, oz.set (subLo_lt _ _ _) k, own.set k _, hb.setCell hg _, ?_⟩
  rw [val_set_take (by omega), val_take_succ xs, val_take_succ ys, pw_succ]
  exact sub_step _ _ _ _ _ _ _ (ox.getD k) (oy.getD k) hc h

theorem SubRel.done {xs ys zs : List Nat} {L g c : Nat} {w wr : World} (hz : zs.length = L) (hx : xs.length ≤ L) (hy : ys.length ≤ L)  (oz : Ok zs) (own : Own wr g 22 .u64 zs) (hc : c ≤ 1)
    (hb : Below w.heap.size w wr) (h : val (zs.take L) + val (ys.take L) = val (xs.take L) + pw L * c) :
    SubPost L (val xs) (val ys) w (.returned (.tuple #[.slice (some ⟨g, 0, none⟩) L L, .int .u64 (c : Int)])) wr := by
  rw [val_take_all _ (by omega), val_take_all _ hy, val_take_all _ hx] at h
  exact ⟨g, zs, c, rfl, own, hz, oz, hc, h, hb⟩

def RSubRel (A B L g : Nat) (w : World) (i cy : Value) (wr : World) : Prop :=
  ∃ (k c : Nat) (zs : List Nat), k ≤ 64 * L ∧ i = .int .i64 (k : Int) ∧ cy = .int .u64 (c : Int) ∧ c ≤ 1 ∧ zs.length = L ∧ Ok zs ∧ Own wr g 22 .u64 zs ∧ Below w.heap.size w wr ∧
    val zs < 2 ^ k ∧ val zs + B % 2 ^ k = A % 2 ^ k + 2 ^ k * c

theorem RSubRel.start (A B L : Nat) (w : World) : RSubRel A B L w.heap.size w (.int .i64 0) (.int .u64 0) (w.alloc (.cells (lim .u64 (List.replicate L 0)) 22)) :=
  ⟨0, 0, _, Nat.zero_le _, rfl, rfl, Nat.zero_le _, List.length_replicate, Ok.replicate L, Own.new _ _ _ _, (Below.refl _ _).alloc (Nat.le_refl _) _, by simp [val_replicate], by simp [val_replicate, Nat.mod_one]⟩

theorem RSubRel.step {A B L g k c : Nat} {zs : List Nat} {v cv : Int} {w wr wr' : World} (hk : k < 64 * L) (hc : c ≤ 1) (hz : zs.length = L) (oz : Ok zs) (own : Own wr g 22 .u64 zs)
    (hb : Below w.heap.size w wr) (hg : w.heap.size ≤ g) (hv : val zs < 2 ^ k) (h : val zs + B % 2 ^ k = A % 2 ^ k + 2 ^ k * c)
    (ew : wr.setCell ⟨g, k / 64, none⟩ (.int .u64 (nth zs (k / 64) + v.toNat * 2 ^ (k % 64) : Nat)) = wr')
    (e1 : v = ((2 + bitOf A k - bitOf B k - c) % 2 : Nat)) (e2 : cv = (1 - (2 + bitOf A k - bitOf B k - c) / 2 : Nat)) :
    RSubRel A B L g w (.int .i64 ((k : Int) + 1)) (.int .u64 cv) wr' := by
  have hA := bitOf_lt A k
  have hB := bitOf_lt B k
  obtain ⟨h1, h2, h3⟩ := put_bit hk hz oz hv (Nat.mod_lt _ (by decide)) e1
  subst ew
  refine ⟨k + 1, _, _, by omega, rfl, int_eq e2, by omega, h1, h2, own.set _ _, hb.setCell hg _, ?_, ?_⟩
  · rw [h3, Nat.pow_succ]
    have : (2 + bitOf A k - bitOf B k - c) % 2 * 2 ^ k ≤ 1 * 2 ^ k := Nat.mul_le_mul_right _ (by omega)
    omega
  · rw [h3, mod_pow_succ A, mod_pow_succ B, Nat.pow_succ]
    have e : (2 + bitOf A k - bitOf B k - c) % 2 + bitOf B k + c = bitOf A k + 2 * (1 - (2 + bitOf A k - bitOf B k - c) / 2) := by omega
    have e3 : 2 ^ k * ((2 + bitOf A k - bitOf B k - c) % 2 + bitOf B k + c) = 2 ^ k * (bitOf A k + 2 * (1 - (2 + bitOf A k - bitOf B k - c) / 2)) := by rw [e]
    rw [Nat.mul_add, Nat.mul_add, Nat.mul_add] at e3
    rw [Nat.mul_assoc, Nat.mul_comm ((2 + bitOf A k - bitOf B k - c) % 2)]
    omega

theorem RSubRel.done {A B L g c : Nat} {zs : List Nat} {w wr : World} (hz : zs.length = L) (hA : A < pw L) (hB : B < pw L) (oz : Ok zs) (own : Own wr g 22 .u64 zs) (hc : c ≤ 1)
    (hb : Below w.heap.size w wr) (h : val zs + B % 2 ^ (64 * L) = A % 2 ^ (64 * L) + 2 ^ (64 * L) * c) :
    SubPost L A B w (.returned (.tuple #[.slice (some ⟨g, 0, none⟩) L L, .int .u64 (c : Int)])) wr := by
  rw [← pw_two, Nat.mod_eq_of_lt hB, Nat.mod_eq_of_lt hA] at h
  exact ⟨g, zs, c, rfl, own, hz, oz, hc, h, hb⟩

set_option maxHeartbeats 400000 in
/-- chirographref01.Sub -/
theorem rsub_any (A B : Option Addr) (n c m d na ma L : Nat) (xs ys : List Nat) (w : World) (hn : n ≤ c) (hc : c ≤ maxLen) (hm : m ≤ d) (hd : d ≤ maxLen)
    (ea : min n 16 = na) (eb : min m 16 = ma) (eL : max na ma = L) (hx : xs.length = na) (hy : ys.length = ma) (ox : Ok xs) (oy : Ok ys) (sx : Sl w .u64 A xs) (sy : Sl w .u64 B ys) :
    Calls Try.prog 49 #[.slice A n c, .slice B m d] w (SubPost L (val xs) (val ys) w) := by
  have hna : na ≤ 16 := by omega
  have hma : ma ≤ 16 := by omega
  have hL : L ≤ 16 := by omega
  have hmk := run_mk L (by omega)
  have H1 := Lib.hid (rcut_any A n c na w hn hc ea)
  have H2 := Lib.hid (rcut_any B m d ma w hm hd eb)
  have H3 := Lib.hid (fun c d => wide_any A B na c ma d L w (by omega) (by omega) eL)
  have Hx := Lib.hid hx
  have Hy := Lib.hid hy
  have Hlx := Lib.hid (Nat.lt_of_lt_of_le (val_lt ox) (pw_le (show xs.length ≤ L by omega)))
  have Hly := Lib.hid (Nat.lt_of_lt_of_le (val_lt oy) (pw_le (show ys.length ≤ L by omega)))
  clear hx hy ea eb eL
  go_enter Try.func49, Try.ntmps49
  go_wp2_with fail
  refine (H1.out).mono ?_
  rintro e w' ⟨c', hc1, hc2, rfl, rfl⟩
  go_wp2_with fail
  refine (H2.out).mono ?_
  rintro e w' ⟨d', hd1, hd2, rfl, rfl⟩
  go_wp2_with fail
  refine (H3.out _ _).mono ?_
  rintro e w' ⟨rfl, rfl⟩
  go_wp2_with fail
  clear hmk
  go_loopw [8, 7] (RSubRel (val xs) (val ys) L w.heap.size w) (fun i _ _ => 64 * L - (intOf i).toNat)
  case atStart => exact RSubRel.start _ _ L w
  case round =>
    obtain ⟨k, cy, zs, hk, rfl, rfl, hcy, hz, oz, own, hb, hv, hval⟩ := hrel
    have Hv := Lib.hid hval
    have Hz := Lib.hid hz
    have Hown := Lib.hid own
    have Hvl := Lib.hid hv
    clear hval own hz hv
    have b1 := bitOf_lt (val xs) k
    have b2 := bitOf_lt (val ys) k
    by_cases hlt : k < 64 * L
    · go_wp2_with fail
      refine (bit_any A na _ xs k _ (by omega) (by omega) Hx.out ox (sx.bel hb)).mono ?_
      rintro e w' ⟨rfl, rfl⟩
      go_wp2_with fail
      refine (bit_any B ma _ ys k _ (by omega) (by omega) Hy.out oy (sy.bel hb)).mono ?_
      rintro e w' ⟨rfl, rfl⟩
      go_wp2_with fail
      refine (set_any _ L L zs k _ _ (by omega) (by simp; omega) (by omega) Hz.out oz Hown.out (by simpa using Hvl.out) (by omega) (by omega)).mono ?_
      rintro e w1 ⟨rfl, hw1⟩
      have Hw := Lib.hid hw1
      clear hw1
      go_wp2_with fail
      exact ⟨RSubRel.step hlt hcy Hz.out oz Hown.out hb (Nat.le_refl _) Hvl.out Hv.out Hw.out (by omega) (by omega), by simp [intOf]; omega⟩
    · obtain rfl : k = 64 * L := by omega
      go_wp2
      go_ret2
      exact RSubRel.done Hz.out Hlx.out Hly.out oz Hown.out hcy hb Hv.out
end Go.Proofs.Ytfkpcmjmibbmbaa
