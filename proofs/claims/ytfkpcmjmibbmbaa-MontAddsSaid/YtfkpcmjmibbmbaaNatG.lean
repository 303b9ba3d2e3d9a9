import Derived.Test.YtfkpcmjmibbmbaaNatF
namespace Go.Proofs.Ytfkpcmjmibbmbaa
open Go.RowKit
set_option linter.unusedVariables false

theorem mul_lt_pw {a b : Nat} {xs ys : List Nat} (ox : Ok xs) (oy : Ok ys) (hx : xs.length = a) (hy : ys.length = b) : val xs * val ys < pw (a + b) := by
  have h1 := val_lt ox
  have h2 := val_lt oy
  rw [hx] at h1
  rw [hy] at h2
  rw [pw_add]
  exact Nat.lt_of_le_of_lt (Nat.mul_le_mul_left _ (Nat.le_of_lt h2)) (Nat.mul_lt_mul_of_pos_right h1 (pw_pos _))

theorem mul_shift_lt {A B T : Nat} (h : A * B < T) (k : Nat) : A / 2 ^ k * B < T := Nat.lt_of_le_of_lt (Nat.mul_le_mul_right _ (Nat.div_le_self _ _)) h
theorem mul_shift (A B j : Nat) : A / 2 ^ j * B = 2 * (A / 2 ^ (j + 1) * B) + bitOf A j * B := by
  rw [div_pow_succ A j, Nat.add_mul, Nat.mul_assoc]

def RMulRel (A B la L : Nat) (w : World) (i o : Value) (wr : World) : Prop :=
  ∃ (k g : Nat) (zs : List Nat), k ≤ 64 * la ∧ i = .int .i64 ((k : Int) - 1) ∧ o = .slice (some ⟨g, 0, none⟩) L L ∧ zs.length = L ∧ Ok zs ∧ Own wr g 22 .u64 zs ∧ Below w.heap.size w wr ∧ val zs = A / 2 ^ k * B
def MulPost (L V : Nat) (w : World) (e : Ending) (w' : World) : Prop := RowPost L V w e w'

/-- math/bits.Add64 without a carry. -/
theorem add64_0 (x y : Nat) (hx : x < 18446744073709551616) (hy : y < 18446744073709551616) (w : World) :
    (callFunc 40 #[.int .u64 (x : Int), .int .u64 (y : Int), .int .u64 0]).run Try.prog w =
      .ok (.value (.tuple #[.int .u64 (addLo x y 0 : Nat), .int .u64 (addHi x y 0 : Nat)])) w := add64_at x y 0 hx hy (by decide) w

theorem mulLo_lt (x y : Nat) : mulLo x y < 18446744073709551616 := Nat.mod_lt _ (by decide)
/-- What the inner round puts and carries. -/
theorem round_lo (x y o c : Nat) : addLo (addLo (mulLo x y) o 0) c 0 = loS x y o c := by unfold addLo mulLo loS; omega
theorem round_hi {x y o c : Nat} (hx : x < 18446744073709551616) (hy : y < 18446744073709551616) (ho : o < 18446744073709551616) (hc : c < 18446744073709551616) :
    IntKind.u64.wrap (IntKind.u64.wrap ((mulHi x y : Nat) + (addHi (mulLo x y) o 0 : Nat)) + (addHi (addLo (mulLo x y) o 0) c 0 : Nat)) = (hiS x y o c : Nat) := by
  have h1 := hi1_lt hx hy ho
  have h2 := hi_lt hx hy ho hc
  rw [IntKind.wrap_u64, IntKind.wrap_u64]
  unfold mulHi addHi mulLo addLo
  unfold hiS at h2 ⊢
  simp only [Nat.add_zero]
  omega

/-- Within a round of the outer loop: what stands after j rounds of the inner one. -/
def MulIn (zs0 ys : List Nat) (i x m L g : Nat) (w : World) (jv cy : Value) (wr : World) : Prop :=
  ∃ (j c : Nat) (zs : List Nat), j ≤ m ∧ jv = .int .i64 (j : Int) ∧ cy = .int .u64 (c : Int) ∧ c < 18446744073709551616 ∧ zs.length = L ∧ Ok zs ∧ Own wr g 22 .u64 zs ∧ Below w.heap.size w wr ∧
    val zs + pw (i + j) * c = val zs0 + pw i * (x * val (ys.take j)) ∧ ∀ t, i + j ≤ t → nth zs t = nth zs0 t
theorem MulIn.step {zs0 zs ys : List Nat} {i x m L g j c : Nat} {w wr wr' : World} {v cv : Int} (hx : x < 18446744073709551616) (oy : Ok ys) (hj : j < m) (hL : i + m < L) (hc : c < 18446744073709551616)
    (hz : zs.length = L) (oz : Ok zs) (own : Own wr g 22 .u64 zs) (hb : Below w.heap.size w wr) (hg : w.heap.size ≤ g) (h : val zs + pw (i + j) * c = val zs0 + pw i * (x * val (ys.take j)))
    (hk : ∀ t, i + j ≤ t → nth zs t = nth zs0 t) (ew : wr.setCell ⟨g, i + j, none⟩ (.int .u64 v) = wr') (e1 : v = (loS x (nth ys j) (nth zs (i + j)) c : Nat)) (e2 : cv = (hiS x (nth ys j) (nth zs (i + j)) c : Nat)) :
    MulIn zs0 ys i x m L g w (.int .i64 ((j : Int) + 1)) (.int .u64 cv) wr' := by
  subst ew e1
  refine ⟨j + 1, _, zs.set (i + j) (loS x (nth ys j) (nth zs (i + j)) c), by omega, rfl, int_eq e2, hi_lt hx (oy.getD j) (oz.getD _) hc, by simpa using hz, oz.set (lo_lt _ _ _ _) _, own.set _ _, hb.setCell hg _, ?_, ?_⟩
  · have h1 := val_set (l := zs) (k := i + j) (by omega) (loS x (nth ys j) (nth zs (i + j)) c)
    have h2 := hi_lo x (nth ys j) (nth zs (i + j)) c
    rw [← Nat.add_assoc i j 1, pw_succ, val_take_succ, Nat.mul_add x, Nat.mul_add (pw i)]
    refine mul_step _ _ _ _ _ _ _ _ _ (x * nth ys j) _ h1 h2 h ?_
    rw [pw_add, Nat.mul_assoc, Nat.mul_left_comm (pw j)]
  · intro t ht
    rw [nth_set (by omega), if_neg (by omega)]
    exact hk t (by omega)

def MulRel (xs ys : List Nat) (n L g : Nat) (w : World) (iv : Value) (wr : World) : Prop :=
  ∃ (i : Nat) (zs : List Nat), i ≤ n ∧ iv = .int .i64 (i : Int) ∧ zs.length = L ∧ Ok zs ∧ Own wr g 22 .u64 zs ∧ Below w.heap.size w wr ∧ val zs = val (xs.take i) * val ys
theorem MulRel.top {xs ys zs : List Nat} {i m : Nat} (ox : Ok xs) (oy : Ok ys) (oz : Ok zs) (hy : ys.length = m) (h : val zs = val (xs.take i) * val ys) : nth zs (i + m) = 0 := by
  have h1 := val_take_lt ox i
  have h2 := val_lt oy
  rw [hy] at h2
  rw [getD_val oz, Nat.div_eq_of_lt]
  rw [h, pw_add]
  exact Nat.lt_of_le_of_lt (Nat.mul_le_mul_left _ (Nat.le_of_lt h2)) (Nat.mul_lt_mul_of_pos_right h1 (pw_pos _))
theorem MulRel.step {xs ys zs zs0 : List Nat} {n m L g i c : Nat} {w wr wr' : World} (ox : Ok xs) (oy : Ok ys) (hi : i < n) (hL : i + m < L) (hy : ys.length = m) (oz0 : Ok zs0) (h0 : val zs0 = val (xs.take i) * val ys)
    (hc : c < 18446744073709551616) (hz : zs.length = L) (oz : Ok zs) (own : Own wr g 22 .u64 zs) (hb : Below w.heap.size w wr) (hg : w.heap.size ≤ g) (h : val zs + pw (i + m) * c = val zs0 + pw i * (nth xs i * val (ys.take m)))
    (hk : ∀ t, i + m ≤ t → nth zs t = nth zs0 t) (ew : wr.setCell ⟨g, i + m, none⟩ (.int .u64 (c : Int)) = wr') : MulRel xs ys n L g w (.int .i64 ((i : Int) + 1)) wr' := by
  subst ew
  refine ⟨i + 1, zs.set (i + m) c, by omega, rfl, by simpa using hz, oz.set hc _, own.set _ _, hb.setCell hg _, ?_⟩
  have h1 := val_set (l := zs) (k := i + m) (by omega) c
  rw [hk _ (Nat.le_refl _), MulRel.top ox oy oz0 hy h0, Nat.mul_zero, Nat.add_zero, h, val_take_all ys (by omega), h0] at h1
  rw [h1, val_take_succ, Nat.add_mul, Nat.mul_assoc]

set_option maxHeartbeats 1000000 in
/-- nat.Mul -/
theorem mul_any (A B : Option Addr) (n c m d na ma : Nat) (xs ys : List Nat) (w : World) (hn : n ≤ c) (hc : c ≤ maxLen) (hm : m ≤ d) (hd : d ≤ maxLen)
    (ea : min n 16 = na) (eb : min m 16 = ma) (hx : xs.length = na) (hy : ys.length = ma) (ox : Ok xs) (oy : Ok ys) (sx : Sl w .u64 A xs) (sy : Sl w .u64 B ys) :
    Calls Try.prog 21 #[.slice A n c, .slice B m d] w (RowPost (na + ma) (val xs * val ys) w) := by
  have hna : na ≤ 16 := by omega
  have hma : ma ≤ 16 := by omega
  have hmk := run_mk (na + ma) (by omega)
  have H1 := Lib.hid (cut_at A n c na w hn hc ea)
  have H2 := Lib.hid (cut_at B m d ma w hm hd eb)
  have Hx := Lib.hid hx
  have Hy := Lib.hid hy
  clear hx hy ea eb
  go_enter Try.func21, Try.ntmps21
  go_wp2_with fail
  refine (H1.out).mono ?_
  rintro e w' ⟨rfl, rfl⟩
  go_wp2_with fail
  refine (H2.out).mono ?_
  rintro e w' ⟨rfl, rfl⟩
  have hmk' : ∀ w : World, (Instr.makeSlice 26 (.int .i64 ((na : Int) + (ma : Int))) (.int .i64 ((na : Int) + (ma : Int)))).run Try.prog w = .ok (.slice (some ⟨w.heap.size, 0, none⟩) (na + ma) (na + ma)) (w.alloc (.cells (lim .u64 (List.replicate (na + ma) 0)) 22)) := hmk
  clear hmk
  go_wp2_with fail
  clear hmk'
  go_loopw [26] (MulRel xs ys na (na + ma) w.heap.size w) (fun i _ => na - (intOf i).toNat)
  case atStart => exact ⟨0, _, Nat.zero_le _, rfl, List.length_replicate, Ok.replicate _, Own.new _ _ _ _, (Below.refl _ _).alloc (Nat.le_refl _) _, by simp [val_replicate, val]⟩
  case round =>
    obtain ⟨i, zs0, hi, rfl, hz0, oz0, own0, hb0, hval0⟩ := hrel
    have Hv0 := Lib.hid hval0
    have Hz0 := Lib.hid hz0
    have Hown0 := Lib.hid own0
    clear hval0 hz0 own0
    by_cases hlt : i < na
    · obtain ⟨ba, off, rfl, hlb, hcb⟩ := (sx.bel hb0) (by have := Hx.out; omega)
      have hc1 := hcb i (by have := Hx.out; omega)
      have bx := ox.getD i
      clear hcb
      go_wp2_with fail
      obtain ⟨wo, rfl⟩ : ∃ wo : World, wo = wr := ⟨_, rfl⟩
      go_loopw [33, 8] (MulIn zs0 ys i (nth xs i) ma (na + ma) w.heap.size w) (fun j _ _ => ma - (intOf j).toNat)
      case atStart => exact ⟨0, 0, zs0, Nat.zero_le _, rfl, rfl, by decide, Hz0.out, oz0, Hown0.out, hb0, by simp [val], fun t ht => rfl⟩
      case round =>
        obtain ⟨j, cy, zs, hj, rfl, rfl, hcy, hz, oz, own, hb, hval, hkeep⟩ := hrel
        have Hv := Lib.hid hval
        have Hz := Lib.hid hz
        have Hown := Lib.hid own
        have Hk := Lib.hid hkeep
        clear hval hkeep
        by_cases hjl : j < ma
        · obtain ⟨bb, off', rfl, hlb', hcb'⟩ := (sy.bel hb) (by have := Hy.out; omega)
          have hc2 := hcb' j (by have := Hy.out; omega)
          have by' := oy.getD j
          have hcell := own.cell (i := i + j) (by omega)
          have hfr := own.frozen (i + j)
          have ha1 := add64_0 (mulLo (nth xs i) (nth ys j)) (nth zs (i + j)) (mulLo_lt _ _) (oz.getD _)
          have ha2 := add64_0 (addLo (mulLo (nth xs i) (nth ys j)) (nth zs (i + j)) 0) cy (addLo_lt _ _ _) hcy
          clear hcb' own hz
          go_wp2_with fail
          refine (mul64_at (nth xs i) (nth ys j) bx by' _).mono ?_
          rintro e w' ⟨rfl, rfl⟩
          go_wp2_with fail
          exact ⟨MulIn.step bx oy hjl (by omega) hcy Hz.out oz Hown.out hb (Nat.le_refl _) Hv.out Hk.out rfl (congrArg _ (round_lo _ _ _ _)) (round_hi bx by' (oz.getD _) hcy), by simp [intOf]; omega⟩
        · obtain rfl : j = ma := by omega
          have hcell := own.cell (i := i + j) (by omega)
          have hfr := own.frozen (i + j)
          clear own hz
          go_wp2_with fail
          exact ⟨MulRel.step ox oy hlt (by omega) Hy.out oz0 Hv0.out hcy Hz.out oz Hown.out hb (Nat.le_refl _) Hv.out Hk.out rfl, by simp [intOf]; omega⟩
    · obtain rfl : i = na := by omega
      go_wp2
      go_ret
      have h := Hv0.out
      rw [val_take_all xs (by have := Hx.out; omega)] at h
      exact ⟨_, zs0, rfl, Hown0.out, Hz0.out, oz0, h, hb0⟩
end Go.Proofs.Ytfkpcmjmibbmbaa
