import Derived.Test.YtfkpcmjmibbmbaaNatMath
namespace Go.Proofs.Ytfkpcmjmibbmbaa

/-- A step of a sum: place p, carry c. -/
theorem add_step (A B O p x y c : Nat) (h : O + p * c = A + B) :
    (O + p * ((x + y + c) % 18446744073709551616)) + (18446744073709551616 * p) * ((x + y + c) / 18446744073709551616) = (A + p * x) + (B + p * y) := by
  have h1 := Nat.mod_add_div (x + y + c) 18446744073709551616
  have h2 : p * ((x + y + c) % 18446744073709551616 + 18446744073709551616 * ((x + y + c) / 18446744073709551616)) = p * x + p * y + p * c := by
    rw [h1, Nat.mul_add, Nat.mul_add]
  rw [Nat.mul_add] at h2
  have h3 : (18446744073709551616 * p) * ((x + y + c) / 18446744073709551616) = p * (18446744073709551616 * ((x + y + c) / 18446744073709551616)) := by
    rw [Nat.mul_comm 18446744073709551616 p, Nat.mul_assoc]
  omega
theorem add_carry {x y c : Nat} (hx : x < 18446744073709551616) (hy : y < 18446744073709551616) (hc : c ≤ 1) : (x + y + c) / 18446744073709551616 ≤ 1 := by omega

/-- A step of a difference. -/
theorem sub_step (A B O p x y c : Nat) (hx : x < 18446744073709551616) (hy : y < 18446744073709551616) (hc : c ≤ 1) (h : O + B = A + p * c) :
    (O + p * ((x + 18446744073709551616 - y - c) % 18446744073709551616)) + (B + p * y) = (A + p * x) + (18446744073709551616 * p) * (if x < y + c then 1 else 0) := by
  have key : (x + 18446744073709551616 - y - c) % 18446744073709551616 + y + c = x + 18446744073709551616 * (if x < y + c then 1 else 0) := by
    split <;> omega
  have h2 : p * ((x + 18446744073709551616 - y - c) % 18446744073709551616 + y + c) = p * (x + 18446744073709551616 * (if x < y + c then 1 else 0)) := by rw [key]
  rw [Nat.mul_add, Nat.mul_add, Nat.mul_add] at h2
  have h3 : (18446744073709551616 * p) * (if x < y + c then 1 else 0) = p * (18446744073709551616 * (if x < y + c then 1 else 0)) := by
    rw [Nat.mul_comm 18446744073709551616 p, Nat.mul_assoc]
  rw [h3]
  omega

/-- x y + o + c as two limbs, the way Go's text reckons it. -/
def loS (x y o c : Nat) : Nat := ((x * y % 18446744073709551616 + o) % 18446744073709551616 + c) % 18446744073709551616
def hiS (x y o c : Nat) : Nat := x * y / 18446744073709551616 + (x * y % 18446744073709551616 + o) / 18446744073709551616 + ((x * y % 18446744073709551616 + o) % 18446744073709551616 + c) / 18446744073709551616
theorem hi_lo (x y o c : Nat) : loS x y o c + 18446744073709551616 * hiS x y o c = x * y + o + c := by
  unfold loS hiS
  have h1 := Nat.mod_add_div (x * y) 18446744073709551616
  omega
theorem lo_lt (x y o c : Nat) : loS x y o c < 18446744073709551616 := Nat.mod_lt _ (by decide)
theorem mul_le_sq {x y : Nat} (hx : x < 18446744073709551616) (hy : y < 18446744073709551616) : x * y ≤ 18446744073709551615 * 18446744073709551615 :=
  Nat.mul_le_mul (by omega) (by omega)
theorem hi_lt {x y o c : Nat} (hx : x < 18446744073709551616) (hy : y < 18446744073709551616) (ho : o < 18446744073709551616) (hc : c < 18446744073709551616) : hiS x y o c < 18446744073709551616 := by
  have h1 := hi_lo x y o c
  have h2 := mul_le_sq hx hy
  omega
theorem hi1_lt {x y o : Nat} (hx : x < 18446744073709551616) (hy : y < 18446744073709551616) (ho : o < 18446744073709551616) :
    x * y / 18446744073709551616 + (x * y % 18446744073709551616 + o) / 18446744073709551616 < 18446744073709551616 := by
  have h2 := mul_le_sq hx hy
  have h1 := Nat.mod_add_div (x * y) 18446744073709551616
  omega
/-- A step of a row of a product. -/
theorem mul_step {r : Nat} (V V' V0 p o lo hi c q xy b : Nat) (hset : V' + p * o = V + p * lo) (hhl : lo + 18446744073709551616 * hi = xy + o + c) (h : V + p * c = V0 + q * b) (hq : p * xy = r) :
    V' + (18446744073709551616 * p) * hi = V0 + (q * b + r) := by
  have h2 : p * (lo + 18446744073709551616 * hi) = p * (xy + o + c) := by rw [hhl]
  rw [Nat.mul_add, Nat.mul_add, Nat.mul_add] at h2
  have h3 : (18446744073709551616 * p) * hi = p * (18446744073709551616 * hi) := by rw [Nat.mul_comm 18446744073709551616 p, Nat.mul_assoc]
  omega

/-- Doubling and a bit, with room. -/
theorem double_step (O A p x c c0 : Nat) (h : O + p * c = 2 * A + c0) :
    (O + p * ((2 * x + c) % 18446744073709551616)) + (18446744073709551616 * p) * ((2 * x + c) / 18446744073709551616) = 2 * (A + p * x) + c0 := by
  have h1 := Nat.mod_add_div (2 * x + c) 18446744073709551616
  have h2 : p * ((2 * x + c) % 18446744073709551616 + 18446744073709551616 * ((2 * x + c) / 18446744073709551616)) = p * (2 * x) + p * c := by
    rw [h1, Nat.mul_add]
  rw [Nat.mul_add, Nat.mul_left_comm p 2 x] at h2
  have h3 : (18446744073709551616 * p) * ((2 * x + c) / 18446744073709551616) = p * (18446744073709551616 * ((2 * x + c) / 18446744073709551616)) := by
    rw [Nat.mul_comm 18446744073709551616 p, Nat.mul_assoc]
  omega

/-- The bit at i. -/
def bitOf (N i : Nat) : Nat := N / 2 ^ i % 2
theorem bitOf_lt (N i : Nat) : bitOf N i < 2 := Nat.mod_lt _ (by decide)
theorem bit_limb {l : List Nat} (h : Ok l) (i : Nat) : nth l (i / 64) / 2 ^ (i % 64) % 2 = bitOf (val l) i := by
  rw [getD_val h, bitOf]
  have e : (18446744073709551616 : Nat) = 2 ^ (i % 64) * (2 * 2 ^ (63 - i % 64)) := by
    rw [← Nat.mul_assoc, Nat.mul_comm (2 ^ (i % 64)) 2, Nat.mul_assoc, ← Nat.pow_add, show i % 64 + (63 - i % 64) = 63 by omega]
  rw [e, Nat.mod_mul_right_div_self, Nat.mod_mul_right_mod, Nat.div_div_eq_div_mul, pw_two, ← Nat.pow_add, Nat.div_add_mod]
theorem bitOf_ge {N i n : Nat} (h : N < 2 ^ n) (hi : n ≤ i) : bitOf N i = 0 := by
  unfold bitOf; rw [Nat.div_eq_of_lt]; exact Nat.lt_of_lt_of_le h (Nat.pow_le_pow_right (by decide) hi)
theorem div_pow_succ (N i : Nat) : N / 2 ^ i = 2 * (N / 2 ^ (i + 1)) + bitOf N i := by
  unfold bitOf; rw [Nat.pow_succ, ← Nat.div_div_eq_div_mul]; omega
theorem mod_pow_succ (N i : Nat) : N % 2 ^ (i + 1) = N % 2 ^ i + 2 ^ i * bitOf N i := by
  unfold bitOf; rw [Nat.pow_succ, Nat.mod_mul]

/-- How many bits a number has. -/
def bitLen (N : Nat) : Nat := if N = 0 then 0 else N.log2 + 1
theorem bitLen_eq {N k : Nat} (h1 : N < 2 ^ (k + 1)) (h2 : 2 ^ k ≤ N) : bitLen N = k + 1 := by
  have h0 : N ≠ 0 := by have := Nat.pow_pos (n := k) (show 0 < 2 by decide); omega
  unfold bitLen; rw [if_neg h0]
  have := (Nat.log2_eq_iff h0 (k := k)).2 ⟨h2, h1⟩
  omega
theorem bitLen_zero : bitLen 0 = 0 := rfl
theorem bitLen_pos {N : Nat} (h : N ≠ 0) : 0 < bitLen N := by unfold bitLen; rw [if_neg h]; omega
theorem bitLen_lt (N : Nat) : N < 2 ^ bitLen N := by
  unfold bitLen; split
  · omega
  · exact Nat.lt_log2_self
theorem bitLen_le {N : Nat} (h : N ≠ 0) : 2 ^ (bitLen N - 1) ≤ N := by
  unfold bitLen; rw [if_neg h]; exact Nat.log2_self_le h
theorem bitLen_eq_zero {N : Nat} : bitLen N = 0 ↔ N = 0 := by
  unfold bitLen; split <;> simp_all
end Go.Proofs.Ytfkpcmjmibbmbaa
