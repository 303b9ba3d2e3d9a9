import Derived.Test.YtfkpcmjmibbmbaaNatRemM
namespace Go.Proofs.Ytfkpcmjmibbmbaa

theorem coprime_two {M : Nat} (h : M % 2 = 1) : Nat.Coprime 2 M := by
  rw [Nat.coprime_iff_gcd_eq_one, Nat.gcd_rec, h, Nat.gcd_one_left]
theorem coprime_pow {M : Nat} (h : M % 2 = 1) (n : Nat) : Nat.Coprime (2 ^ n) M := Nat.Coprime.pow_left n (coprime_two h)
theorem dvd_of_mod {M a b : Nat} (hab : a ≤ b) : a % M = b % M ↔ M ∣ b - a := by
  constructor
  · intro h
    have h1 := Nat.mod_add_div a M
    have h2 := Nat.mod_add_div b M
    refine ⟨b / M - a / M, ?_⟩
    rw [Nat.mul_sub]
    omega
  · rintro ⟨k, hk⟩
    have : b = a + M * k := by omega
    rw [this, Nat.add_mul_mod_self_left]
theorem mul_cancel_mod {M : Nat} (h : M % 2 = 1) (n : Nat) {x y : Nat} (he : x * 2 ^ n % M = y * 2 ^ n % M) : x % M = y % M := by
  have aux : ∀ a b : Nat, a ≤ b → a * 2 ^ n % M = b * 2 ^ n % M → a % M = b % M := by
    intro a b hab hh
    have h1 : M ∣ b * 2 ^ n - a * 2 ^ n := (dvd_of_mod (Nat.mul_le_mul_right _ hab)).1 hh
    rw [← Nat.sub_mul] at h1
    have h2 : M ∣ b - a := Nat.Coprime.dvd_of_dvd_mul_right (Nat.Coprime.symm (coprime_pow h n)) h1
    exact (dvd_of_mod hab).2 h2
  rcases Nat.le_total x y with hxy | hxy
  · exact aux x y hxy he
  · exact (aux y x hxy he.symm).symm

/-- What makes of an odd limb all bits 1; 0 of an even one. -/
def NegIs (m n : Nat) : Prop := n < 18446744073709551616 ∧ (m % 2 = 0 → n = 0) ∧ (m % 2 = 1 → m * n % 18446744073709551616 = 18446744073709551615)
theorem NegIs.uniq {m n k : Nat} (h : NegIs m n) (h' : NegIs m k) : n = k := by
  obtain ⟨h1, h2, h3⟩ := h
  obtain ⟨k1, k2, k3⟩ := h'
  by_cases hm : m % 2 = 0
  · rw [h2 hm, k2 hm]
  · have hm1 : m % 2 = 1 := by omega
    have e := (h3 hm1).trans (k3 hm1).symm
    have hc : Nat.Coprime 18446744073709551616 m := coprime_pow hm1 64
    rcases Nat.le_total n k with hl | hl
    · have hd := (dvd_of_mod (Nat.mul_le_mul_left m hl)).1 e
      rw [← Nat.mul_sub] at hd
      have := Nat.Coprime.dvd_of_dvd_mul_left hc hd
      have := Nat.eq_zero_of_dvd_of_lt this (by omega)
      omega
    · have hd := (dvd_of_mod (Nat.mul_le_mul_left m hl)).1 e.symm
      rw [← Nat.mul_sub] at hd
      have := Nat.Coprime.dvd_of_dvd_mul_left hc hd
      have := Nat.eq_zero_of_dvd_of_lt this (by omega)
      omega

/-- How many bits are right after k rounds. -/
def prec : Nat → Nat | 0 => 3 | 1 => 6 | 2 => 12 | 3 => 24 | 4 => 48 | _ => 64
theorem prec_le (k : Nat) : prec k ≤ 64 := by unfold prec; split <;> decide
theorem prec_succ (k : Nat) (h : k < 5) : prec (k + 1) ≤ prec k + prec k := by
  have : k = 0 ∨ k = 1 ∨ k = 2 ∨ k = 3 ∨ k = 4 := by omega
  rcases this with rfl | rfl | rfl | rfl | rfl <;> decide
theorem pow_dvd_two {a b : Nat} (h : a ≤ b) : (2 : Int) ^ a ∣ 2 ^ b := ⟨2 ^ (b - a), by rw [← Int.pow_add, Nat.add_sub_cancel' h]⟩
theorem sq_odd (q : Nat) : ∃ t, (2 * q + 1) * (2 * q + 1) = 8 * t + 1 := by
  have h1 : q % 2 = 0 ∨ q % 2 = 1 := by omega
  rcases h1 with h1 | h1
  · obtain ⟨r, rfl⟩ : ∃ r, q = 2 * r := ⟨q / 2, by omega⟩
    refine ⟨2 * (r * r) + r, ?_⟩
    simp only [Nat.mul_add, Nat.add_mul, Nat.mul_one, Nat.one_mul, Nat.mul_assoc, Nat.mul_left_comm r]
    omega
  · obtain ⟨r, rfl⟩ : ∃ r, q = 2 * r + 1 := ⟨q / 2, by omega⟩
    refine ⟨2 * (r * r) + 3 * r + 1, ?_⟩
    simp only [Nat.mul_add, Nat.add_mul, Nat.mul_one, Nat.one_mul, Nat.mul_assoc, Nat.mul_left_comm r]
    omega
/-- The start: the number itself, to three bits. -/
theorem neg_start {m : Nat} (h : m % 2 = 1) : ((2 : Int) ^ prec 0) ∣ (m : Int) * m - 1 := by
  show (8 : Int) ∣ _
  obtain ⟨q, rfl⟩ : ∃ q, m = 2 * q + 1 := ⟨m / 2, by omega⟩
  obtain ⟨t, ht⟩ := sq_odd q
  rw [← Int.natCast_mul, ht]
  omega
/-- A round: twice as many bits. -/
theorem neg_round {m x y : Int} {k : Nat} (hk : k < 5) (h : (2 : Int) ^ prec k ∣ m * x - 1) (hy : (18446744073709551616 : Int) ∣ y - x * (2 - m * x)) : (2 : Int) ^ prec (k + 1) ∣ m * y - 1 := by
  have h64 : (2 : Int) ^ prec (k + 1) ∣ 18446744073709551616 := by
    have := pow_dvd_two (prec_le (k + 1))
    exact this
  have h2 : (2 : Int) ^ prec (k + 1) ∣ (m * x - 1) * (m * x - 1) := by
    have := Int.mul_dvd_mul h h
    rw [← Int.pow_add] at this
    exact Int.dvd_trans (pow_dvd_two (prec_succ k hk)) this
  have h3 : (2 : Int) ^ prec (k + 1) ∣ m * (y - x * (2 - m * x)) := Int.dvd_trans (Int.dvd_trans h64 hy) (Int.dvd_mul_left _ _)
  have e : m * y - 1 = m * (y - x * (2 - m * x)) - (m * x - 1) * (m * x - 1) := by
    simp only [Int.mul_sub, Int.sub_mul, Int.mul_one, Int.one_mul]
    have e1 : m * (x * 2) = 2 * (m * x) := by rw [← Int.mul_assoc, Int.mul_comm]
    have e2 : m * (x * (m * x)) = m * x * (m * x) := (Int.mul_assoc _ _ _).symm
    rw [e1, e2]; omega
  rw [e]
  exact Int.dvd_sub h3 h2
theorem neg_done {m x : Nat} (h1 : m % 2 = 1) (h : (2 : Int) ^ prec 5 ∣ (m : Int) * x - 1) {n : Nat} (hn : n < 18446744073709551616) (e : (18446744073709551616 : Int) ∣ (n : Int) + x) : NegIs m n := by
  refine ⟨hn, fun h0 => by omega, fun _ => ?_⟩
  have h' : (18446744073709551616 : Int) ∣ (m : Int) * x - 1 := h
  have h2 : (18446744073709551616 : Int) ∣ (m : Int) * (n + x) := Int.dvd_trans e (Int.dvd_mul_left _ _)
  rw [Int.mul_add] at h2
  have e3 : ((m * n : Nat) : Int) = (m : Int) * n := Int.natCast_mul m n
  have h3 := Int.dvd_sub h2 h'
  omega

/-- The reference: bit by bit. -/
theorem rneg_bit {m n i : Nat} (h : m * n % 2 ^ i = 2 ^ i - 1) (hb : m * n / 2 ^ i % 2 = 1) : m * n % 2 ^ (i + 1) = 2 ^ (i + 1) - 1 := by
  have hp := Nat.pow_pos (n := i) (show 0 < 2 by decide)
  rw [Nat.pow_succ, Nat.mod_mul, h, hb]; omega
theorem rneg_set {m n i : Nat} (h1 : m % 2 = 1) (h : m * n % 2 ^ i = 2 ^ i - 1) (hb : m * n / 2 ^ i % 2 = 0) : m * (n + 2 ^ i) % 2 ^ (i + 1) = 2 ^ (i + 1) - 1 := by
  have hp := Nat.pow_pos (n := i) (show 0 < 2 by decide)
  rw [Nat.mul_add, Nat.pow_succ, Nat.mod_mul, Nat.add_mul_mod_self_right, h, Nat.add_mul_div_right _ _ hp]
  have : (m * n / 2 ^ i + m) % 2 = 1 := by omega
  rw [this]; omega
theorem rneg_test (a : Nat) {i : Nat} (hi : i < 64) : a % 18446744073709551616 / 2 ^ i % 2 = a / 2 ^ i % 2 := by
  have e : (18446744073709551616 : Nat) = 2 ^ i * (2 * 2 ^ (63 - i)) := by
    rw [← Nat.mul_assoc, Nat.mul_comm (2 ^ i) 2, Nat.mul_assoc, ← Nat.pow_add, show i + (63 - i) = 63 by omega]
  rw [e, Nat.mod_mul_right_div_self, Nat.mod_mul_right_mod]
end Go.Proofs.Ytfkpcmjmibbmbaa
