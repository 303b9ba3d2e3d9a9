import Derived.Test.YtfkpcmjmibbmbaaNatByt
namespace Go.Proofs.Ytfkpcmjmibbmbaa

theorem rem_step (N M i : Nat) : (2 * (N / 2 ^ (i + 1) % M) + bitOf N i) % M = N / 2 ^ i % M := by
  rw [div_pow_succ N i, Nat.add_mod, Nat.mul_mod, Nat.mod_mod, ← Nat.mul_mod, ← Nat.add_mod]
theorem rem_lt {R M : Nat} {b : Nat} (h : R < M) (hb : b < 2) : (2 * R + b) % M = if M ≤ 2 * R + b then 2 * R + b - M else 2 * R + b := by
  split
  · rw [Nat.mod_eq_sub_mod (by omega), Nat.mod_eq_of_lt (by omega)]
  · rw [Nat.mod_eq_of_lt (by omega)]

/-- Two rows that say one number from a place on, and a digit that parts them. -/
theorem val_lt_of {a b : List Nat} (ha : Ok a) (hb : Ok b) {i : Nat} (h : val a / pw (i + 1) = val b / pw (i + 1)) (hd : nth a i < nth b i) : val a < val b := by
  rw [getD_val ha, getD_val hb] at hd
  rw [pw_succ, Nat.mul_comm] at h
  exact lt_of_digit h hd
theorem val_eq_of {a b : List Nat} (ha : Ok a) (hb : Ok b) {i : Nat} (h : val a / pw (i + 1) = val b / pw (i + 1)) (hd : nth a i = nth b i) : val a / pw i = val b / pw i := by
  rw [getD_val ha, getD_val hb] at hd
  rw [pw_succ, Nat.mul_comm] at h
  exact eq_of_digit h hd
theorem val_top {a : List Nat} (ha : Ok a) {i : Nat} (h : a.length ≤ i) : val a / pw i = 0 := Nat.div_eq_of_lt (Nat.lt_of_lt_of_le (val_lt ha) (pw_le h))
theorem bit_lt_of {A B i : Nat} (h : A / 2 ^ (i + 1) = B / 2 ^ (i + 1)) (hd : bitOf A i < bitOf B i) : A < B := by
  rw [Nat.pow_succ] at h
  exact lt_of_digit h hd
theorem bit_eq_of {A B i : Nat} (h : A / 2 ^ (i + 1) = B / 2 ^ (i + 1)) (hd : bitOf A i = bitOf B i) : A / 2 ^ i = B / 2 ^ i := by
  rw [Nat.pow_succ] at h
  exact eq_of_digit h hd
/-- What Cmp tells. -/
def cmpN (A B : Nat) : Int := if A < B then -1 else if B < A then 1 else 0
theorem cmpN_lt {A B : Nat} (h : A < B) : cmpN A B = -1 := by unfold cmpN; rw [if_pos h]
theorem cmpN_gt {A B : Nat} (h : B < A) : cmpN A B = 1 := by unfold cmpN; rw [if_neg (by omega), if_pos h]
theorem cmpN_eq {A B : Nat} (h : A = B) : cmpN A B = 0 := by unfold cmpN; rw [if_neg (by omega), if_neg (by omega)]

/-- A bit put at a place above all that stands there. -/
theorem set_bit {l : List Nat} (h : Ok l) {i b : Nat} (hi : i / 64 < l.length) (hv : val l < 2 ^ i) (hb : b < 2) :
    nth l (i / 64) ||| b * 2 ^ (i % 64) = nth l (i / 64) + b * 2 ^ (i % 64) ∧
      nth l (i / 64) + b * 2 ^ (i % 64) < 18446744073709551616 ∧
      val (l.set (i / 64) (nth l (i / 64) + b * 2 ^ (i % 64))) = val l + b * 2 ^ i := by
  have e : (2 : Nat) ^ i = pw (i / 64) * 2 ^ (i % 64) := by rw [pw_two, ← Nat.pow_add, Nat.div_add_mod]
  have hx : nth l (i / 64) < 2 ^ (i % 64) := by
    rw [getD_val h]
    have h1 : val l / pw (i / 64) < 2 ^ (i % 64) := by rw [Nat.div_lt_iff_lt_mul (pw_pos _), Nat.mul_comm, ← e]; exact hv
    exact Nat.lt_of_le_of_lt (Nat.mod_le _ _) h1
  have hp : (2 : Nat) ^ (i % 64) * 2 ≤ 18446744073709551616 := by
    rw [← Nat.pow_succ]; exact Nat.pow_le_pow_right (n := 2) (by decide) (show i % 64 + 1 ≤ 64 by omega)
  refine ⟨?_, ?_, ?_⟩
  · rw [Nat.or_comm, Nat.mul_comm b, ← Nat.two_pow_add_eq_or_of_lt hx, Nat.add_comm]
  · have : b = 0 ∨ b = 1 := by omega
    rcases this with rfl | rfl <;> omega
  · have h2 := val_set hi (nth l (i / 64) + b * 2 ^ (i % 64))
    rw [Nat.mul_add] at h2
    have h3 : pw (i / 64) * (b * 2 ^ (i % 64)) = b * 2 ^ i := by rw [e, Nat.mul_left_comm]
    omega
end Go.Proofs.Ytfkpcmjmibbmbaa
