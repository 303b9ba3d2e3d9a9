import Derived.Test.YtoocoobgidoceaaSpAll
import Derived.KernelRfl
namespace Go.Proofs.Ytoocoobgidoceaa

/-- A lane that is laid byte by byte: 'or' is 'xor'. -/
theorem or_eq_xor {a b k : Nat} (h : a < 2 ^ k) : a ||| b * 2 ^ k = a ^^^ b * 2 ^ k := by
  apply Nat.eq_of_testBit_eq
  intro j
  rw [Nat.testBit_or, Nat.testBit_xor, Nat.testBit_mul_two_pow]
  by_cases hj : k ≤ j
  · have : a.testBit j = false := Nat.testBit_lt_two_pow (Nat.lt_of_lt_of_le h (Nat.pow_le_pow_right (by decide) hj))
    rw [this]; simp
  · simp [hj]
theorem xor_shift_lt {a b k : Nat} (h : a < 2 ^ k) (hb : b < 256) : a ^^^ b * 2 ^ k < 2 ^ (k + 8) := by
  apply Nat.xor_lt_two_pow
  · exact Nat.lt_of_lt_of_le h (Nat.pow_le_pow_right (by decide) (by omega))
  · rw [Nat.pow_add, Nat.mul_comm]
    exact Nat.mul_lt_mul_of_pos_left hb (Nat.two_pow_pos k)
theorem nth_rep0 (n i : Nat) : nth (List.replicate n 0) i = 0 := by
  unfold nth
  rw [List.getD_eq_getElem?_getD, List.getElem?_replicate]
  split <;> rfl
/-- The lanes so far: those before are full, that at hand is below its next bit, those behind are 0. -/
theorem abs_lane {p : List Nat} (hp : Byt p) : ∀ j, j ≤ 136 → nth (absP (List.replicate 25 0) p j) (j / 8) < 2 ^ (8 * (j % 8)) ∧ ∀ l, j < 8 * l → nth (absP (List.replicate 25 0) p j) l = 0
  | 0, _ => ⟨by rw [absP, nth_rep0]; decide, fun l _ => by rw [absP, nth_rep0]⟩
  | j + 1, h => by
    obtain ⟨h1, h2⟩ := abs_lane hp j (by omega)
    have hlen : j / 8 < (absP (List.replicate 25 0) p j).length := by rw [absP_length]; simp; omega
    constructor
    · rw [absP, nth_set hlen]
      by_cases e : j / 8 = (j + 1) / 8
      · rw [if_pos e]
        have := xor_shift_lt h1 (hp.getD j)
        rw [show 8 * ((j + 1) % 8) = 8 * (j % 8) + 8 by omega]
        exact this
      · rw [if_neg e, h2 ((j + 1) / 8) (by omega)]
        exact Nat.two_pow_pos _
    · intro l hl
      rw [absP, nth_set hlen, if_neg (by omega)]
      exact h2 l (by omega)
theorem sqz_map (a : List Nat) : sqzN a 32 = (List.range 32).map (sqz1 a) := by kernel_rfl
theorem padK_small {n : Nat} (h : n ≤ 135) : padK n = 135 - n := by unfold padK; omega
theorem dig_short {bs : List Nat} (h : bs.length ≤ 135) : digN bs = sqzN (permN (absP (List.replicate 25 0) (padF bs) 136) 24) 32 := by
  have hl : (padF bs).length = 136 := by rw [padF_length, padL_length, padK_small h]; omega
  unfold digN
  rw [hl]
  show sqzN (spN (padF bs) (0 + 1)) 32 = _
  rw [spN, spN, Nat.mul_zero, List.drop_zero]
end Go.Proofs.Ytoocoobgidoceaa
