import Derived.Test.YtoocoobgidoceaaNatMath
namespace Go.Proofs.Ytoocoobgidoceaa

/-- A lane, turned to the left by one. -/
def r1 (x : Nat) : Nat := x * 2 % 18446744073709551616 + x / 9223372036854775808
def rotl (x : Nat) : Nat → Nat | 0 => x | n + 1 => r1 (rotl x n)
theorem r1_lt {x : Nat} (h : x < 18446744073709551616) : r1 x < 18446744073709551616 := by unfold r1; omega
theorem rotl_lt {x : Nat} (h : x < 18446744073709551616) (n : Nat) : rotl x n < 18446744073709551616 := by
  induction n with
  | zero => exact h
  | succ n ih => exact r1_lt ih
theorem rotl_add (x m n : Nat) : rotl (rotl x m) n = rotl x (m + n) := by
  induction n with
  | zero => rfl
  | succ n ih => show r1 _ = r1 _; rw [ih]; rfl
theorem rotl_aux {k : Nat} (hk : k ≤ 64) {x : Nat} (hx : x < 18446744073709551616) :
    rotl x k = x % 2 ^ (64 - k) * 2 ^ k + x / 2 ^ (64 - k) := by
  induction k with
  | zero => show x = _; rw [Nat.mod_eq_of_lt (by simpa using hx), Nat.div_eq_of_lt (by simpa using hx)]; simp
  | succ k ih =>
    obtain ⟨m, hm⟩ : ∃ m, 64 - (k + 1) = m := ⟨_, rfl⟩
    have hm1 : 64 - k = m + 1 := by omega
    have hpq : 2 ^ m * 2 ^ k = 9223372036854775808 := by rw [← Nat.pow_add, show m + k = 63 by omega]
    have hq := Nat.pow_pos (n := m) (a := 2) (by decide)
    have hp := Nat.pow_pos (n := k) (a := 2) (by decide)
    show r1 (rotl x k) = _
    rw [ih (by omega), hm, hm1, Nat.pow_succ, Nat.pow_succ]
    generalize 2 ^ m = Q at *
    generalize 2 ^ k = P at *
    have h1 : x / (Q * 2) = x / Q / 2 := by rw [Nat.div_div_eq_div_mul]
    have h2 : x % (Q * 2) = x / Q % 2 * Q + x % Q := by
      rw [Nat.mod_mul, Nat.add_comm, Nat.mul_comm]
    have hu : x / Q < 2 * P := by
      rw [Nat.div_lt_iff_lt_mul hq, Nat.mul_assoc, Nat.mul_comm P, hpq]; omega
    have hl : x % Q * P + P ≤ 9223372036854775808 := by
      rw [← hpq, ← Nat.succ_mul]; exact Nat.mul_le_mul_right _ (Nat.mod_lt _ hq)
    rw [h1, h2, Nat.add_mul, Nat.mul_assoc, hpq, ← Nat.mul_assoc]
    generalize x / Q = u at *
    generalize x % Q * P = l at *
    unfold r1
    omega
theorem mul_mod_pow {k : Nat} (hk : k ≤ 64) (x : Nat) : x * 2 ^ k % 18446744073709551616 = x % 2 ^ (64 - k) * 2 ^ k := by
  have h : (18446744073709551616 : Nat) = 2 ^ (64 - k) * 2 ^ k := by rw [← Nat.pow_add, Nat.sub_add_cancel hk]
  rw [h, Nat.mul_mod_mul_right]
theorem rotl_shift {k : Nat} (hk : k ≤ 64) {x : Nat} (hx : x < 18446744073709551616) :
    x * 2 ^ k % 18446744073709551616 ||| x / 2 ^ (64 - k) = rotl x k := by
  rw [rotl_aux hk hx, mul_mod_pow hk, Nat.mul_comm _ (2 ^ k), ← Nat.two_pow_add_eq_or_of_lt]
  rw [Nat.div_lt_iff_lt_mul (Nat.pow_pos (by decide)), ← Nat.pow_add, Nat.add_sub_cancel' hk]
  exact hx
theorem rotl_64 {x : Nat} (hx : x < 18446744073709551616) : rotl x 64 = x := by
  rw [rotl_aux (Nat.le_refl _) hx]; simp [Nat.mod_one]
theorem tb_r1 {x : Nat} (hx : x < 18446744073709551616) (i : Nat) : (r1 x).testBit i = if i = 0 then x.testBit 63 else (decide (i < 64) && x.testBit (i - 1)) := by
  have h1 : r1 x = x % 9223372036854775808 * 2 + x / 9223372036854775808 := by unfold r1; omega
  have h2 : x / 9223372036854775808 < 2 := by omega
  cases i with
  | zero =>
    have h4 : (r1 x % 2 = 1) = (x / 2 ^ 63 % 2 = 1) := by
      have : (2 : Nat) ^ 63 = 9223372036854775808 := rfl
      rw [this, h1, Nat.add_comm, Nat.add_mul_mod_self_right]
    rw [if_pos rfl, Nat.testBit_zero, Nat.testBit_eq_decide_div_mod_eq]
    simp only [h4]
  | succ i =>
    have h3 : r1 x / 2 = x % 2 ^ 63 := by
      have : (2 : Nat) ^ 63 = 9223372036854775808 := rfl
      rw [this, h1]
      omega
    have h5 : decide (i < 63) = decide (i + 1 < 64) := decide_eq_decide.2 (by omega)
    have h6 : i + 1 - 1 = i := by omega
    rw [if_neg (by omega), Nat.testBit_succ, h3, Nat.testBit_mod_two_pow, h5, h6]
theorem xor_lt {a b : Nat} (ha : a < 18446744073709551616) (hb : b < 18446744073709551616) : a ^^^ b < 18446744073709551616 := Nat.xor_lt_two_pow (n := 64) ha hb
theorem and_lt {a b : Nat} (hb : b < 18446744073709551616) : a &&& b < 18446744073709551616 := Nat.lt_of_le_of_lt Nat.and_le_right hb
theorem r1_xor {a b : Nat} (ha : a < 18446744073709551616) (hb : b < 18446744073709551616) : r1 (a ^^^ b) = r1 a ^^^ r1 b := by
  apply Nat.eq_of_testBit_eq
  intro i
  rw [Nat.testBit_xor, tb_r1 (xor_lt ha hb), tb_r1 ha, tb_r1 hb]
  cases i with
  | zero => simp
  | succ i => simp only [Nat.testBit_xor]; cases decide (i + 1 < 64) <;> simp
theorem rotl_xor {a b : Nat} (ha : a < 18446744073709551616) (hb : b < 18446744073709551616) (n : Nat) : rotl (a ^^^ b) n = rotl a n ^^^ rotl b n := by
  induction n with
  | zero => rfl
  | succ n ih => show r1 _ = r1 _ ^^^ r1 _; rw [ih, r1_xor (rotl_lt ha n) (rotl_lt hb n)]
theorem rotl_inj {a b n : Nat} (hn : n ≤ 64) (ha : a < 18446744073709551616) (hb : b < 18446744073709551616) (h : rotl a n = rotl b n) : a = b := by
  have h1 : rotl (rotl a n) (64 - n) = rotl (rotl b n) (64 - n) := by rw [h]
  rwa [rotl_add, rotl_add, Nat.add_sub_cancel' hn, rotl_64 ha, rotl_64 hb] at h1

/-- The loops of a round, each so far as i steps go. -/
def trl : List Nat := [0, 1, 62, 28, 27, 36, 44, 6, 55, 20, 3, 10, 43, 25, 39, 41, 45, 15, 21, 8, 18, 2, 61, 56, 14]
def trn : Nat → Nat := nth trl
def rcs : List Nat := [0x0000000000000001, 0x0000000000008082, 0x800000000000808a, 0x8000000080008000, 0x000000000000808b, 0x0000000080000001, 0x8000000080008081, 0x8000000000008009, 0x000000000000008a, 0x0000000000000088, 0x0000000080008009, 0x000000008000000a, 0x000000008000808b, 0x800000000000008b, 0x8000000000008089, 0x8000000000008003, 0x8000000000008002, 0x8000000000000080, 0x000000000000800a, 0x800000008000000a, 0x8000000080008081, 0x8000000000008080, 0x0000000080000001, 0x8000000080008008]
def colN (a : List Nat) : Nat → List Nat
  | 0 => List.replicate 5 0
  | i + 1 => (colN a i).set (i % 5) (nth (colN a i) (i % 5) ^^^ nth a i)
def theta1 (a c : List Nat) (i : Nat) : Nat := nth a i ^^^ (nth c ((i % 5 + 4) % 5) ^^^ rotl (nth c ((i % 5 + 1) % 5)) 1)
def dst (i : Nat) : Nat := i / 5 + 5 * ((2 * (i % 5) + 3 * (i / 5)) % 5)
def movN (a c : List Nat) : Nat → List Nat
  | 0 => List.replicate 25 0
  | i + 1 => (movN a c i).set (dst i) (rotl (theta1 a c i) (trn i))
def chi1 (m : List Nat) (i : Nat) : Nat := nth m i ^^^ ((18446744073709551615 ^^^ nth m (i - i % 5 + (i % 5 + 1) % 5)) &&& nth m (i - i % 5 + (i % 5 + 2) % 5))
def chiN (a m : List Nat) : Nat → List Nat
  | 0 => a
  | i + 1 => (chiN a m i).set i (chi1 m i)
def roundS (a : List Nat) (rc : Nat) : List Nat :=
  let z := chiN a (movN a (colN a 25) 25) 25
  z.set 0 (nth z 0 ^^^ rc)
def permN (a : List Nat) : Nat → List Nat
  | 0 => a
  | i + 1 => roundS (permN a i) (nth rcs i)
theorem colN_length (a : List Nat) (i : Nat) : (colN a i).length = 5 := by induction i <;> simp_all [colN]
theorem movN_length (a c : List Nat) (i : Nat) : (movN a c i).length = 25 := by induction i <;> simp_all [movN]
theorem chiN_length (a m : List Nat) (i : Nat) : (chiN a m i).length = a.length := by induction i <;> simp_all [chiN]
theorem roundS_length (a : List Nat) (c : Nat) : (roundS a c).length = a.length := by simp [roundS, chiN_length]
theorem permN_length (a : List Nat) (i : Nat) : (permN a i).length = a.length := by induction i <;> simp_all [permN, roundS_length]
theorem colN_ok {a : List Nat} (oa : Ok a) (i : Nat) : Ok (colN a i) := by
  induction i with
  | zero => exact Ok.replicate 5
  | succ i ih => exact ih.set (xor_lt (ih.getD _) (oa.getD _)) _
theorem theta1_lt {a c : List Nat} (oa : Ok a) (oc : Ok c) (i : Nat) : theta1 a c i < 18446744073709551616 :=
  xor_lt (oa.getD _) (xor_lt (oc.getD _) (rotl_lt (oc.getD _) _))
theorem movN_ok {a c : List Nat} (oa : Ok a) (oc : Ok c) (i : Nat) : Ok (movN a c i) := by
  induction i with
  | zero => exact Ok.replicate 25
  | succ i ih => exact ih.set (rotl_lt (theta1_lt oa oc i) _) _
theorem chi1_lt {m : List Nat} (om : Ok m) (i : Nat) : chi1 m i < 18446744073709551616 := xor_lt (om.getD _) (and_lt (om.getD _))
theorem chiN_ok {a m : List Nat} (oa : Ok a) (om : Ok m) (i : Nat) : Ok (chiN a m i) := by
  induction i with
  | zero => exact oa
  | succ i ih => exact ih.set (chi1_lt om i) _
theorem roundS_ok {a : List Nat} (oa : Ok a) {rc : Nat} (h : rc < 18446744073709551616) : Ok (roundS a rc) := by
  have h1 := chiN_ok oa (movN_ok oa (colN_ok oa 25) 25) 25
  exact h1.set (xor_lt (h1.getD 0) h) 0
theorem rcs_ok : Ok rcs := by
  have h : rcs.all (fun x => decide (x < 18446744073709551616)) = true := by rfl
  intro x hx
  exact of_decide_eq_true (List.all_eq_true.1 h x hx)
theorem permN_ok {a : List Nat} (oa : Ok a) (i : Nat) : Ok (permN a i) := by
  induction i with
  | zero => exact oa
  | succ i ih => exact roundS_ok ih (rcs_ok.getD i)
theorem trl_lt (j : Nat) : nth trl j < 64 := by
  have h : trl.all (fun x => decide (x < 64)) = true := by rfl
  unfold nth
  rw [List.getD_eq_getElem?_getD]
  rcases Nat.lt_or_ge j trl.length with hk | hk
  · rw [List.getElem?_eq_getElem hk]; exact of_decide_eq_true (List.all_eq_true.1 h _ (List.getElem_mem hk))
  · rw [List.getElem?_eq_none hk]; decide
end Go.Proofs.Ytoocoobgidoceaa
