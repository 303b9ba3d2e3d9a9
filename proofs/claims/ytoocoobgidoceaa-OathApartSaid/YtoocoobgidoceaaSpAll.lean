import Derived.Test.YtoocoobgidoceaaNatAll
import Derived.KernelRfl
import Derived.Test.YtoocoobgidoceaaProg
import Derived.ArgAppend
import Derived.Laws.IdiomStrings
import Derived.Laws.BytesArg
import Derived.StillTailTactics
import Derived.Deep.WholeRow
import Derived.Laws.BitsAllLaws
import Derived.Laws.Tables
import Derived.Laws.CopyOwn
import Derived.Deep.RegionWith
namespace Go.Proofs.Ytoocoobgidoceaa

/-- A lane, turned to the left by one. -/
def r1 (x : Nat) : Nat := x * 2 % 18446744073709551616 + x / 9223372036854775808
def rotl (x : Nat) : Nat → Nat | 0 => x | n + 1 => r1 (rotl x n)
theorem r1_lt {x : Nat} (h : x < 18446744073709551616) : r1 x < 18446744073709551616 := by unfold r1; omega
theorem rotl_lt {x : Nat} (h : x < 18446744073709551616) (n : Nat) : rotl x n < 18446744073709551616 := by
  induction n with
  | zero => exact h
  | succ n ih => exact r1_lt ih
theorem rotl_add (x m n : Nat) : rotl (rotl x m) n = rotl x (m + n) := by
  induction n with
  | zero => rfl
  | succ n ih => show r1 _ = r1 _; rw [ih]; rfl
theorem rotl_aux {k : Nat} (hk : k ≤ 64) {x : Nat} (hx : x < 18446744073709551616) :
    rotl x k = x % 2 ^ (64 - k) * 2 ^ k + x / 2 ^ (64 - k) := by
  induction k with
  | zero => show x = _; rw [Nat.mod_eq_of_lt (by simpa using hx), Nat.div_eq_of_lt (by simpa using hx)]; simp
  | succ k ih =>
    obtain ⟨m, hm⟩ : ∃ m, 64 - (k + 1) = m := ⟨_, rfl⟩
    have hm1 : 64 - k = m + 1 := by omega
    have hpq : 2 ^ m * 2 ^ k = 9223372036854775808 := by rw [← Nat.pow_add, show m + k = 63 by omega]
    have hq := Nat.pow_pos (n := m) (a := 2) (by decide)
    have hp := Nat.pow_pos (n := k) (a := 2) (by decide)
    show r1 (rotl x k) = _
    rw [ih (by omega), hm, hm1, Nat.pow_succ, Nat.pow_succ]
    generalize 2 ^ m = Q at *
    generalize 2 ^ k = P at *
    have h1 : x / (Q * 2) = x / Q / 2 := by rw [Nat.div_div_eq_div_mul]
    have h2 : x % (Q * 2) = x / Q % 2 * Q + x % Q := by
      rw [Nat.mod_mul, Nat.add_comm, Nat.mul_comm]
    have hu : x / Q < 2 * P := by
      rw [Nat.div_lt_iff_lt_mul hq, Nat.mul_assoc, Nat.mul_comm P, hpq]; omega
    have hl : x % Q * P + P ≤ 9223372036854775808 := by
      rw [← hpq, ← Nat.succ_mul]; exact Nat.mul_le_mul_right _ (Nat.mod_lt _ hq)
    rw [h1, h2, Nat.add_mul, Nat.mul_assoc, hpq, ← Nat.mul_assoc]
    generalize x / Q = u at *
    generalize x % Q * P = l at *
    unfold r1
    omega
theorem mul_mod_pow {k : Nat} (hk : k ≤ 64) (x : Nat) : x * 2 ^ k % 18446744073709551616 = x % 2 ^ (64 - k) * 2 ^ k := by
  have h : (18446744073709551616 : Nat) = 2 ^ (64 - k) * 2 ^ k := by rw [← Nat.pow_add, Nat.sub_add_cancel hk]
  rw [h, Nat.mul_mod_mul_right]
theorem rotl_shift {k : Nat} (hk : k ≤ 64) {x : Nat} (hx : x < 18446744073709551616) :
    x * 2 ^ k % 18446744073709551616 ||| x / 2 ^ (64 - k) = rotl x k := by
  rw [rotl_aux hk hx, mul_mod_pow hk, Nat.mul_comm _ (2 ^ k), ← Nat.two_pow_add_eq_or_of_lt]
  rw [Nat.div_lt_iff_lt_mul (Nat.pow_pos (by decide)), ← Nat.pow_add, Nat.add_sub_cancel' hk]
  exact hx
theorem rotl_64 {x : Nat} (hx : x < 18446744073709551616) : rotl x 64 = x := by
  rw [rotl_aux (Nat.le_refl _) hx]; simp [Nat.mod_one]
theorem tb_r1 {x : Nat} (hx : x < 18446744073709551616) (i : Nat) : (r1 x).testBit i = if i = 0 then x.testBit 63 else (decide (i < 64) && x.testBit (i - 1)) := by
  have h1 : r1 x = x % 9223372036854775808 * 2 + x / 9223372036854775808 := by unfold r1; omega
  have h2 : x / 9223372036854775808 < 2 := by omega
  cases i with
  | zero =>
    have h4 : (r1 x % 2 = 1) = (x / 2 ^ 63 % 2 = 1) := by
      have : (2 : Nat) ^ 63 = 9223372036854775808 := rfl
      rw [this, h1, Nat.add_comm, Nat.add_mul_mod_self_right]
    rw [if_pos rfl, Nat.testBit_zero, Nat.testBit_eq_decide_div_mod_eq]
    simp only [h4]
  | succ i =>
    have h3 : r1 x / 2 = x % 2 ^ 63 := by
      have : (2 : Nat) ^ 63 = 9223372036854775808 := rfl
      rw [this, h1]
      omega
    have h5 : decide (i < 63) = decide (i + 1 < 64) := decide_eq_decide.2 (by omega)
    have h6 : i + 1 - 1 = i := by omega
    rw [if_neg (by omega), Nat.testBit_succ, h3, Nat.testBit_mod_two_pow, h5, h6]
theorem xor_lt {a b : Nat} (ha : a < 18446744073709551616) (hb : b < 18446744073709551616) : a ^^^ b < 18446744073709551616 := Nat.xor_lt_two_pow (n := 64) ha hb
theorem and_lt {a b : Nat} (hb : b < 18446744073709551616) : a &&& b < 18446744073709551616 := Nat.lt_of_le_of_lt Nat.and_le_right hb
theorem r1_xor {a b : Nat} (ha : a < 18446744073709551616) (hb : b < 18446744073709551616) : r1 (a ^^^ b) = r1 a ^^^ r1 b := by
  apply Nat.eq_of_testBit_eq
  intro i
  rw [Nat.testBit_xor, tb_r1 (xor_lt ha hb), tb_r1 ha, tb_r1 hb]
  cases i with
  | zero => simp
  | succ i => simp only [Nat.testBit_xor]; cases decide (i + 1 < 64) <;> simp
theorem rotl_xor {a b : Nat} (ha : a < 18446744073709551616) (hb : b < 18446744073709551616) (n : Nat) : rotl (a ^^^ b) n = rotl a n ^^^ rotl b n := by
  induction n with
  | zero => rfl
  | succ n ih => show r1 _ = r1 _ ^^^ r1 _; rw [ih, r1_xor (rotl_lt ha n) (rotl_lt hb n)]
theorem rotl_inj {a b n : Nat} (hn : n ≤ 64) (ha : a < 18446744073709551616) (hb : b < 18446744073709551616) (h : rotl a n = rotl b n) : a = b := by
  have h1 : rotl (rotl a n) (64 - n) = rotl (rotl b n) (64 - n) := by rw [h]
  rwa [rotl_add, rotl_add, Nat.add_sub_cancel' hn, rotl_64 ha, rotl_64 hb] at h1

/-- The loops of a round, each so far as i steps go. -/
def trl : List Nat := [0, 1, 62, 28, 27, 36, 44, 6, 55, 20, 3, 10, 43, 25, 39, 41, 45, 15, 21, 8, 18, 2, 61, 56, 14]
def trn : Nat → Nat := nth trl
def rcs : List Nat := [0x0000000000000001, 0x0000000000008082, 0x800000000000808a, 0x8000000080008000, 0x000000000000808b, 0x0000000080000001, 0x8000000080008081, 0x8000000000008009, 0x000000000000008a, 0x0000000000000088, 0x0000000080008009, 0x000000008000000a, 0x000000008000808b, 0x800000000000008b, 0x8000000000008089, 0x8000000000008003, 0x8000000000008002, 0x8000000000000080, 0x000000000000800a, 0x800000008000000a, 0x8000000080008081, 0x8000000000008080, 0x0000000080000001, 0x8000000080008008]
def colN (a : List Nat) : Nat → List Nat
  | 0 => List.replicate 5 0
  | i + 1 => (colN a i).set (i % 5) (nth (colN a i) (i % 5) ^^^ nth a i)
def theta1 (a c : List Nat) (i : Nat) : Nat := nth a i ^^^ (nth c ((i % 5 + 4) % 5) ^^^ rotl (nth c ((i % 5 + 1) % 5)) 1)
def dst (i : Nat) : Nat := i / 5 + 5 * ((2 * (i % 5) + 3 * (i / 5)) % 5)
def movN (a c : List Nat) : Nat → List Nat
  | 0 => List.replicate 25 0
  | i + 1 => (movN a c i).set (dst i) (rotl (theta1 a c i) (trn i))
def chi1 (m : List Nat) (i : Nat) : Nat := nth m i ^^^ ((18446744073709551615 ^^^ nth m (i - i % 5 + (i % 5 + 1) % 5)) &&& nth m (i - i % 5 + (i % 5 + 2) % 5))
def chiN (a m : List Nat) : Nat → List Nat
  | 0 => a
  | i + 1 => (chiN a m i).set i (chi1 m i)
def roundS (a : List Nat) (rc : Nat) : List Nat :=
  let z := chiN a (movN a (colN a 25) 25) 25
  z.set 0 (nth z 0 ^^^ rc)
def permN (a : List Nat) : Nat → List Nat
  | 0 => a
  | i + 1 => roundS (permN a i) (nth rcs i)
theorem colN_length (a : List Nat) (i : Nat) : (colN a i).length = 5 := by induction i <;> simp_all [colN]
theorem movN_length (a c : List Nat) (i : Nat) : (movN a c i).length = 25 := by induction i <;> simp_all [movN]
theorem chiN_length (a m : List Nat) (i : Nat) : (chiN a m i).length = a.length := by induction i <;> simp_all [chiN]
theorem roundS_length (a : List Nat) (c : Nat) : (roundS a c).length = a.length := by simp [roundS, chiN_length]
theorem permN_length (a : List Nat) (i : Nat) : (permN a i).length = a.length := by induction i <;> simp_all [permN, roundS_length]
theorem colN_ok {a : List Nat} (oa : Ok a) (i : Nat) : Ok (colN a i) := by
  induction i with
  | zero => exact Ok.replicate 5
  | succ i ih => exact ih.set (xor_lt (ih.getD _) (oa.getD _)) _
theorem theta1_lt {a c : List Nat} (oa : Ok a) (oc : Ok c) (i : Nat) : theta1 a c i < 18446744073709551616 :=
  xor_lt (oa.getD _) (xor_lt (oc.getD _) (rotl_lt (oc.getD _) _))
theorem movN_ok {a c : List Nat} (oa : Ok a) (oc : Ok c) (i : Nat) : Ok (movN a c i) := by
  induction i with
  | zero => exact Ok.replicate 25
  | succ i ih => exact ih.set (rotl_lt (theta1_lt oa oc i) _) _
theorem chi1_lt {m : List Nat} (om : Ok m) (i : Nat) : chi1 m i < 18446744073709551616 := xor_lt (om.getD _) (and_lt (om.getD _))
theorem chiN_ok {a m : List Nat} (oa : Ok a) (om : Ok m) (i : Nat) : Ok (chiN a m i) := by
  induction i with
  | zero => exact oa
  | succ i ih => exact ih.set (chi1_lt om i) _
theorem roundS_ok {a : List Nat} (oa : Ok a) {rc : Nat} (h : rc < 18446744073709551616) : Ok (roundS a rc) := by
  have h1 := chiN_ok oa (movN_ok oa (colN_ok oa 25) 25) 25
  exact h1.set (xor_lt (h1.getD 0) h) 0
theorem rcs_ok : Ok rcs := by
  have h : rcs.all (fun x => decide (x < 18446744073709551616)) = true := by rfl
  intro x hx
  exact of_decide_eq_true (List.all_eq_true.1 h x hx)
theorem permN_ok {a : List Nat} (oa : Ok a) (i : Nat) : Ok (permN a i) := by
  induction i with
  | zero => exact oa
  | succ i ih => exact roundS_ok ih (rcs_ok.getD i)
theorem trl_lt (j : Nat) : nth trl j < 64 := by
  have h : trl.all (fun x => decide (x < 64)) = true := by rfl
  unfold nth
  rw [List.getD_eq_getElem?_getD]
  rcases Nat.lt_or_ge j trl.length with hk | hk
  · rw [List.getElem?_eq_getElem hk]; exact of_decide_eq_true (List.all_eq_true.1 h _ (List.getElem_mem hk))
  · rw [List.getElem?_eq_none hk]; decide
end Go.Proofs.Ytoocoobgidoceaa
namespace Go.Proofs.Ytoocoobgidoceaa

/-- What the document's answer reckons, step by step; coordinates are handed over with 5 added. -/
def laneN (p q : Nat) : Nat := p % 5 + 5 * (q % 5)
theorem laneN_lt (p q : Nat) : laneN p q < 25 := by unfold laneN; omega
def oneC (a : List Nat) (p : Nat) : Nat → Nat
  | 0 => 0
  | y + 1 => oneC a p y ^^^ nth a (laneN p (y + 5))
def oneV (a : List Nat) (x c d y : Nat) : Nat := nth a (laneN (x + 5) (y + 5)) ^^^ (c ^^^ rotl d 1)
def oneO (a out : List Nat) (x c d : Nat) : Nat → List Nat
  | 0 => out
  | y + 1 => (oneO a out x c d y).set (laneN (x + 5) (y + 5)) (oneV a x c d y)
def oneX (a : List Nat) : Nat → List Nat
  | 0 => a
  | x + 1 => oneO a (oneX a x) x (oneC a (x + 4) 5) (oneC a (x + 6) 5) 5
structure TwoS where
  l : List Nat
  x : Nat
  y : Nat
  held : Nat
def twoT (a : List Nat) : Nat → TwoS
  | 0 => ⟨a, 1, 0, nth a (laneN 6 5)⟩
  | t + 1 => ⟨(twoT a t).l.set (laneN ((twoT a t).y + 5) (2 * (twoT a t).x + 3 * (twoT a t).y + 5)) (rotl (twoT a t).held ((t + 1) * (t + 2) / 2 % 64)), (twoT a t).y, (2 * (twoT a t).x + 3 * (twoT a t).y) % 5,
    nth (twoT a t).l (laneN ((twoT a t).y + 5) (2 * (twoT a t).x + 3 * (twoT a t).y + 5))⟩
def thrV (a : List Nat) (x y : Nat) : Nat := nth a (laneN (x + 5) (y + 5)) ^^^ ((18446744073709551615 ^^^ nth a (laneN (x + 6) (y + 5))) &&& nth a (laneN (x + 7) (y + 5)))
def thrY (a out : List Nat) (x : Nat) : Nat → List Nat
  | 0 => out
  | y + 1 => (thrY a out x y).set (laneN (x + 5) (y + 5)) (thrV a x y)
def thrX (a : List Nat) : Nat → List Nat
  | 0 => a
  | x + 1 => thrY a (thrX a x) x 5
def regS (r : Nat) : Nat := if 255 < r * 2 then (r * 2 - 256) ^^^ 113 else r * 2
def regN (r : Nat) : Nat → Nat
  | 0 => r
  | j + 1 => regS (regN r j)
def iotL (a : List Nat) (r : Nat) : Nat → List Nat
  | 0 => a
  | j + 1 => if regN r j % 2 = 1 then (iotL a r j).set 0 (nth (iotL a r j) 0 ^^^ 2 ^ (2 ^ j - 1)) else iotL a r j
def prmR : Nat → Nat
  | 0 => 1
  | i + 1 => regN (prmR i) 7
def lin3 (a : List Nat) : List Nat := thrX (twoT (oneX a 5) 24).l 5
def prmL (a : List Nat) : Nat → List Nat
  | 0 => a
  | i + 1 => iotL (lin3 (prmL a i)) (prmR i) 7

theorem oneC_lt {a : List Nat} (oa : Ok a) (p y : Nat) : oneC a p y < 18446744073709551616 := by
  induction y with
  | zero => show (0 : Nat) < _; decide
  | succ y ih => exact xor_lt ih (oa.getD _)
theorem oneV_lt {a : List Nat} (oa : Ok a) {x c d y : Nat} (hc : c < 18446744073709551616) (hd : d < 18446744073709551616) : oneV a x c d y < 18446744073709551616 := xor_lt (oa.getD _) (xor_lt hc (rotl_lt hd _))
theorem oneO_length (a out : List Nat) (x c d y : Nat) : (oneO a out x c d y).length = out.length := by induction y <;> simp_all [oneO]
theorem oneX_length (a : List Nat) (x : Nat) : (oneX a x).length = a.length := by induction x <;> simp_all [oneX, oneO_length]
theorem oneO_ok {a out : List Nat} (oa : Ok a) (oo : Ok out) {x c d : Nat} (hc : c < 18446744073709551616) (hd : d < 18446744073709551616) (y : Nat) : Ok (oneO a out x c d y) := by
  induction y with
  | zero => exact oo
  | succ y ih => exact ih.set (oneV_lt oa hc hd) _
theorem oneX_ok {a : List Nat} (oa : Ok a) (x : Nat) : Ok (oneX a x) := by
  induction x with
  | zero => exact oa
  | succ x ih => exact oneO_ok oa ih (oneC_lt oa _ _) (oneC_lt oa _ _) _
theorem twoT_length (a : List Nat) (t : Nat) : (twoT a t).l.length = a.length := by induction t <;> simp_all [twoT]
theorem twoT_xy (a : List Nat) (t : Nat) : (twoT a t).x < 5 ∧ (twoT a t).y < 5 := by
  induction t with
  | zero => exact ⟨(by decide : (1:Nat) < 5), (by decide : (0:Nat) < 5)⟩
  | succ t ih => exact ⟨ih.2, Nat.mod_lt _ (by decide)⟩
theorem twoT_ok {a : List Nat} (oa : Ok a) (t : Nat) : Ok (twoT a t).l ∧ (twoT a t).held < 18446744073709551616 := by
  induction t with
  | zero => exact ⟨oa, oa.getD _⟩
  | succ t ih => exact ⟨ih.1.set (rotl_lt ih.2 _) _, ih.1.getD _⟩
theorem thrV_lt {a : List Nat} (oa : Ok a) (x y : Nat) : thrV a x y < 18446744073709551616 := xor_lt (oa.getD _) (and_lt (oa.getD _))
theorem thrY_length (a out : List Nat) (x y : Nat) : (thrY a out x y).length = out.length := by induction y <;> simp_all [thrY]
theorem thrX_length (a : List Nat) (x : Nat) : (thrX a x).length = a.length := by induction x <;> simp_all [thrX, thrY_length]
theorem thrY_ok {a out : List Nat} (oa : Ok a) (oo : Ok out) (x y : Nat) : Ok (thrY a out x y) := by
  induction y with
  | zero => exact oo
  | succ y ih => exact ih.set (thrV_lt oa _ _) _
theorem thrX_ok {a : List Nat} (oa : Ok a) (x : Nat) : Ok (thrX a x) := by
  induction x with
  | zero => exact oa
  | succ x ih => exact thrY_ok oa ih _ _
theorem regS_lt {r : Nat} (h : r < 256) : regS r < 256 := by
  unfold regS
  split
  · exact Nat.xor_lt_two_pow (n := 8) (by omega) (by decide)
  · omega
theorem regN_lt {r : Nat} (h : r < 256) (j : Nat) : regN r j < 256 := by
  induction j with
  | zero => exact h
  | succ j ih => exact regS_lt ih
theorem prmR_lt (i : Nat) : prmR i < 256 := by
  induction i with
  | zero => show (1 : Nat) < 256; decide
  | succ i ih => exact regN_lt ih 7
theorem pow_pow_lt {j : Nat} (h : j < 7) : 2 ^ (2 ^ j - 1) < 18446744073709551616 := by
  have : j = 0 ∨ j = 1 ∨ j = 2 ∨ j = 3 ∨ j = 4 ∨ j = 5 ∨ j = 6 := by omega
  rcases this with rfl | rfl | rfl | rfl | rfl | rfl | rfl <;> decide
theorem iotL_length (a : List Nat) (r j : Nat) : (iotL a r j).length = a.length := by
  induction j with
  | zero => rfl
  | succ j ih => unfold iotL; split <;> simp [ih]
theorem iotL_ok {a : List Nat} (oa : Ok a) (r : Nat) {j : Nat} (hj : j ≤ 7) : Ok (iotL a r j) := by
  induction j with
  | zero => exact oa
  | succ j ih =>
    have := ih (by omega)
    unfold iotL
    split
    · exact this.set (xor_lt (this.getD _) (pow_pow_lt (by omega))) _
    · exact this
theorem lin3_length (a : List Nat) : (lin3 a).length = a.length := by simp [lin3, thrX_length, twoT_length, oneX_length]
theorem lin3_ok {a : List Nat} (oa : Ok a) : Ok (lin3 a) := thrX_ok (twoT_ok (oneX_ok oa 5) 24).1 5
theorem prmL_length (a : List Nat) (i : Nat) : (prmL a i).length = a.length := by induction i <;> simp_all [prmL, iotL_length, lin3_length]
theorem prmL_ok {a : List Nat} (oa : Ok a) (i : Nat) : Ok (prmL a i) := by
  induction i with
  | zero => exact oa
  | succ i ih => exact iotL_ok (lin3_ok ih) _ (Nat.le_refl _)

/-! The plain law: both reckon the same. -/
def thetas (a : List Nat) : List Nat := (List.range 25).map (theta1 a (colN a 25))
theorem list25 {l : List Nat} (h : l.length = 25) : ∃ a0 a1 a2 a3 a4 a5 a6 a7 a8 a9 a10 a11 a12 a13 a14 a15 a16 a17 a18 a19 a20 a21 a22 a23 a24, l = [a0, a1, a2, a3, a4, a5, a6, a7, a8, a9, a10, a11, a12, a13, a14, a15, a16, a17, a18, a19, a20, a21, a22, a23, a24] := by
  match l, h with
  | [a0, a1, a2, a3, a4, a5, a6, a7, a8, a9, a10, a11, a12, a13, a14, a15, a16, a17, a18, a19, a20, a21, a22, a23, a24], _ => exact ⟨_, _, _, _, _, _, _, _, _, _, _, _, _, _, _, _, _, _, _, _, _, _, _, _, _, rfl⟩
def movV (b : List Nat) : Nat → List Nat
  | 0 => List.replicate 25 0
  | i + 1 => (movV b i).set (dst i) (rotl (nth b i) (trn i))
theorem one_theta {a : List Nat} (h : a.length = 25) : oneX a 5 = thetas a := by
  obtain ⟨a0, a1, a2, a3, a4, a5, a6, a7, a8, a9, a10, a11, a12, a13, a14, a15, a16, a17, a18, a19, a20, a21, a22, a23, a24, rfl⟩ := list25 h
  kernel_rfl
theorem two_mov {b : List Nat} (h : b.length = 25) : (twoT b 24).l = movV b 25 := by
  obtain ⟨a0, a1, a2, a3, a4, a5, a6, a7, a8, a9, a10, a11, a12, a13, a14, a15, a16, a17, a18, a19, a20, a21, a22, a23, a24, rfl⟩ := list25 h
  kernel_rfl
theorem thr_chi {m z : List Nat} (h : m.length = 25) (hz : z.length = 25) : thrX m 5 = chiN z m 25 := by
  obtain ⟨a0, a1, a2, a3, a4, a5, a6, a7, a8, a9, a10, a11, a12, a13, a14, a15, a16, a17, a18, a19, a20, a21, a22, a23, a24, rfl⟩ := list25 h
  obtain ⟨b0, b1, b2, b3, b4, b5, b6, b7, b8, b9, b10, b11, b12, b13, b14, b15, b16, b17, b18, b19, b20, b21, b22, b23, b24, rfl⟩ := list25 hz
  kernel_rfl
theorem nth_thetas (a : List Nat) {i : Nat} (h : i < 25) : nth (thetas a) i = theta1 a (colN a 25) i := by
  unfold nth thetas
  rw [List.getD_eq_getElem?_getD, List.getElem?_map, List.getElem?_range h]
  rfl
theorem mov_thetas (a : List Nat) : ∀ i, i ≤ 25 → movV (thetas a) i = movN a (colN a 25) i
  | 0, _ => rfl
  | i + 1, h => by rw [movV, movN, mov_thetas a i (by omega), nth_thetas a (by omega)]
theorem lin3_eq {a : List Nat} (h : a.length = 25) : lin3 a = chiN a (movN a (colN a 25) 25) 25 := by
  have h1 : (thetas a).length = 25 := by simp [thetas]
  rw [lin3, one_theta h, two_mov h1, mov_thetas a 25 (Nat.le_refl _), thr_chi (movN_length _ _ _) h]
/-- The bits of a round's number. -/
def accN (r : Nat) : Nat → Nat
  | 0 => 0
  | j + 1 => if regN r j % 2 = 1 then accN r j ^^^ 2 ^ (2 ^ j - 1) else accN r j
theorem iotL_acc {a : List Nat} (h : 0 < a.length) (r j : Nat) : iotL a r j = a.set 0 (nth a 0 ^^^ accN r j) := by
  induction j with
  | zero =>
    show a = a.set 0 (nth a 0 ^^^ 0)
    rw [Nat.xor_zero]
    cases a with
    | nil => rfl
    | cons x l => rfl
  | succ j ih =>
    unfold iotL accN
    rw [ih]
    split
    · cases a with
      | nil => exact absurd h (by simp)
      | cons x l => show ((x ^^^ accN r j) ^^^ 2 ^ (2 ^ j - 1)) :: l = (x ^^^ (accN r j ^^^ 2 ^ (2 ^ j - 1))) :: l; rw [Nat.xor_assoc]
    · rfl
theorem accs : ∀ i, i < 24 → accN (prmR i) 7 = nth rcs i := by decide
theorem perm_same {a : List Nat} (h : a.length = 25) : ∀ i, i ≤ 24 → prmL a i = permN a i
  | 0, _ => rfl
  | i + 1, hi => by
    have ih := perm_same h i (by omega)
    have hl : (permN a i).length = 25 := by rw [permN_length, h]
    have hl3 : (lin3 (permN a i)).length = 25 := by rw [lin3_length, hl]
    rw [prmL, ih, iotL_acc (by omega), accs i (by omega), permN, roundS, lin3_eq hl]
end Go.Proofs.Ytoocoobgidoceaa
namespace Go.Proofs.Ytoocoobgidoceaa

/-- What a digest is reckoned by, step by step. -/
def padK (n : Nat) : Nat := (136 - (n + 1) % 136) % 136
def padX (bs : List Nat) (k : Nat) : List Nat := bs ++ [1] ++ List.replicate k 0
def padL (bs : List Nat) : List Nat := padX bs (padK bs.length)
def padF (bs : List Nat) : List Nat := (padL bs).set ((padL bs).length - 1) (nth (padL bs) ((padL bs).length - 1) + 128)
def absP (a blk : List Nat) : Nat → List Nat
  | 0 => a
  | i + 1 => (absP a blk i).set (i / 8) (nth (absP a blk i) (i / 8) ^^^ nth blk i * 2 ^ (8 * (i % 8)))
def spN (p : List Nat) : Nat → List Nat
  | 0 => List.replicate 25 0
  | k + 1 => permN (absP (spN p k) (p.drop (136 * k)) 136) 24
def sqz1 (a : List Nat) (i : Nat) : Nat := nth a (i / 8) / 2 ^ (8 * (i % 8)) % 256
def sqzN (a : List Nat) : Nat → List Nat
  | 0 => List.replicate 32 0
  | i + 1 => (sqzN a i).set i (sqz1 a i)
def Byt (l : List Nat) : Prop := ∀ x ∈ l, x < 256
theorem Byt.getD {l : List Nat} (h : Byt l) (k : Nat) : nth l k < 256 := by
  unfold nth
  rw [List.getD_eq_getElem?_getD]
  rcases Nat.lt_or_ge k l.length with hk | hk
  · rw [List.getElem?_eq_getElem hk]; exact h _ (List.getElem_mem hk)
  · rw [List.getElem?_eq_none hk]; decide
theorem Byt.set {l : List Nat} (h : Byt l) {x : Nat} (hx : x < 256) (k : Nat) : Byt (l.set k x) := by
  intro y hy
  rcases List.mem_or_eq_of_mem_set hy with hy | rfl
  · exact h y hy
  · exact hx
theorem Byt.drop {l : List Nat} (h : Byt l) (k : Nat) : Byt (l.drop k) := fun y hy => h y (List.mem_of_mem_drop hy)
theorem padX_length (bs : List Nat) (k : Nat) : (padX bs k).length = bs.length + 1 + k := by simp [padX]; omega
theorem padX_succ (bs : List Nat) (k : Nat) : padX bs (k + 1) = padX bs k ++ [0] := by simp [padX, List.replicate_succ']
theorem padX_byt {bs : List Nat} (h : Byt bs) (k : Nat) : Byt (padX bs k) := by
  intro y hy
  simp only [padX, List.mem_append, List.mem_singleton, List.mem_replicate] at hy
  rcases hy with (hy | rfl) | ⟨_, rfl⟩
  · exact h y hy
  · decide
  · decide
theorem padK_zero {n k : Nat} (h : k ≤ padK n) : (n + 1 + k) % 136 = 0 ↔ k = padK n := by
  unfold padK at *
  omega
theorem padL_length (bs : List Nat) : (padL bs).length = bs.length + 1 + padK bs.length := padX_length _ _
theorem padL_mod (bs : List Nat) : (padL bs).length % 136 = 0 := by
  rw [padL_length]
  exact (padK_zero (Nat.le_refl _)).2 rfl
theorem padF_length (bs : List Nat) : (padF bs).length = (padL bs).length := by simp [padF]
theorem padL_last (bs : List Nat) : nth (padL bs) ((padL bs).length - 1) = 0 ∨ nth (padL bs) ((padL bs).length - 1) = 1 := by
  rw [padL_length]
  unfold padL padX nth
  rw [List.getD_eq_getElem?_getD]
  rcases hk : padK bs.length with _ | k
  · right
    simp
  · left
    rw [List.getElem?_append_right (by simp)]
    simp
theorem padL_byt {bs : List Nat} (h : Byt bs) : Byt (padL bs) := padX_byt h _
theorem padF_byt {bs : List Nat} (h : Byt bs) : Byt (padF bs) := by
  refine (padL_byt h).set ?_ _
  rcases padL_last bs with e | e <;> rw [e] <;> decide
theorem absP_length (a blk : List Nat) (i : Nat) : (absP a blk i).length = a.length := by induction i <;> simp_all [absP]
theorem byte_shift_lt {x : Nat} (h : x < 256) (i : Nat) : x * 2 ^ (8 * (i % 8)) < 18446744073709551616 := by
  have h1 : 2 ^ (8 * (i % 8)) ≤ 2 ^ 56 := Nat.pow_le_pow_right (by decide) (by omega)
  calc x * 2 ^ (8 * (i % 8)) ≤ 255 * 2 ^ 56 := Nat.mul_le_mul (by omega) h1
    _ < 18446744073709551616 := by decide
theorem absP_ok {a blk : List Nat} (oa : Ok a) (ob : Byt blk) (i : Nat) : Ok (absP a blk i) := by
  induction i with
  | zero => exact oa
  | succ i ih => exact ih.set (xor_lt (ih.getD _) (byte_shift_lt (ob.getD _) _)) _
theorem spN_length (p : List Nat) (k : Nat) : (spN p k).length = 25 := by
  induction k with
  | zero => simp [spN]
  | succ k ih => rw [spN, permN_length, absP_length, ih]
theorem spN_ok {p : List Nat} (h : Byt p) (k : Nat) : Ok (spN p k) := by
  induction k with
  | zero => exact Ok.replicate 25
  | succ k ih => exact permN_ok (absP_ok ih (h.drop _) _) _
theorem sqzN_length (a : List Nat) (i : Nat) : (sqzN a i).length = 32 := by induction i <;> simp_all [sqzN]
theorem sqzN_byt (a : List Nat) (i : Nat) : Byt (sqzN a i) := by
  induction i with
  | zero => intro y hy; rw [sqzN, List.mem_replicate] at hy; omega
  | succ i ih => exact ih.set (Nat.mod_lt _ (by decide)) _
def digN (bs : List Nat) : List Nat := sqzN (spN (padF bs) ((padF bs).length / 136)) 32
end Go.Proofs.Ytoocoobgidoceaa
namespace Go.Proofs.Ytoocoobgidoceaa
open Go.RowKit
set_option linter.unusedVariables false

/-- A slice of bytes that the call owns: block g, from its cell 0 on; its cells up to cap are there and may be written. -/
structure Buf (w : World) (B g cap : Nat) (xs : List Nat) : Prop where
  base : B ≤ g
  lt : g < w.heap.size
  fit : xs.length ≤ cap
  cell : ∀ j, j < xs.length → w.cell? ⟨g, j, none⟩ = some (.int .u8 (nth xs j : Nat))
  spare : ∀ j, j < cap → (w.cell? ⟨g, j, none⟩).isSome = true ∧ w.frozen? ⟨g, j, none⟩ = false
def bytesN (s : ByteArray) : List Nat := s.data.toList.map (·.toNat)
theorem bytesN_length (s : ByteArray) : (bytesN s).length = s.size := by unfold bytesN; rw [List.length_map, Array.length_toList]; rfl

section
variable {P : Program} {w w' : World} {B g cap : Nat} {xs : List Nat}
theorem Buf.same (h : Buf w B g cap xs) (hk : w'.heap[g]? = w.heap[g]?) : Buf w' B g cap xs where
  base := h.base
  lt := by
    have h1 : w.heap[g]? = some (w.heap[g]'h.lt) := Array.getElem?_eq_getElem h.lt
    rw [h1] at hk
    exact (Array.getElem?_eq_some_iff.1 hk).1
  fit := h.fit
  cell := fun j hj => (World.cell?_of_block (a := ⟨g, j, none⟩) hk).trans (h.cell j hj)
  spare := fun j hj => by rw [World.cell?_of_block (a := ⟨g, j, none⟩) hk, World.frozen?_of_block (a := ⟨g, j, none⟩) hk]; exact h.spare j hj
theorem Buf.bel (h : Buf w B g cap xs) (hb : Below w.heap.size w w') : Buf w' B g cap xs := h.same (hb.block g h.lt)
theorem Buf.far (h : Buf w B g cap xs) {p : Addr} (hp : g ≠ p.block) (u : Value) : Buf (w.setCell p u) B g cap xs := h.same (Below.heap_setCell w p u g hp)
theorem Buf.alloc (h : Buf w B g cap xs) (o : Obj) : Buf (w.alloc o) B g cap xs := h.same (Below.heap_alloc w o g h.lt)
theorem nth_set2 (l : List Nat) (i x j : Nat) (h : i < l.length) : nth (l.set i x) j = if j = i then x else nth l j := by
  unfold nth
  rw [List.getD_eq_getElem?_getD, List.getD_eq_getElem?_getD, List.getElem?_set]
  by_cases e : i = j
  · subst e; simp [h]
  · rw [if_neg e, if_neg (fun k => e k.symm)]
theorem nth_append_one (l : List Nat) (x j : Nat) (h : j < l.length + 1) : nth (l ++ [x]) j = if j = l.length then x else nth l j := by
  unfold nth
  rw [List.getD_eq_getElem?_getD, List.getD_eq_getElem?_getD]
  by_cases e : j = l.length
  · subst e; simp
  · rw [if_neg e, List.getElem?_append_left (by omega)]
theorem Buf.set (h : Buf w B g cap xs) {i : Nat} (hi : i < xs.length) (x : Nat) : Buf (w.setCell ⟨g, i, none⟩ (.int .u8 (x : Int))) B g cap (xs.set i x) where
  base := h.base
  lt := by rw [World.size_setCell]; exact h.lt
  fit := by rw [List.length_set]; exact h.fit
  cell := fun j hj => by
    rw [List.length_set] at hj
    rw [nth_set2 _ _ _ _ hi]
    by_cases e : j = i
    · subst e
      rw [if_pos rfl]
      exact World.cell?_setCell_same' _ _ _ (h.spare j (Nat.lt_of_lt_of_le hj h.fit)).1
    · rw [if_neg e, World.cell?_setCell_other _ _ _ _ (by intro k; exact e (by injection k with k1 k2; exact k2.symm))]
      exact h.cell j hj
  spare := fun j hj => by
    rw [World.frozen?_setCell]
    refine ⟨?_, (h.spare j hj).2⟩
    by_cases e : j = i
    · subst e
      rw [World.cell?_setCell_same' _ _ _ (h.spare j hj).1]; rfl
    · rw [World.cell?_setCell_other _ _ _ _ (by intro k; exact e (by injection k with k1 k2; exact k2.symm))]
      exact (h.spare j hj).1
/-- A block of bytes just made. -/
theorem Buf.of_cells {cur : Array Value} {e : TypeId} {fz : Nat × Nat} (hg : w.heap[g]? = some (.cells cur e fz)) (hB : B ≤ g) (hfz : fz = (0, 0) ∨ cur.size ≤ fz.1) (hfit : xs.length ≤ cap) (hcap : cap ≤ cur.size)
    (hc : ∀ j, j < xs.length → cur[j]? = some (.int .u8 (nth xs j : Nat))) : Buf w B g cap xs where
  base := hB
  lt := (Array.getElem?_eq_some_iff.1 hg).1
  fit := hfit
  cell := fun j hj => (cell_of_row w g j cur e fz hg).trans (hc j hj)
  spare := fun j hj => by
    refine ⟨?_, ?_⟩
    · rw [cell_of_row w g j cur e fz hg, Array.getElem?_eq_getElem (by omega)]; rfl
    · unfold World.frozen?
      simp only [hg]
      rcases hfz with rfl | hfz
      · simp
      · simp; intro; omega
theorem wpList_buf_append {ops : Array Oper} {rest : List Oper} {o : Oper} {a : Act} {Q : Exit → Act → World → Prop} (hb : Buf w B g cap xs)
    (hgd : o.guard = none) (s x : Operand) (t : TypeId) (hop : o.op = Op.call { callee := Callee.builtin Builtin.append, args := #[s, x], argTypes := #[t, t] })
    (e : TypeId) (h1 : P.underlying t = some (.slice e)) (hinf : (P.info? e).map (fun i => (i.zero, i.size, i.bytes)) = some (some (.int .u8 0), 1, 1))
    (n : Nat) (hn : xs.length = n) (hs : a.eval s = .slice (some ⟨g, 0, none⟩) n cap) (ad : Addr) (c y : Nat) (hx : a.eval x = .slice (some ad) 1 c) (hc : w.cell? ad = some (.int .u8 (y : Int))) (hBw : B ≤ w.heap.size) (hlen : n < 1000000)
    (h : ∀ g' cap' w', Buf w' B g' cap' (xs ++ [y]) → Below B w w' → (∀ k, k < w.heap.size → k ≠ g → w'.heap[k]? = w.heap[k]?) → w.heap.size ≤ w'.heap.size → (g' = g ∨ w.heap.size ≤ g') →
      wpList P ops Q rest (a.put o.dst (.slice (some ⟨g', 0, none⟩) (n + 1) cap')) w') : wpList P ops Q (o :: rest) a w := by
  subst hn
  obtain ⟨i, h2, h345⟩ := Option.map_eq_some_iff.1 hinf
  have h3 : i.zero = some (.int .u8 0) := by injection h345
  have h4 : i.size = 1 := by injection h345 with _ k; injection k
  have h5 : i.bytes = 1 := by injection h345 with _ k; injection k
  have hadd : ad.add 0 = ad := by unfold Addr.add; split <;> simp_all
  refine wpList_append_arg w hgd s x t hop e i (.int .u8 0) 1 1 h1 h2 h3 h4 h5 rfl (by decide) g 0 xs.length cap (xs.map fun x : Nat => Value.int .u8 (x : Int)) hs (by simp) (fun j u hj => ?_) ad 1 c [.int .u8 (y : Int)] hx rfl (fun j u hj => ?_) (by simp [Value.oneCell']) (fun hr j hj => ?_) (by simp only [maxLen]; omega) (by omega) (fun hr => ?_) (fun hg v' w' hown hgr => ?_)
  · have hj' : j < xs.length := by
      have := (List.getElem?_eq_some_iff.1 hj).1
      simpa using this
    rw [Nat.zero_add, hb.cell j hj']
    simp [List.getElem?_eq_getElem hj'] at hj
    rw [← hj, nth_eq hj']
  · have : j = 0 := by
      have := (List.getElem?_eq_some_iff.1 hj).1
      simp at this; exact this
    subst this
    rw [hadd, hc]
    simpa using hj
  · have : j = 0 := by simpa using hj
    subst this
    have := hb.spare xs.length (by omega)
    simpa using this
  · have e1 : w.setCells g (0 + xs.length * 1) [.int .u8 (y : Int)] = w.setCell ⟨g, xs.length, none⟩ (.int .u8 (y : Int)) := by simp [World.setCells]
    rw [e1]
    have hsp := hb.spare xs.length (by omega)
    refine h g cap _ ⟨hb.base, by rw [World.size_setCell]; exact hb.lt, by simp; omega, fun j hj => ?_, fun j hj => ?_⟩ ((Below.refl B w).setCell (p := ⟨g, xs.length, none⟩) hb.base _) (fun k hk hne => Below.heap_setCell w ⟨g, xs.length, none⟩ _ k (fun e => hne e)) (by rw [World.size_setCell]; exact Nat.le_refl _) (.inl rfl)
    · have hj' : j < xs.length + 1 := by simpa using hj
      rw [nth_append_one _ _ _ hj']
      by_cases e : j = xs.length
      · subst e
        rw [if_pos rfl]
        exact World.cell?_setCell_same' _ _ _ hsp.1
      · rw [if_neg e, World.cell?_setCell_other _ _ _ _ (by intro k; exact e (by injection k with k1 k2; exact k2.symm))]
        exact hb.cell j (by omega)
    · rw [World.frozen?_setCell]
      refine ⟨?_, (hb.spare j hj).2⟩
      by_cases e : j = xs.length
      · subst e
        rw [World.cell?_setCell_same' _ _ _ hsp.1]; rfl
      · rw [World.cell?_setCell_other _ _ _ _ (by intro k; exact e (by injection k with k1 k2; exact k2.symm))]
        exact (hb.spare j hj).1
  · rcases hown with ⟨hl, ⟨rfl, h0⟩ | ⟨g', cap', cur, rfl, hg', hgc, hnc, hcm, hcs, htk⟩⟩
    · omega
    · refine h g' cap' w' (Buf.of_cells hgc (by omega) (.inl rfl) (by simp; omega) (by omega) (fun j hj => ?_)) ⟨hgr.os, hgr.tape, hgr.output, hgr.size, fun k hk => hgr.block k (by omega) (by simp)⟩ (fun k hk _ => hgr.block k hk (by simp)) hgr.size (.inr hg')
      have hj' : j < xs.length + 1 := by simpa using hj
      have e1 : cur[j]? = (cur.toList.take ((xs.length + 1) * 1))[j]? := by rw [List.getElem?_take_of_lt (by omega), Array.getElem?_toList]
      rw [e1, htk]
      have e2 : (xs.map (fun x : Nat => Value.int .u8 (x : Int))) ++ [Value.int .u8 (y : Int)] = (xs ++ [y]).map fun x : Nat => Value.int .u8 (x : Int) := by simp
      rw [e2, List.getElem?_map, List.getElem?_eq_getElem (by simpa using hj'), nth_eq (by simpa using hj')]
      rfl
end
end Go.Proofs.Ytoocoobgidoceaa
namespace Go.Proofs.Ytoocoobgidoceaa
open Go.RowKit
set_option linter.unusedVariables false

section
variable {P : Program}
theorem lim_one (k : IntKind) (zs : List Nat) : (lim k zs).all (·.oneCell') = true := by
  rw [Array.all_eq_true_iff_forall_mem]
  intro v hv
  simp only [lim, List.mem_toArray, List.mem_map] at hv
  obtain ⟨x, _, rfl⟩ := hv
  rfl
/-- A literal of numbers, built. -/
theorem wpList_build_to {ops : Array Oper} {rest : List Oper} {o : Oper} {a : Act} {w : World} {Q : Exit → Act → World → Prop} (hg : o.guard = none) (t : TypeId) (parts : Array (Nat × Operand)) (ho : o.op = .build t parts) (cells : Array Value)
    (hf : P.built t (parts.map fun (i, x) => (i, a.eval x)).toList = some cells)
    (h : wpList P ops Q rest (a.put o.dst (.agg cells)) w) : wpList P ops Q (o :: rest) a w :=
  wpList_build hg t parts ho (by rw [hf]; rfl) (by rw [hf]; exact h)
/-- A whole row of numbers laid into the block made last. -/
theorem wpList_store_new {ops : Array Oper} {rest : List Oper} {o : Oper} {a : Act} {w : World} {Q : Exit → Act → World → Prop} (hgd : o.guard = none) (ty : TypeId) (x y : Operand) (ho : o.op = .store ty x y)
    (k : IntKind) (zs : List Nat) (hx : a.eval x = .pointer (some ⟨w.heap.size, 0, none⟩)) (hy : a.eval y = .agg (lim k zs))
    (t : TypeId) (old : Array Value) (hi : (P.info? ty).map (·.size) = some zs.length)
    (hold : old.size = zs.length) (h : wpList P ops Q rest (a.put o.dst undef) (w.alloc (.cells (lim k zs) t))) : wpList P ops Q (o :: rest) a (w.alloc (.cells old t)) :=
  wpList_store_row hgd ty x y ho w.heap.size (lim k zs) hx hy t old (heap_alloc_new w _) (by rw [lim_size]; exact hi) (by rw [lim_size]; exact hold) (lim_one k zs) (by rw [World.setRow_alloc_new]; exact h)
end

set_option maxHeartbeats 400000 in
/-- math/bits.RotateLeft64 -/
theorem rot_any (x n : Nat) (w : World) (hx : x < 18446744073709551616) (hn : n < 64) :
    Calls Try.prog 45 #[.int .u64 (x : Int), .int .i64 (n : Int)] w fun e w' => e = .returned (.int .u64 (rotl x n : Nat)) ∧ w' = w := by
  have hb : bits .and .u64 (n : Int) 63 = (n : Int) := by
    rw [show (63 : Int) = ((63 : Nat) : Int) from rfl, u64_and_nat n 63 (by omega) (by decide), nat_mask6, Nat.mod_eq_of_lt hn]
  have h1 : (n : Int) ≤ 64 := by omega
  have hs : IntKind.u64.wrap (64 - (n : Int)) = ((64 - n : Nat) : Int) := by rw [IntKind.wrap_u64]; omega
  have h2 : ((64 - n : Nat) : Int) ≤ 64 := by omega
  have h0 : (0 : Int) ≤ ((64 - n : Nat) : Int) := by omega
  go_enter Try.func45, Try.ntmps45
  go_wp2
  go_ret
  refine ⟨congrArg Ending.returned (congrArg (Value.int .u64) ?_), rfl⟩
  have e1 : IntKind.u64.wrap ((x : Int) * 2 ^ n) = ((x * 2 ^ n % 18446744073709551616 : Nat) : Int) := by
    rw [IntKind.wrap_u64, show ((2 : Int) ^ n) = ((2 ^ n : Nat) : Int) by simp, ← Int.natCast_mul]; rfl
  have e2 : (x : Int) / 2 ^ (64 - n) = ((x / 2 ^ (64 - n) : Nat) : Int) := by
    rw [show ((2 : Int) ^ (64 - n)) = ((2 ^ (64 - n) : Nat) : Int) by simp]; rfl
  rw [e1, e2, u64_or_nat _ _ (Nat.mod_lt _ (by decide)) (Nat.lt_of_le_of_lt (Nat.div_le_self _ _) hx), rotl_shift (by omega) hx]

set_option maxHeartbeats 400000 in
/-- sponge.turn -/
theorem turn_any (i : Nat) (w : World) (hi : i < 25) :
    Calls Try.prog 46 #[.int .i64 (i : Int)] w fun e w' => e = .returned (.int .i64 (trn i : Nat)) ∧ Below w.heap.size w w' := by
  have hal : Try.prog.arrayLen 82 = 25 := by kernel_rfl
  go_enter Try.func46, Try.ntmps46
  have hc := (Own.new w 82 .i64 trl).cell (i := i) hi
  have hf := (Own.new w 82 .i64 trl).frozen i
  go_wp2_with (first | refine wpList_build_to rfl 82 _ rfl (lim .i64 trl) (by kernel_rfl) ?_ | refine wpList_store_new rfl 82 (.tmp 3) (.tmp 4) rfl .i64 trl rfl rfl 82 _ (by kernel_rfl) rfl ?_)
  go_ret
  exact ⟨rfl, (Below.refl _ _).alloc (Nat.le_refl _) _⟩

set_option maxHeartbeats 400000 in
/-- sponge.constant -/
theorem constant_any (i : Nat) (w : World) (hi : i < 24) :
    Calls Try.prog 33 #[.int .i64 (i : Int)] w fun e w' => e = .returned (.int .u64 (nth rcs i : Nat)) ∧ Below w.heap.size w w' := by
  have hal : Try.prog.arrayLen 77 = 24 := by kernel_rfl
  go_enter Try.func33, Try.ntmps33
  have hc := (Own.new w 77 .u64 rcs).cell (i := i) hi
  have hf := (Own.new w 77 .u64 rcs).frozen i
  go_wp2_with (first | refine wpList_build_to rfl 77 _ rfl (lim .u64 rcs) (by kernel_rfl) ?_ | refine wpList_store_new rfl 77 (.tmp 3) (.tmp 4) rfl .u64 rcs rfl rfl 77 _ (by kernel_rfl) rfl ?_)
  go_ret
  exact ⟨rfl, (Below.refl _ _).alloc (Nat.le_refl _) _⟩

theorem own_load {P : Program} {ops : Array Oper} {rest : List Oper} {o : Oper} {a : Act} {w : World} {Q : Exit → Act → World → Prop} {g : Nat} {T : TypeId} {k : IntKind} {zs : List Nat} (own : Own w g T k zs)
    (hgd : o.guard = none) (ty : TypeId) (x : Operand) (ho : o.op = .load ty x) (hx : a.eval x = .pointer (some ⟨g, 0, none⟩)) (n : Nat) (e : TypeId) (hn : zs.length = n)
    (hu : P.underlying ty = some (.array n e)) (hi : (P.info? ty).map (·.size) = some n)
    (h : wpList P ops Q rest (a.put o.dst (.agg (lim k zs))) w) : wpList P ops Q (o :: rest) a w :=
  wpList_load_row hgd ty x ho g hx T (lim k zs) (0, 0) _ own hu rfl (by rw [lim_size, hn]; exact hi) h

theorem own_new1 (w : World) (A : Obj) (T : TypeId) (k : IntKind) (zs : List Nat) : Own ((w.alloc A).alloc (.cells (lim k zs) T)) (w.heap.size + 1) T k zs := by
  have := Own.new (w.alloc A) T k zs
  rwa [World.size_alloc] at this
theorem own_new2 (w : World) (A B : Obj) (T : TypeId) (k : IntKind) (zs : List Nat) : Own (((w.alloc A).alloc B).alloc (.cells (lim k zs) T)) (w.heap.size + 2) T k zs := by
  have := Own.new ((w.alloc A).alloc B) T k zs
  rwa [World.size_alloc, World.size_alloc] at this
theorem run_index_lim (zs : List Nat) (j : Nat) (w : World) (h : zs.length = 25) (hj : j < 25) :
    (Instr.index 58 (.agg (lim .u64 zs)) (.int .i64 (j : Int))).run Try.prog w = .ok (.int .u64 (nth zs j : Nat)) w := by
  have hu : Try.prog.underlying 58 = some (.array 25 33) := by kernel_rfl
  have hix := lim_get (k := .u64) (zs := zs) (i := j) (by omega)
  have hj' : (j : Int) < 25 := by omega
  simp [Instr.index, run_underlying hu, asIntOf, hix, go_sem]
  intro h; omega

structure ColEq (zs cc : List Nat) : Prop where
  eq : colN zs 25 = cc
structure MovEq (zs cc mm : List Nat) : Prop where
  eq : movN zs cc 25 = mm
structure RndEq (zs : List Nat) (c : Nat) (rr : List Nat) : Prop where
  eq : roundS zs c = rr
def ColRel (zs : List Nat) (s : Nat) (w : World) (i : Value) (wr : World) : Prop :=
  ∃ j : Nat, j ≤ 25 ∧ i = .int .i64 (j : Int) ∧ Own wr s 58 .u64 zs ∧ Own wr (s + 1) 58 .u64 (List.replicate 25 0) ∧ Own wr (s + 2) 74 .u64 (colN zs j) ∧ Below s w wr ∧ wr.heap.size = s + 3
def MovRel (zs c : List Nat) (s : Nat) (w : World) (i : Value) (wr : World) : Prop :=
  ∃ j : Nat, j ≤ 25 ∧ i = .int .i64 (j : Int) ∧ Own wr s 58 .u64 zs ∧ Own wr (s + 1) 58 .u64 (List.replicate 25 0) ∧ Own wr (s + 2) 74 .u64 c ∧ Own wr (s + 3) 58 .u64 (movN zs c j) ∧ Below s w wr
def ChiRel (zs m : List Nat) (s : Nat) (w : World) (i : Value) (wr : World) : Prop :=
  ∃ j : Nat, j ≤ 25 ∧ i = .int .i64 (j : Int) ∧ Own wr s 58 .u64 (chiN zs m j) ∧ Own wr (s + 1) 58 .u64 (List.replicate 25 0) ∧ Own wr (s + 3) 58 .u64 m ∧ Below s w wr

theorem ColRel.step {zs : List Nat} {s j : Nat} {w wr wr' : World} {v : Int} (hj : j < 25) (o1 : Own wr s 58 .u64 zs) (o2 : Own wr (s + 1) 58 .u64 (List.replicate 25 0)) (o3 : Own wr (s + 2) 74 .u64 (colN zs j)) (hb : Below s w wr) (hs : wr.heap.size = s + 3)
    (ew : wr.setCell ⟨s + 2, j % 5, none⟩ (.int .u64 v) = wr') (e1 : v = (nth (colN zs j) (j % 5) ^^^ nth zs j : Nat)) : ColRel zs s w (.int .i64 ((j + 1 : Nat) : Int)) wr' := by
  subst ew e1
  exact ⟨j + 1, by omega, rfl, o1.far (by simp) _, o2.far (by simp) _, o3.set _ _, hb.setCell (p := ⟨s + 2, j % 5, none⟩) (by show s ≤ s + 2; omega) _, by rw [World.size_setCell]; exact hs⟩

theorem MovRel.step {zs cc : List Nat} {s j d v : Nat} {w wr wr' : World} (hj : j < 25) (o1 : Own wr s 58 .u64 zs) (o2 : Own wr (s + 1) 58 .u64 (List.replicate 25 0)) (o3 : Own wr (s + 2) 74 .u64 cc) (o4 : Own wr (s + 3) 58 .u64 (movN zs cc j)) (hb : Below s w wr)
    (ew : wr.setCell ⟨s + 3, d, none⟩ (.int .u64 (v : Int)) = wr') (ed : d = dst j) (e1 : v = rotl (theta1 zs cc j) (trn j)) : MovRel zs cc s w (.int .i64 ((j + 1 : Nat) : Int)) wr' := by
  subst ew e1 ed
  exact ⟨j + 1, by omega, rfl, o1.far (by simp) _, o2.far (by simp) _, o3.far (by simp) _, o4.set _ _, hb.setCell (p := ⟨s + 3, dst j, none⟩) (by show s ≤ s + 3; omega) _⟩
theorem ChiRel.step {zs m : List Nat} {s j : Nat} {v : Int} {w wr wr' : World} (hj : j < 25) (o1 : Own wr s 58 .u64 (chiN zs m j)) (o2 : Own wr (s + 1) 58 .u64 (List.replicate 25 0)) (o3 : Own wr (s + 3) 58 .u64 m) (hb : Below s w wr)
    (ew : wr.setCell ⟨s, j, none⟩ (.int .u64 v) = wr') (e1 : v = (chi1 m j : Nat)) : ChiRel zs m s w (.int .i64 ((j + 1 : Nat) : Int)) wr' := by
  subst ew e1
  exact ⟨j + 1, by omega, rfl, o1.set _ _, o2.far (by simp) _, o3.far (by simp) _, hb.setCell (p := ⟨s, j, none⟩) (Nat.le_refl _) _⟩

set_option maxHeartbeats 1000000 in
/-- sponge.round -/
theorem round_any (zs : List Nat) (c : Nat) (w : World) (ha : zs.length = 25) (oa : Ok zs) (hc : c < 18446744073709551616) :
    Calls Try.prog 32 #[.agg (lim .u64 zs), .int .u64 (c : Int)] w fun e w' => e = .returned (.agg (lim .u64 (roundS zs c))) ∧ Below w.heap.size w w' := by
  have hal : Try.prog.arrayLen 58 = 25 := by kernel_rfl
  have hal5 : Try.prog.arrayLen 74 = 5 := by kernel_rfl
  go_enter Try.func32, Try.ntmps32
  go_wp2_with (refine own_load (((Own.new w 58 .u64 zs).alloc _).alloc _) rfl 58 (.tmp 2) rfl rfl 25 33 ha (by kernel_rfl) (by kernel_rfl) ?_)
  go_loopw [18] (ColRel zs w.heap.size w) (fun i _ => 25 - (intOf i).toNat)
  case atStart => exact ⟨0, by omega, rfl, ((Own.new w 58 .u64 zs).alloc _).alloc _, (own_new1 w _ 58 .u64 (List.replicate 25 0)).alloc _, own_new2 w _ _ 74 .u64 (List.replicate 5 0), (((Below.refl _ _).alloc (Nat.le_refl _) _).alloc (by simp) _).alloc (by simp; omega) _, by simp⟩
  case round =>
    obtain ⟨j, hj, rfl, o1, o2, o3, hb, hs⟩ := hrel
    by_cases hj25 : j < 25
    · have hc1 := o3.cell (i := j % 5) (by rw [colN_length]; omega)
      have hf1 := o3.frozen (j % 5)
      have hix := run_index_lim zs j wr ha hj25
      go_wp2_with fail
      refine ⟨ColRel.step hj25 o1 o2 o3 hb hs rfl (u64_xor_nat _ _ ((colN_ok oa j).getD _) (oa.getD _)), by simp [intOf]; omega⟩
    · obtain rfl : j = 25 := by omega
      clear hj hj25
      have occ := colN_ok oa 25
      have lcc := colN_length zs 25
      have hnew : Own (wr.alloc (.cells (lim .u64 (List.replicate 25 0)) 58)) (w.heap.size + 3) 58 .u64 (List.replicate 25 0) := by rw [← hs]; exact Own.new wr _ _ _
      have hMR : MovRel zs (colN zs 25) w.heap.size w (.int .i64 0) (wr.alloc (.cells (lim .u64 (List.replicate 25 0)) 58)) :=
        ⟨0, by omega, rfl, o1.alloc _, o2.alloc _, o3.alloc _, hnew, hb.alloc (by omega) _⟩
      have hsz : wr.heap.size = w.heap.size + 1 + 1 + 1 := hs
      have oa1 := o1.alloc (.cells (lim .u64 (List.replicate 25 0)) 58)
      clear hnew
      generalize hcc : colN zs 25 = cc at *
      have HCC := ColEq.mk hcc
      clear hcc
      go_wp2_with (refine own_load oa1 rfl 58 (.tmp 2) rfl rfl 25 33 ha (by kernel_rfl) (by kernel_rfl) ?_)
      clear oa1 o1 o2 o3 hb hs hsz
      go_loopw [31] (MovRel zs cc w.heap.size w) (fun i _ => 25 - (intOf i).toNat)
      case atStart => exact hMR
      case round =>
        clear hMR
        obtain ⟨j, hj, rfl, o1, o2, o3, o4, hb⟩ := hrel
        by_cases hj25 : j < 25
        · have hix := run_index_lim zs j wr ha hj25
          obtain ⟨x, hx⟩ : ∃ x, j % 5 = x := ⟨_, rfl⟩
          obtain ⟨y, hy⟩ : ∃ y, j / 5 = y := ⟨_, rfl⟩
          have hx' : (j : Int) % 5 = (x : Int) := by omega
          have hy' : (j : Int) / 5 = (y : Int) := by omega
          have hx5 : x < 5 := by omega
          have hy5 : y < 5 := by omega
          obtain ⟨p, hp⟩ : ∃ p, (x + 4) % 5 = p := ⟨_, rfl⟩
          obtain ⟨q, hq⟩ : ∃ q, (x + 1) % 5 = q := ⟨_, rfl⟩
          have hw4 : IntKind.i64.wrap ((x : Int) + 4) = ((x + 4 : Nat) : Int) := by rw [IntKind.wrap_i64]; omega
          have hw1 : IntKind.i64.wrap ((x : Int) + 1) = ((x + 1 : Nat) : Int) := by rw [IntKind.wrap_i64]; omega
          have hp' : (IntKind.i64.wrap ((x : Int) + 4)).tmod 5 = (p : Int) := by rw [hw4, ← hp]; rfl
          have hq' : (IntKind.i64.wrap ((x : Int) + 1)).tmod 5 = (q : Int) := by rw [hw1, ← hq]; rfl
          clear hw4 hw1
          have hp5 : (p : Int) < 5 := by omega
          have hq5 : (q : Int) < 5 := by omega
          have hc1 := o3.cell (i := p) (by omega)
          have hc2 := o3.cell (i := q) (by omega)
          have Hr := Lib.hid (fun k => rot_any (nth cc q) 1 (wr.drewN k) (occ.getD _) (by decide))
          have hth : bits .xor .u64 (nth zs j : Int) (bits .xor .u64 (nth cc p : Int) (rotl (nth cc q) 1 : Int)) = ((theta1 zs cc j : Nat) : Int) := by
            rw [u64_xor_nat _ _ (occ.getD _) (rotl_lt (occ.getD _) _), u64_xor_nat _ _ (oa.getD _) (xor_lt (occ.getD _) (rotl_lt (occ.getD _) _))]
            subst hp hq hx
            rfl
          have thl := theta1_lt oa occ j
          have ht64 : trn j < 64 := by unfold trn; exact trl_lt j
          go_wp2_with fail
          go_quiet ((go_at_call 45; exact Calls.quiet_of_same (Hr.out _)))
          go_wp2_with fail
          clear hc1 hc2
          refine (turn_any j _ hj25).mono ?_
          rintro e w1 ⟨rfl, b1⟩
          have o1' := (o1.drewN nq).bel b1
          have o2' := (o2.drewN nq).bel b1
          have o3' := (o3.drewN nq).bel b1
          have o4' := (o4.drewN nq).bel b1
          have hb1 := (below_drewN hb nq).trans (b1.mono (below_drewN hb nq).size)
          clear o1 o2 o3 o4 hb b1
          obtain ⟨r, hr⟩ : ∃ r, (2 * x + 3 * y) % 5 = r := ⟨_, rfl⟩
          have hr5 : r < 5 := by omega
          have hrr : (2 * (x : Int) + 3 * (y : Int)) % 5 = (r : Int) := by omega
          have hc4 := o4'.cell (i := y + 5 * r) (by rw [movN_length]; omega)
          have hf4 := o4'.frozen (y + 5 * r)
          go_wp2_with fail
          refine (rot_any _ _ w1 thl ht64).mono ?_
          rintro e w2 ⟨rfl, rfl⟩
          go_wp2_with fail
          exact ⟨MovRel.step hj25 o1' o2' o3' o4' hb1 rfl (by subst hx hy hr; rfl) rfl, by simp [intOf]; omega⟩
        · obtain rfl : j = 25 := by omega
          clear hj hj25
          have omm := movN_ok oa occ 25
          have lmm := movN_length zs cc 25
          have hCR : ChiRel zs (movN zs cc 25) w.heap.size w (.int .i64 0) wr := ⟨0, by omega, rfl, o1, o2, o4, hb⟩
          clear o1 o2 o3 hb
          generalize hmm : movN zs cc 25 = mm at *
          have HMM := MovEq.mk hmm
          clear hmm
          go_wp2_with (refine own_load o4 rfl 58 (.tmp 8) rfl rfl 25 33 lmm (by kernel_rfl) (by kernel_rfl) ?_)
          clear o4
          go_loopw [69] (ChiRel zs mm w.heap.size w) (fun i _ => 25 - (intOf i).toNat)
          case atStart => exact hCR
          case round =>
            clear hCR
            obtain ⟨j, hj, rfl, o1, o2, o3, hb⟩ := hrel
            by_cases hj25 : j < 25
            · have hix := run_index_lim mm j wr lmm hj25
              obtain ⟨x, hx⟩ : ∃ x, j % 5 = x := ⟨_, rfl⟩
              obtain ⟨r, hr⟩ : ∃ r, j - j % 5 = r := ⟨_, rfl⟩
              have hx' : (j : Int) % 5 = (x : Int) := by omega
              have hr' : (j : Int) - (x : Int) = (r : Int) := by omega
              have hx5 : x < 5 := by omega
              have hr5 : r ≤ 20 := by omega
              obtain ⟨p, hp⟩ : ∃ p, (x + 1) % 5 = p := ⟨_, rfl⟩
              obtain ⟨q, hq⟩ : ∃ q, (x + 2) % 5 = q := ⟨_, rfl⟩
              have hp' : ((x : Int) + 1) % 5 = (p : Int) := by omega
              have hq' : ((x : Int) + 2) % 5 = (q : Int) := by omega
              have hc1 := o3.cell (i := r + p) (by omega)
              have hc2 := o3.cell (i := r + q) (by omega)
              have hc3 := o1.cell (i := j) (by rw [chiN_length]; omega)
              have hf3 := o1.frozen j
              have hw1 : IntKind.i64.wrap ((x : Int) + 1) = ((x + 1 : Nat) : Int) := by rw [IntKind.wrap_i64]; omega
              have hw2 : IntKind.i64.wrap ((x : Int) + 2) = ((x + 2 : Nat) : Int) := by rw [IntKind.wrap_i64]; omega
              have hp2 : (IntKind.i64.wrap ((x : Int) + 1)).tmod 5 = (p : Int) := by rw [hw1, ← hp]; rfl
              have hq2 : (IntKind.i64.wrap ((x : Int) + 2)).tmod 5 = (q : Int) := by rw [hw2, ← hq]; rfl
              clear hw1 hw2
              obtain ⟨u, hu⟩ : ∃ u, r + p = u := ⟨_, rfl⟩
              obtain ⟨v, hv⟩ : ∃ v, r + q = v := ⟨_, rfl⟩
              have hu' : (r : Int) + (p : Int) = (u : Int) := by omega
              have hv' : (r : Int) + (q : Int) = (v : Int) := by omega
              have hu2 : IntKind.i64.wrap (u : Int) = (u : Int) := by rw [IntKind.wrap_i64]; omega
              have hv2 : IntKind.i64.wrap (v : Int) = (v : Int) := by rw [IntKind.wrap_i64]; omega
              have hu25 : (u : Int) < 25 := by omega
              have hv25 : (v : Int) < 25 := by omega
              have hj25' : (j : Int) < 25 := by omega
              rw [hu] at hc1
              rw [hv] at hc2
              go_wp2_with fail
              have HU := Lib.hid (show j - j % 5 + (j % 5 + 1) % 5 = u by subst hx hr hp hu; rfl)
              have HV := Lib.hid (show j - j % 5 + (j % 5 + 2) % 5 = v by subst hx hr hq hv; rfl)
              clear hp hq hu hv
              go_still_tail 20, (by kernel_rfl)
              change wpList _ _ _ _ _ wr.drew
              have o1d := o1.drew
              have o2d := o2.drew
              have o3d := o3.drew
              have hbd : Below w.heap.size w wr.drew := below_drewN hb 1
              have hc3d := o1d.cell (i := j) (by rw [chiN_length]; omega)
              have hf3d := o1d.frozen j
              clear o1 o2 o3 hb hc1 hc2 hc3 hf3
              generalize wr.drew = w2 at *
              go_wp2_with fail
              refine ⟨ChiRel.step hj25 o1d o2d o3d hbd rfl ?_, by simp [intOf]; omega⟩
              have e0 : (if IntKind.u64.signed = true then (-1 : Int) else IntKind.u64.max) = ((18446744073709551615 : Nat) : Int) := rfl
              rw [e0, u64_xor_nat _ _ (by decide) (omm.getD _), u64_and_nat _ _ (xor_lt (by decide) (omm.getD _)) (omm.getD _), u64_xor_nat _ _ (omm.getD _) (and_lt (omm.getD _))]
              unfold chi1
              rw [HU.out, HV.out]
            · obtain rfl : j = 25 := by omega
              have hc0 := o1.cell (i := 0) (by rw [chiN_length]; omega)
              have hf0 := o1.frozen 0
              have lch := chiN_length zs mm 25
              have och := chiN_ok oa omm 25
              have HR : RndEq zs c ((chiN zs mm 25).set 0 (nth (chiN zs mm 25) 0 ^^^ c)) := RndEq.mk (by unfold roundS; simp only [HCC.eq, HMM.eq])
              clear HCC HMM
              have e0 : bits .xor .u64 (nth (chiN zs mm 25) 0 : Int) (c : Int) = ((nth (chiN zs mm 25) 0 ^^^ c : Nat) : Int) := u64_xor_nat _ _ (och.getD _) hc
              have o1' := o1.set 0 (nth (chiN zs mm 25) 0 ^^^ c)
              have o2' := o2.far (p := ⟨w.heap.size, 0, none⟩) (by simp) (.int .u64 ((nth (chiN zs mm 25) 0 ^^^ c : Nat) : Int))
              have hb' := hb.setCell (p := ⟨w.heap.size, 0, none⟩) (Nat.le_refl _) (.int .u64 ((nth (chiN zs mm 25) 0 ^^^ c : Nat) : Int))
              clear o1 o2 o3 hb hj hj25 lmm omm
              generalize hx : nth (chiN zs mm 25) 0 ^^^ c = x0 at *
              have lr : ((chiN zs mm 25).set 0 x0).length = 25 := by rw [List.length_set, lch, ha]
              generalize hr : (chiN zs mm 25).set 0 x0 = rr at *
              rw [ha] at lch
              go_wp2_with (first | refine own_load o1' rfl 58 (.tmp 2) rfl rfl 25 33 lr (by kernel_rfl) (by kernel_rfl) ?_ | refine wpList_store_row rfl 58 (.tmp 4) (.tmp 105) rfl (w.heap.size + 1) (lim .u64 rr) rfl rfl 58 _ o2' (by rw [lim_size, lr]; kernel_rfl) (by rw [lim_size, lim_size, lr]; rfl) (lim_one _ _) ?_)
              have o3' : Own ((wr.setCell ⟨w.heap.size, 0, none⟩ (.int .u64 (x0 : Int))).setRow (w.heap.size + 1) (lim .u64 rr)) (w.heap.size + 1) 58 .u64 rr := setRow_heap _ _ _ _ _ _ o2'
              refine bodyPost_ret (results_cell_row rfl _ _ (w.heap.size + 1) 58 (lim .u64 rr) (0, 0) (.array 25 33) rfl o3' (by kernel_rfl) rfl (by rw [lim_size, lr]; kernel_rfl)) rfl ⟨by rw [HR.eq], below_setRow hb' (by omega) _⟩
end Go.Proofs.Ytoocoobgidoceaa
namespace Go.Proofs.Ytoocoobgidoceaa
open Go.RowKit
set_option linter.unusedVariables false

theorem step_load_row {P : Program} {ops : Array Oper} {o : Oper} {a : Act} {w : World} {K : Act → World → Prop} {Q : Exit → Act → World → Prop} {E : Prop} {g : Nat} {T : TypeId} {k : IntKind} {zs : List Nat} (own : Own w g T k zs)
    (hgd : o.guard = none) (ty : TypeId) (x : Operand) (ho : o.op = .load ty x) (hx : a.eval x = .pointer (some ⟨g, 0, none⟩)) (n : Nat) (e : TypeId) (hn : zs.length = n)
    (hu : P.underlying ty = some (.array n e)) (hi : (P.info? ty).map (·.size) = some n)
    (h : K (a.put o.dst (.agg (lim k zs))) w) : if Region.wanted o (yielded ops a.tmps) = true then Oper.wp P o a w K Q else E := by
  have hw : Region.wanted o (yielded ops a.tmps) = true := by simp [Region.wanted, hgd]
  rw [if_pos hw]
  exact wp_load_row ty x ho g hx T (lim k zs) (0, 0) _ own hu rfl (by rw [lim_size, hn]; exact hi) h
theorem step_store_row {P : Program} {ops : Array Oper} {o : Oper} {a : Act} {w : World} {K : Act → World → Prop} {Q : Exit → Act → World → Prop} {E : Prop} {g : Nat} {T : TypeId} {k k' : IntKind} {zs rs : List Nat} (own : Own w g T k zs)
    (hgd : o.guard = none) (ty : TypeId) (x y : Operand) (ho : o.op = .store ty x y) (hx : a.eval x = .pointer (some ⟨g, 0, none⟩)) (hy : a.eval y = .agg (lim k' rs)) (n : Nat) (hn : zs.length = n) (hr : rs.length = n)
    (hi : (P.info? ty).map (·.size) = some n)
    (h : K (a.put o.dst undef) (w.setRow g (lim k' rs))) : if Region.wanted o (yielded ops a.tmps) = true then Oper.wp P o a w K Q else E := by
  have hw : Region.wanted o (yielded ops a.tmps) = true := by simp [Region.wanted, hgd]
  rw [if_pos hw]
  exact wp_store_row ty x y ho g (lim k' rs) hx hy T (lim k zs) own (by rw [lim_size, hr]; exact hi) (by rw [lim_size, lim_size, hn, hr]) (lim_one _ _) h

structure PrmEq (zs pp : List Nat) : Prop where
  eq : permN zs 24 = pp
def PermRel (zs : List Nat) (s : Nat) (w : World) (i : Value) (wr : World) : Prop :=
  ∃ j : Nat, j ≤ 24 ∧ i = .int .i64 (j : Int) ∧ Own wr s 58 .u64 (permN zs j) ∧ Own wr (s + 1) 58 .u64 (List.replicate 25 0) ∧ Below s w wr

theorem PermRel.step {zs rr : List Nat} {s j : Nat} {w wr w2 w3 : World} (hj : j < 24) (o1 : Own wr s 58 .u64 (permN zs j)) (o2 : Own wr (s + 1) 58 .u64 (List.replicate 25 0)) (hb : Below s w wr)
    (b1 : Below wr.heap.size wr w2) (ew : w2.setRow s (lim .u64 rr) = w3) (er : rr = roundS (permN zs j) (nth rcs j)) :
    PermRel zs s w (.int .i64 ((j + 1 : Nat) : Int)) w3 := by
  have h1 := o1.bel b1
  have h2 := o2.bel b1
  have h3 : Own w3 s 58 .u64 rr := by rw [← ew]; exact setRow_heap _ _ _ _ _ _ h1
  have h4 : Own w3 (s + 1) 58 .u64 (List.replicate 25 0) := by rw [← ew]; exact (setRow_other _ _ _ _ (by omega)).trans h2
  have h5 : Below s w w3 := by rw [← ew]; exact below_setRow (hb.trans (b1.mono (Nat.le_of_lt o1.lt))) (Nat.le_refl _) _
  have e : permN zs (j + 1) = rr := by rw [er, permN]
  exact ⟨j + 1, by omega, rfl, by rw [e]; exact h3, h4, h5⟩

set_option maxHeartbeats 1000000 in
/-- sponge.Permute -/
theorem permute_any (zs : List Nat) (w : World) (ha : zs.length = 25) (oa : Ok zs) :
    Calls Try.prog 25 #[.agg (lim .u64 zs)] w fun e w' => e = .returned (.agg (lim .u64 (permN zs 24))) ∧ Below w.heap.size w w' := by
  have hal : Try.prog.arrayLen 58 = 25 := by kernel_rfl
  go_enter Try.func25, Try.ntmps25
  go_wp2
  go_loopw [4] (PermRel zs w.heap.size w) (fun i _ => 24 - (intOf i).toNat)
  case atStart => exact ⟨0, by omega, rfl, (Own.new w 58 .u64 zs).alloc _, own_new1 w _ 58 .u64 (List.replicate 25 0), ((Below.refl _ _).alloc (Nat.le_refl _) _).alloc (by simp) _⟩
  case round =>
    obtain ⟨j, hj, rfl, o1, o2, hb⟩ := hrel
    by_cases hj25 : j < 24
    · have lp : (permN zs j).length = 25 := by rw [permN_length, ha]
      have op := permN_ok oa j
      have hrc : nth rcs j < 18446744073709551616 := rcs_ok.getD _
      have HS := Lib.hid (fun (rr : List Nat) (wr w2 w3 : World) (hj : j < 24) (o1 : Own wr w.heap.size 58 .u64 (permN zs j)) (o2 : Own wr (w.heap.size + 1) 58 .u64 (List.replicate 25 0)) (hb : Below w.heap.size w wr) (b1 : Below wr.heap.size wr w2) (ew : w2.setRow w.heap.size (lim .u64 rr) = w3) (er : rr = roundS (permN zs j) (nth rcs j)) => PermRel.step hj o1 o2 hb b1 ew er)
      generalize permN zs j = pp at *
      go_wp2_with fail
      have o1d := o1.drew
      have o2d := o2.drew
      have hbd : Below w.heap.size w wr.drew := below_drewN hb 1
      refine wp_region_any (by kernel_rfl) ?_
      change wpAny _ _ _ _ _ _ _ (World.drew _)
      clear o1 o2 hb
      generalize wr.drew = w0 at *
      refine wpAny_take (i := 1) (v := .int .i64 (j : Int)) rfl (by kernel_rfl) (by kernel_rfl) (by kernel_rfl) (fun _ _ _ h => h) (Or.inl ⟨by rfl, ?_⟩) ?_
      · intro w
        go_simp
      refine wpAny_ready (rs := [0, 2]) (by kernel_rfl) (by simp) ?_
      refine AllReady.cons rfl (fun K hK => ?_) (AllReady.cons rfl (fun K hK => ?_) AllReady.nil)
      · refine step_load_row o1d rfl 58 (.tmp 1) rfl rfl 25 33 lp (by kernel_rfl) (by kernel_rfl) ?_
        refine hK _ _ ?_
        clear hK K
        refine wpAny_ready (rs := [2]) (by kernel_rfl) (by simp) ?_
        refine AllReady.cons rfl (fun K hK => ?_) AllReady.nil
        go_simp
        refine (constant_any j _ hj25).mono ?_
        rintro e w1 ⟨rfl, b1⟩
        refine hK _ _ ?_
        clear hK K
        refine wpAny_ready (rs := [3]) (by kernel_rfl) (by simp) ?_
        refine AllReady.cons rfl (fun K hK => ?_) AllReady.nil
        go_simp
        refine (round_any pp (nth rcs j) _ lp op hrc).mono ?_
        rintro e w2 ⟨rfl, b2⟩
        refine hK _ _ ?_
        clear hK K
        have b3 := b1.trans (b2.mono b1.size)
        have lr : (roundS pp (nth rcs j)).length = 25 := by rw [roundS_length, lp]
        have HS2 := Lib.hid (fun w3 ew => HS.out (roundS pp (nth rcs j)) w0 w2 w3 hj25 o1d o2d hbd b3 ew rfl)
        clear HS
        generalize roundS pp (nth rcs j) = rr at *
        refine wpAny_ready (rs := [4]) (by kernel_rfl) (by simp) ?_
        refine AllReady.cons rfl (fun K hK => ?_) AllReady.nil
        refine step_store_row (o1d.bel b3) rfl 58 (.tmp 1) (.tmp 10) rfl rfl rfl 25 lp lr (by kernel_rfl) ?_
        refine hK _ _ ?_
        clear hK K
        refine wpAny_done (by kernel_rfl) ?_ _
        go_wp2_with fail
        exact ⟨HS2.out _ rfl, by simp [intOf]; omega⟩
      · go_simp
        refine (constant_any j _ hj25).mono ?_
        rintro e w1 ⟨rfl, b1⟩
        refine hK _ _ ?_
        clear hK K
        refine wpAny_ready (rs := [0]) (by kernel_rfl) (by simp) ?_
        refine AllReady.cons rfl (fun K hK => ?_) AllReady.nil
        refine step_load_row (o1d.bel b1) rfl 58 (.tmp 1) rfl rfl 25 33 lp (by kernel_rfl) (by kernel_rfl) ?_
        refine hK _ _ ?_
        clear hK K
        refine wpAny_ready (rs := [3]) (by kernel_rfl) (by simp) ?_
        refine AllReady.cons rfl (fun K hK => ?_) AllReady.nil
        go_simp
        refine (round_any pp (nth rcs j) _ lp op hrc).mono ?_
        rintro e w2 ⟨rfl, b2⟩
        refine hK _ _ ?_
        clear hK K
        have b3 := b1.trans (b2.mono b1.size)
        have lr : (roundS pp (nth rcs j)).length = 25 := by rw [roundS_length, lp]
        have HS2 := Lib.hid (fun w3 ew => HS.out (roundS pp (nth rcs j)) w0 w2 w3 hj25 o1d o2d hbd b3 ew rfl)
        clear HS
        generalize roundS pp (nth rcs j) = rr at *
        refine wpAny_ready (rs := [4]) (by kernel_rfl) (by simp) ?_
        refine AllReady.cons rfl (fun K hK => ?_) AllReady.nil
        refine step_store_row (o1d.bel b3) rfl 58 (.tmp 1) (.tmp 10) rfl rfl rfl 25 lp lr (by kernel_rfl) ?_
        refine hK _ _ ?_
        clear hK K
        refine wpAny_done (by kernel_rfl) ?_ _
        go_wp2_with fail
        exact ⟨HS2.out _ rfl, by simp [intOf]; omega⟩
    · obtain rfl : j = 24 := by omega
      have lp : (permN zs 24).length = 25 := by rw [permN_length, ha]
      generalize hpp : permN zs 24 = pp at *
      have HP := PrmEq.mk hpp
      clear hpp
      go_wp2_with (first | refine own_load o1 rfl 58 (.tmp 1) rfl rfl 25 33 lp (by kernel_rfl) (by kernel_rfl) ?_ | refine wpList_store_row rfl 58 (.tmp 2) (.tmp 12) rfl (w.heap.size + 1) (lim .u64 pp) rfl rfl 58 _ o2 (by rw [lim_size, lp]; kernel_rfl) (by rw [lim_size, lim_size, lp]; rfl) (lim_one _ _) ?_)
      have o3' : Own (wr.setRow (w.heap.size + 1) (lim .u64 pp)) (w.heap.size + 1) 58 .u64 pp := setRow_heap _ _ _ _ _ _ o2
      exact bodyPost_ret (results_cell_row rfl _ _ (w.heap.size + 1) 58 (lim .u64 pp) (0, 0) (.array 25 33) rfl o3' (by kernel_rfl) rfl (by rw [lim_size, lp]; kernel_rfl)) rfl ⟨by rw [HP.eq], below_setRow hb (by omega) _⟩
end Go.Proofs.Ytoocoobgidoceaa
namespace Go.Proofs.Ytoocoobgidoceaa
open Go.RowKit
set_option linter.unusedVariables false

def LeftRel (x n : Nat) (w : World) (v i : Value) (wr : World) : Prop := ∃ j : Nat, j ≤ n ∧ i = .int .i64 (j : Int) ∧ v = .int .u64 (rotl x j : Nat) ∧ wr = w
/-- ref.left -/
theorem left_any (x n : Nat) (w : World) (hx : x < 18446744073709551616) (hn : n < 9223372036854775808) :
    Calls Try.prog 50 #[.int .u64 (x : Int), .int .i64 (n : Int)] w fun e w' => e = .returned (.int .u64 (rotl x (n % 64) : Nat)) ∧ w' = w := by
  obtain ⟨m, hm⟩ : ∃ m, n % 64 = m := ⟨_, rfl⟩
  have hm' : (n : Int).tmod 64 = (m : Int) := by rw [← hm]; rfl
  have hmr : (n : Int) % 64 = (m : Int) := by omega
  have hm64 : m < 64 := by omega
  go_enter Try.func50, Try.ntmps50
  go_wp2
  go_loopw [0, 5] (LeftRel x m w) (fun _ i _ => m - (intOf i).toNat)
  case atStart => exact ⟨0, by omega, rfl, rfl, rfl⟩
  case round =>
    obtain ⟨j, hj, rfl, rfl, rfl⟩ := hrel
    by_cases hjm : j < m
    · have hlt := rotl_lt hx j
      go_wp2
      refine ⟨⟨j + 1, by omega, rfl, congrArg (Value.int .u64) ?_, rfl⟩, by simp [intOf]; omega⟩
      show _ = ((rotl x j * 2 % 18446744073709551616 + rotl x j / 9223372036854775808 : Nat) : Int)
      simp only [IntKind.wrap_u64]
      omega
    · obtain rfl : j = m := by omega
      go_wp2
      go_ret
      exact ⟨by rw [hm]; rfl, rfl⟩

/-- ref.lane -/
theorem lane_any (x y : Int) (p q l : Nat) (w : World) (hx : x + 5 = (p : Int)) (hy : y + 5 = (q : Int)) (hp : p < 1000) (hq : q < 1000) (hl : laneN p q = l) :
    Calls Try.prog 49 #[.int .i64 x, .int .i64 y] w fun e w' => e = .returned (.int .i64 (l : Int)) ∧ w' = w := by
  obtain ⟨r, hr⟩ : ∃ r, p % 5 = r := ⟨_, rfl⟩
  obtain ⟨s, hs⟩ : ∃ s, q % 5 = s := ⟨_, rfl⟩
  have e1 : IntKind.i64.wrap (x + 5) = (p : Int) := by rw [hx, IntKind.wrap_i64]; omega
  have e2 : IntKind.i64.wrap (y + 5) = (q : Int) := by rw [hy, IntKind.wrap_i64]; omega
  have e3 : (p : Int).tmod 5 = (r : Int) := by rw [← hr]; rfl
  have e4 : (q : Int).tmod 5 = (s : Int) := by rw [← hs]; rfl
  have e5 : (p : Int) % 5 = (r : Int) := by omega
  have e6 : (q : Int) % 5 = (s : Int) := by omega
  go_enter Try.func49, Try.ntmps49
  go_wp2
  go_ret
  refine ⟨congrArg Ending.returned (congrArg (Value.int .i64) ?_), rfl⟩
  unfold laneN at hl
  omega
end Go.Proofs.Ytoocoobgidoceaa
namespace Go.Proofs.Ytoocoobgidoceaa
open Go.RowKit
set_option linter.unusedVariables false

theorem wpList_store_new2 {P : Program} {ops : Array Oper} {rest : List Oper} {o : Oper} {a : Act} {w : World} {A B : Obj} {Q : Exit → Act → World → Prop} (hgd : o.guard = none) (ty : TypeId) (x y : Operand) (ho : o.op = .store ty x y)
    (k : IntKind) (zs : List Nat) (hx : a.eval x = .pointer (some ⟨w.heap.size + 1 + 1, 0, none⟩)) (hy : a.eval y = .agg (lim k zs))
    (t : TypeId) (old : Array Value) (hi : (P.info? ty).map (·.size) = some zs.length)
    (hold : old.size = zs.length) (h : wpList P ops Q rest (a.put o.dst undef) (((w.alloc A).alloc B).alloc (.cells (lim k zs) t))) : wpList P ops Q (o :: rest) a (((w.alloc A).alloc B).alloc (.cells old t)) := by
  have e : ((w.alloc A).alloc B).heap.size = w.heap.size + 1 + 1 := by simp
  exact wpList_store_new hgd ty x y ho k zs (by rw [hx, e]) hy t old hi hold h
structure OneE (zs pp : List Nat) : Prop where
  eq : oneX zs 5 = pp
structure OneS (zs : List Nat) (j c d : Nat) (O : List Nat) : Prop where
  eo : oneX zs j = O
  ec : oneC zs (j + 4) 5 = c
  ed : oneC zs (j + 6) 5 = d
def OneRel (zs : List Nat) (s : Nat) (w : World) (x : Value) (wr : World) : Prop :=
  ∃ j : Nat, j ≤ 5 ∧ x = .int .i64 (j : Int) ∧ Own wr s 58 .u64 zs ∧ Own wr (s + 1) 58 .u64 (List.replicate 25 0) ∧ Own wr (s + 2) 58 .u64 (oneX zs j) ∧ Below s w wr
def OneC (zs : List Nat) (j : Nat) (w : World) (c d y : Value) (wr : World) : Prop :=
  ∃ k : Nat, k ≤ 5 ∧ y = .int .i64 (k : Int) ∧ c = .int .u64 (oneC zs (j + 4) k : Nat) ∧ d = .int .u64 (oneC zs (j + 6) k : Nat) ∧ wr = w
def OneO (zs O : List Nat) (j c d : Nat) (s : Nat) (w : World) (y : Value) (wr : World) : Prop :=
  ∃ k : Nat, k ≤ 5 ∧ y = .int .i64 (k : Int) ∧ Own wr s 58 .u64 zs ∧ Own wr (s + 1) 58 .u64 (List.replicate 25 0) ∧ Own wr (s + 2) 58 .u64 (oneO zs O j c d k) ∧ Below s w wr
theorem OneO.step {zs O : List Nat} {j c d s k l : Nat} {v : Int} {w wr wr' : World} (hj : k < 5) (o1 : Own wr s 58 .u64 zs) (o2 : Own wr (s + 1) 58 .u64 (List.replicate 25 0)) (o3 : Own wr (s + 2) 58 .u64 (oneO zs O j c d k)) (hb : Below s w wr)
    (ew : wr.setCell ⟨s + 2, l, none⟩ (.int .u64 v) = wr') (hl : laneN (j + 5) (k + 5) = l) (e1 : v = (oneV zs j c d k : Nat)) : OneO zs O j c d s w (.int .i64 ((k + 1 : Nat) : Int)) wr' := by
  subst ew e1 hl
  exact ⟨k + 1, by omega, rfl, o1.far (by simp) _, o2.far (by simp) _, o3.set _ _, hb.setCell (p := ⟨s + 2, _, none⟩) (by show s ≤ s + 2; omega) _⟩

set_option maxHeartbeats 1000000 in
/-- ref.One -/
theorem sone_any (zs : List Nat) (w : World) (ha : zs.length = 25) (oa : Ok zs) :
    Calls Try.prog 42 #[.agg (lim .u64 zs)] w fun e w' => e = .returned (.agg (lim .u64 (oneX zs 5))) ∧ Below w.heap.size w w' := by
  have hal : Try.prog.arrayLen 58 = 25 := by kernel_rfl
  go_enter Try.func42, Try.ntmps42
  go_wp2_with (first | refine own_load ((Own.new w 58 .u64 zs).alloc _) rfl 58 (.tmp 1) rfl rfl 25 33 ha (by kernel_rfl) (by kernel_rfl) ?_ | refine wpList_store_new2 rfl 58 (.tmp 3) (.tmp 9) rfl .u64 zs rfl rfl 58 _ (by rw [ha]; kernel_rfl) (by rw [ha]; rfl) ?_)
  go_loopw [4, 5, 6, 7, 8] (fun x _ _ _ _ wr => OneRel zs w.heap.size w x wr) (fun x _ _ _ _ _ => 5 - (intOf x).toNat)
  case atStart => exact ⟨0, by omega, rfl, ((Own.new w 58 .u64 zs).alloc _).alloc _, (own_new1 w _ 58 .u64 (List.replicate 25 0)).alloc _, own_new2 w _ _ 58 .u64 zs, (((Below.refl _ _).alloc (Nat.le_refl _) _).alloc (by simp) _).alloc (by simp; omega) _⟩
  case round =>
    obtain ⟨j, hj, rfl, o1, o2, o3, hb⟩ := hrel
    by_cases hj5 : j < 5
    · have hd : decide ((j : Int) < 5) = true := decide_eq_true (by omega)
      go_wp2_with fail
      go_loopw [5, 6, 7] (OneC zs j wr) (fun _ _ y _ => 5 - (intOf y).toNat)
      case atStart => exact ⟨0, by omega, rfl, rfl, rfl, rfl⟩
      case round =>
        obtain ⟨k, hk, rfl, rfl, rfl, rfl⟩ := hrel
        by_cases hk5 : k < 5
        · obtain ⟨l1, hl1⟩ : ∃ l, laneN (j + 4) (k + 5) = l := ⟨_, rfl⟩
          obtain ⟨l2, hl2⟩ : ∃ l, laneN (j + 6) (k + 5) = l := ⟨_, rfl⟩
          have h1 : l1 < 25 := by rw [← hl1]; exact laneN_lt _ _
          have h2 : l2 < 25 := by rw [← hl2]; exact laneN_lt _ _
          have hc1 := o1.cell (i := l1) (by omega)
          have hc2 := o1.cell (i := l2) (by omega)
          have hx1 : bits .xor .u64 (oneC zs (j + 4) k : Int) (nth zs l1 : Int) = ((oneC zs (j + 4) (k + 1) : Nat) : Int) := by
            rw [u64_xor_nat _ _ (oneC_lt oa _ _) (oa.getD _), ← hl1]; rfl
          have hx2 : bits .xor .u64 (oneC zs (j + 6) k : Int) (nth zs l2 : Int) = ((oneC zs (j + 6) (k + 1) : Nat) : Int) := by
            rw [u64_xor_nat _ _ (oneC_lt oa _ _) (oa.getD _), ← hl2]; rfl
          go_wp2_with fail
          refine (lane_any _ _ (j + 4) (k + 5) l1 _ ?_ ?_ (by omega) (by omega) hl1).mono ?_
          · omega
          · omega
          rintro e w1 ⟨rfl, rfl⟩
          go_wp2_with fail
          refine (lane_any _ _ (j + 6) (k + 5) l2 _ ?_ ?_ (by omega) (by omega) hl2).mono ?_
          · omega
          · omega
          rintro e w1 ⟨rfl, rfl⟩
          go_wp2_with fail
          exact ⟨⟨k + 1, by omega, rfl, rfl, rfl, rfl⟩, by simp [intOf]; omega⟩
        · obtain rfl : k = 5 := by omega
          have oc := oneC_lt oa (j + 4) 5
          have od := oneC_lt oa (j + 6) 5
          generalize hec : oneC zs (j + 4) 5 = c at *
          generalize hed : oneC zs (j + 6) 5 = d at *
          have lx := oneX_length zs j
          have HX : OneO zs (oneX zs j) j c d w.heap.size w (.int .i64 0) wr := ⟨0, by omega, rfl, o1, o2, o3, hb⟩
          generalize heo : oneX zs j = O at *
          have HS := OneS.mk heo hec hed
          clear heo hec hed
          go_wp2_with fail
          clear o1 o2 o3 hb
          try simp only [Int.cast_ofNat_Int]
          go_loopw [8] (OneO zs O j c d w.heap.size w) (fun y _ => 5 - (intOf y).toNat)
          case atStart => exact HX
          case round =>
            clear HX
            obtain ⟨k, hk, rfl, o1, o2, o3, hb⟩ := hrel
            by_cases hk5 : k < 5
            · obtain ⟨l, hl⟩ : ∃ l, laneN (j + 5) (k + 5) = l := ⟨_, rfl⟩
              have h1 : l < 25 := by rw [← hl]; exact laneN_lt _ _
              have hc1 := o1.cell (i := l) (by omega)
              have h1' : (l : Int) < 25 := by omega
              have HL := Lib.hid (fun W => lane_any (j : Int) (k : Int) (j + 5) (k + 5) l W (by omega) (by omega) (by omega) (by omega) hl)
              have HF := Lib.hid (fun W => left_any d 1 W od (by decide))
              go_wp2_with fail
              refine wp_region_still_tail 14 (by kernel_rfl) (by kernel_rfl) ?_
              simp only [List.take_succ_cons, List.take_zero, List.drop_succ_cons, List.drop_zero]
              repeat still_step
              still_call (HL.out _)
              repeat still_step
              still_call (HL.out _)
              repeat still_step
              still_call (HF.out _)
              repeat still_step
              refine wpStill_nil ?_
              change wpList _ _ _ _ _ wr.drew
              have o1d := o1.drew
              have o2d := o2.drew
              have o3d := o3.drew
              have hbd : Below w.heap.size w wr.drew := below_drewN hb 1
              have hf3 := o3d.frozen l
              have hc3 := o3d.cell (i := l) (by rw [oneO_length]; omega)
              clear o1 o2 o3 hb hc1
              generalize wr.drew = w2 at *
              go_wp2_with fail
              refine ⟨OneO.step hk5 o1d o2d o3d hbd rfl hl ?_, by simp [intOf]; omega⟩
              rw [u64_xor_nat _ _ (oa.getD _) oc, u64_xor_nat _ _ (xor_lt (oa.getD _) oc) (rotl_lt od _), Nat.xor_assoc, ← hl]
              rfl
            · obtain rfl : k = 5 := by omega
              go_wp2_with fail
              exact ⟨⟨j + 1, by omega, rfl, o1, o2, by rw [oneX, HS.eo, HS.ec, HS.ed]; exact o3, hb⟩, by simp [intOf]; omega⟩
    · obtain rfl : j = 5 := by omega
      have lp := oneX_length zs 5
      generalize hpp : oneX zs 5 = pp at *
      have HP := OneE.mk hpp
      clear hpp
      rw [ha] at lp
      go_wp2_with (first | refine own_load o3 rfl 58 (.tmp 3) rfl rfl 25 33 lp (by kernel_rfl) (by kernel_rfl) ?_ | refine wpList_store_row rfl 58 (.tmp 2) (.tmp 52) rfl (w.heap.size + 1) (lim .u64 pp) rfl rfl 58 _ o2 (by rw [lim_size, lp]; kernel_rfl) (by rw [lim_size, lim_size, lp]; rfl) (lim_one _ _) ?_)
      have o3' : Own (wr.setRow (w.heap.size + 1) (lim .u64 pp)) (w.heap.size + 1) 58 .u64 pp := setRow_heap _ _ _ _ _ _ o2
      exact bodyPost_ret (results_cell_row rfl _ _ (w.heap.size + 1) 58 (lim .u64 pp) (0, 0) (.array 25 33) rfl o3' (by kernel_rfl) rfl (by rw [lim_size, lp]; kernel_rfl)) rfl ⟨by rw [HP.eq], below_setRow hb (by omega) _⟩
end Go.Proofs.Ytoocoobgidoceaa
namespace Go.Proofs.Ytoocoobgidoceaa
open Go.RowKit
set_option linter.unusedVariables false

def ThrRel (zs : List Nat) (s : Nat) (w : World) (x : Value) (wr : World) : Prop :=
  ∃ j : Nat, j ≤ 5 ∧ x = .int .i64 (j : Int) ∧ Own wr s 58 .u64 zs ∧ Own wr (s + 1) 58 .u64 (List.replicate 25 0) ∧ Own wr (s + 2) 58 .u64 (thrX zs j) ∧ Below s w wr
def ThrO (zs O : List Nat) (j : Nat) (s : Nat) (w : World) (y : Value) (wr : World) : Prop :=
  ∃ k : Nat, k ≤ 5 ∧ y = .int .i64 (k : Int) ∧ Own wr s 58 .u64 zs ∧ Own wr (s + 1) 58 .u64 (List.replicate 25 0) ∧ Own wr (s + 2) 58 .u64 (thrY zs O j k) ∧ Below s w wr
theorem ThrO.step {zs O : List Nat} {j s k l : Nat} {v : Int} {w wr wr' : World} (hj : k < 5) (o1 : Own wr s 58 .u64 zs) (o2 : Own wr (s + 1) 58 .u64 (List.replicate 25 0)) (o3 : Own wr (s + 2) 58 .u64 (thrY zs O j k)) (hb : Below s w wr)
    (ew : wr.setCell ⟨s + 2, l, none⟩ (.int .u64 v) = wr') (hl : laneN (j + 5) (k + 5) = l) (e1 : v = (thrV zs j k : Nat)) : ThrO zs O j s w (.int .i64 ((k + 1 : Nat) : Int)) wr' := by
  subst ew e1 hl
  exact ⟨k + 1, by omega, rfl, o1.far (by simp) _, o2.far (by simp) _, o3.set _ _, hb.setCell (p := ⟨s + 2, _, none⟩) (by show s ≤ s + 2; omega) _⟩
structure ThrE (zs pp : List Nat) : Prop where
  eq : thrX zs 5 = pp
structure ThrS (zs : List Nat) (j : Nat) (O : List Nat) : Prop where
  eo : thrX zs j = O

set_option maxHeartbeats 1000000 in
/-- ref.Three -/
theorem three_any (zs : List Nat) (w : World) (ha : zs.length = 25) (oa : Ok zs) :
    Calls Try.prog 40 #[.agg (lim .u64 zs)] w fun e w' => e = .returned (.agg (lim .u64 (thrX zs 5))) ∧ Below w.heap.size w w' := by
  have hal : Try.prog.arrayLen 58 = 25 := by kernel_rfl
  go_enter Try.func40, Try.ntmps40
  go_wp2_with (first | refine own_load ((Own.new w 58 .u64 zs).alloc _) rfl 58 (.tmp 1) rfl rfl 25 33 ha (by kernel_rfl) (by kernel_rfl) ?_ | refine wpList_store_new2 rfl 58 (.tmp 3) (.tmp 7) rfl .u64 zs rfl rfl 58 _ (by rw [ha]; kernel_rfl) (by rw [ha]; rfl) ?_)
  go_loopw [4, 5, 6] (fun x _ _ wr => ThrRel zs w.heap.size w x wr) (fun x _ _ _ => 5 - (intOf x).toNat)
  case atStart => exact ⟨0, by omega, rfl, ((Own.new w 58 .u64 zs).alloc _).alloc _, (own_new1 w _ 58 .u64 (List.replicate 25 0)).alloc _, own_new2 w _ _ 58 .u64 zs, (((Below.refl _ _).alloc (Nat.le_refl _) _).alloc (by simp) _).alloc (by simp; omega) _⟩
  case round =>
    obtain ⟨j, hj, rfl, o1, o2, o3, hb⟩ := hrel
    by_cases hj5 : j < 5
    · have hd : decide ((j : Int) < 5) = true := decide_eq_true (by omega)
      have lx := thrX_length zs j
      have HX : ThrO zs (thrX zs j) j w.heap.size w (.int .i64 0) wr := ⟨0, by omega, rfl, o1, o2, o3, hb⟩
      generalize heo : thrX zs j = O at *
      have HS := ThrS.mk heo
      clear heo
      go_wp2_with fail
      clear o1 o2 o3 hb
      go_loopw [5, 6] (fun y _ wr => ThrO zs O j w.heap.size w y wr) (fun y _ _ => 5 - (intOf y).toNat)
      case atStart => exact HX
      case round =>
        clear HX
        obtain ⟨k, hk, rfl, o1, o2, o3, hb⟩ := hrel
        by_cases hk5 : k < 5
        · obtain ⟨l, hl⟩ : ∃ l, laneN (j + 5) (k + 5) = l := ⟨_, rfl⟩
          obtain ⟨l1, hl1⟩ : ∃ l, laneN (j + 6) (k + 5) = l := ⟨_, rfl⟩
          obtain ⟨l2, hl2⟩ : ∃ l, laneN (j + 7) (k + 5) = l := ⟨_, rfl⟩
          have h1 : l < 25 := by rw [← hl]; exact laneN_lt _ _
          have h2 : l1 < 25 := by rw [← hl1]; exact laneN_lt _ _
          have h3 : l2 < 25 := by rw [← hl2]; exact laneN_lt _ _
          have hc1 := o1.cell (i := l1) (by omega)
          have hv : bits .xor .u64 (nth zs l1 : Int) 18446744073709551615 = ((18446744073709551615 ^^^ nth zs l1 : Nat) : Int) := by
            rw [Nat.xor_comm]; exact u64_xor_nat (nth zs l1) 18446744073709551615 (oa.getD _) (by decide)
          go_wp2_with fail
          refine (lane_any _ _ (j + 6) (k + 5) l1 _ ?_ ?_ (by omega) (by omega) hl1).mono ?_
          · omega
          · omega
          rintro e w1 ⟨rfl, rfl⟩
          go_wp2_with fail
          have hlt := xor_lt (by decide : 18446744073709551615 < 18446744073709551616) (oa.getD l1)
          obtain ⟨v, hv⟩ : ∃ v, (18446744073709551615 ^^^ nth zs l1) = v := ⟨_, rfl⟩
          rw [hv] at hlt
          rw [hv]
          have hc0 := o1.cell (i := l) (by omega)
          have hc2 := o1.cell (i := l2) (by omega)
          have h1' : (l : Int) < 25 := by omega
          have h2' : (l2 : Int) < 25 := by omega
          have HL := Lib.hid (fun W => lane_any (j : Int) (k : Int) (j + 5) (k + 5) l W (by omega) (by omega) (by omega) (by omega) hl)
          have HL2 := Lib.hid (fun W => lane_any (IntKind.i64.wrap ((j : Int) + 2)) (k : Int) (j + 7) (k + 5) l2 W (by rw [IntKind.wrap_i64]; omega) (by omega) (by omega) (by omega) hl2)
          refine wp_region_still_tail 18 (by kernel_rfl) (by kernel_rfl) ?_
          simp only [List.take_succ_cons, List.take_zero, List.drop_succ_cons, List.drop_zero]
          repeat still_step
          still_call (HL.out _)
          repeat still_step
          still_call (HL.out _)
          repeat still_step
          still_call (HL2.out _)
          repeat still_step
          refine wpStill_nil ?_
          change wpList _ _ _ _ _ w1.drew
          have o1d := o1.drew
          have o2d := o2.drew
          have o3d := o3.drew
          have hbd : Below w.heap.size w w1.drew := below_drewN hb 1
          have hf3 := o3d.frozen l
          have hc3 := o3d.cell (i := l) (by rw [thrY_length]; omega)
          clear o1 o2 o3 hb hc1 hc0 hc2
          generalize w1.drew = w2 at *
          go_wp2_with fail
          refine ⟨ThrO.step hk5 o1d o2d o3d hbd rfl hl ?_, by simp [intOf]; omega⟩
          rw [u64_and_nat _ _ hlt (oa.getD _), u64_xor_nat _ _ (oa.getD _) (and_lt (oa.getD _)), ← hv, ← hl, ← hl1, ← hl2]
          rfl
        · obtain rfl : k = 5 := by omega
          go_wp2_with fail
          exact ⟨⟨j + 1, by omega, rfl, o1, o2, by rw [thrX, HS.eo]; exact o3, hb⟩, by simp [intOf]; omega⟩
    · obtain rfl : j = 5 := by omega
      have lp := thrX_length zs 5
      generalize hpp : thrX zs 5 = pp at *
      have HP := ThrE.mk hpp
      clear hpp
      rw [ha] at lp
      go_wp2_with (first | refine own_load o3 rfl 58 (.tmp 3) rfl rfl 25 33 lp (by kernel_rfl) (by kernel_rfl) ?_ | refine wpList_store_row rfl 58 (.tmp 2) (.tmp 41) rfl (w.heap.size + 1) (lim .u64 pp) rfl rfl 58 _ o2 (by rw [lim_size, lp]; kernel_rfl) (by rw [lim_size, lim_size, lp]; rfl) (lim_one _ _) ?_)
      have o3' : Own (wr.setRow (w.heap.size + 1) (lim .u64 pp)) (w.heap.size + 1) 58 .u64 pp := setRow_heap _ _ _ _ _ _ o2
      exact bodyPost_ret (results_cell_row rfl _ _ (w.heap.size + 1) 58 (lim .u64 pp) (0, 0) (.array 25 33) rfl o3' (by kernel_rfl) rfl (by rw [lim_size, lp]; kernel_rfl)) rfl ⟨by rw [HP.eq], below_setRow hb (by omega) _⟩
end Go.Proofs.Ytoocoobgidoceaa
namespace Go.Proofs.Ytoocoobgidoceaa
open Go.RowKit
set_option linter.unusedVariables false

def TwoRel (zs : List Nat) (s : Nat) (w : World) (x y held t : Value) (wr : World) : Prop :=
  ∃ j : Nat, j ≤ 24 ∧ t = .int .i64 (j : Int) ∧ x = .int .i64 ((twoT zs j).x : Int) ∧ y = .int .i64 ((twoT zs j).y : Int) ∧ held = .int .u64 ((twoT zs j).held : Int) ∧ Own wr s 58 .u64 (twoT zs j).l ∧ Own wr (s + 1) 58 .u64 (List.replicate 25 0) ∧ Below s w wr
theorem TwoRel.step {zs L : List Nat} {s j x y held y' held' to r : Nat} {w wr wr' : World} (hj : j < 24) (hs : twoT zs j = ⟨L, x, y, held⟩) (o1 : Own wr s 58 .u64 L) (o2 : Own wr (s + 1) 58 .u64 (List.replicate 25 0)) (hb : Below s w wr)
    (ht : laneN (y + 5) (2 * x + 3 * y + 5) = to) (hr : rotl held ((j + 1) * (j + 2) / 2 % 64) = r) (hy : (2 * x + 3 * y) % 5 = y') (hh : nth L to = held')
    (ew : wr.setCell ⟨s, to, none⟩ (.int .u64 (r : Int)) = wr') : TwoRel zs s w (.int .i64 (y : Int)) (.int .i64 (y' : Int)) (.int .u64 (held' : Int)) (.int .i64 ((j + 1 : Nat) : Int)) wr' := by
  subst ew hy hh ht hr
  have e : twoT zs (j + 1) = ⟨L.set (laneN (y + 5) (2 * x + 3 * y + 5)) (rotl held ((j + 1) * (j + 2) / 2 % 64)), y, (2 * x + 3 * y) % 5, nth L (laneN (y + 5) (2 * x + 3 * y + 5))⟩ := by
    rw [twoT, hs]
  refine ⟨j + 1, by omega, rfl, ?_⟩
  rw [e]
  exact ⟨rfl, rfl, rfl, o1.set _ _, o2.far (by simp) _, hb.setCell (p := ⟨s, _, none⟩) (Nat.le_refl _) _⟩
structure TwoE (zs pp : List Nat) : Prop where
  eq : (twoT zs 24).l = pp

set_option maxHeartbeats 1000000 in
/-- ref.Two -/
theorem two_any (zs : List Nat) (w : World) (ha : zs.length = 25) (oa : Ok zs) :
    Calls Try.prog 41 #[.agg (lim .u64 zs)] w fun e w' => e = .returned (.agg (lim .u64 (twoT zs 24).l)) ∧ Below w.heap.size w w' := by
  have hal : Try.prog.arrayLen 58 = 25 := by kernel_rfl
  go_enter Try.func41, Try.ntmps41
  go_wp2_with fail
  refine (lane_any _ _ 6 5 1 _ ?_ ?_ (by omega) (by omega) rfl).mono ?_
  · rfl
  · rfl
  rintro e w1 ⟨rfl, hw⟩
  have o1 : Own w1 w.heap.size 58 .u64 zs := by rw [hw]; exact (Own.new w 58 .u64 zs).alloc _
  have o2 : Own w1 (w.heap.size + 1) 58 .u64 (List.replicate 25 0) := by rw [hw]; exact own_new1 w _ 58 .u64 (List.replicate 25 0)
  have hb : Below w.heap.size w w1 := by rw [hw]; exact ((Below.refl _ _).alloc (Nat.le_refl _) _).alloc (by simp) _
  clear hw
  have hc1 := o1.cell (i := 1) (by omega)
  go_wp2_with fail
  clear hc1
  go_loopw [3, 4, 5, 6, 7, 8, 9] (fun x y h t _ _ _ wr => TwoRel zs w.heap.size w x y h t wr) (fun _ _ _ t _ _ _ _ => 24 - (intOf t).toNat)
  case atStart => exact ⟨0, by omega, rfl, rfl, rfl, rfl, o1, o2, hb⟩
  case round =>
    clear o1 o2 hb
    obtain ⟨j, hj, rfl, rfl, rfl, rfl, o1, o2, hb⟩ := hrel
    by_cases hj5 : j < 24
    · have lL := twoT_length zs j
      have oL := twoT_ok oa j
      have lxy := twoT_xy zs j
      rcases hs : twoT zs j with ⟨L, x, y, held⟩
      rw [hs] at lL oL lxy o1
      have lL : L.length = 25 := by rw [← ha]; exact lL
      have oL1 : Ok L := oL.1
      have oL2 : held < 18446744073709551616 := oL.2
      have lx : x < 5 := lxy.1
      have ly : y < 5 := lxy.2
      have o1 : Own wr w.heap.size 58 .u64 L := o1
      clear oL lxy
      have HS := Lib.hid hs
      clear hs
      obtain ⟨to, ht⟩ : ∃ l, laneN (y + 5) (2 * x + 3 * y + 5) = l := ⟨_, rfl⟩
      have h1 : to < 25 := by rw [← ht]; exact laneN_lt _ _
      have h1' : (to : Int) < 25 := by omega
      have hc1 := o1.cell (i := to) (by omega)
      have hf1 := o1.frozen to
      obtain ⟨y', hy'⟩ : ∃ l, (2 * x + 3 * y) % 5 = l := ⟨_, rfl⟩
      have e1 : (2 * (x : Int) + 3 * (y : Int)) % 5 = (y' : Int) := by omega
      have e2 : (2 * (x : Int) + 3 * (y : Int)).tmod 5 = (y' : Int) := by rw [← hy']; rfl
      obtain ⟨m, hm⟩ : ∃ m, (j + 1) * (j + 2) = m := ⟨_, rfl⟩
      have hm1 : m ≤ 24 * 25 := by rw [← hm]; exact Nat.mul_le_mul (by omega) (by omega)
      have hm' : ((j : Int) + 1) * ((j : Int) + 2) = (m : Int) := by rw [← hm]; simp
      obtain ⟨r, hr⟩ : ∃ r, rotl held ((j + 1) * (j + 2) / 2 % 64) = r := ⟨_, rfl⟩
      have hr2 : rotl held (m / 2 % 64) = r := by rw [← hm]; exact hr
      have e3 : IntKind.i64.wrap (m : Int) = (m : Int) := by rw [IntKind.wrap_i64]; omega
      have e4 : (m : Int).tdiv 2 = ((m / 2 : Nat) : Int) := rfl
      go_wp2_with fail
      refine (lane_any _ _ (y + 5) (2 * x + 3 * y + 5) to _ ?_ ?_ (by omega) (by omega) ht).mono ?_
      · omega
      · omega
      rintro e w1 ⟨rfl, rfl⟩
      go_wp2_with fail
      refine (left_any held (m / 2) _ oL2 (by omega)).mono ?_
      rw [hr2]
      rintro e w2 ⟨rfl, rfl⟩
      go_wp2_with fail
      exact ⟨TwoRel.step hj5 HS.out o1 o2 hb ht hr hy' rfl rfl, by simp [intOf]; omega⟩
    · obtain rfl : j = 24 := by omega
      have lp := twoT_length zs 24
      generalize hpp : (twoT zs 24).l = pp at *
      have HP := TwoE.mk hpp
      clear hpp
      rw [ha] at lp
      go_wp2_with (first | refine own_load o1 rfl 58 (.tmp 1) rfl rfl 25 33 lp (by kernel_rfl) (by kernel_rfl) ?_ | refine wpList_store_row rfl 58 (.tmp 2) (.tmp 46) rfl (w.heap.size + 1) (lim .u64 pp) rfl rfl 58 _ o2 (by rw [lim_size, lp]; kernel_rfl) (by rw [lim_size, lim_size, lp]; rfl) (lim_one _ _) ?_)
      have o3' : Own (wr.setRow (w.heap.size + 1) (lim .u64 pp)) (w.heap.size + 1) 58 .u64 pp := setRow_heap _ _ _ _ _ _ o2
      exact bodyPost_ret (results_cell_row rfl _ _ (w.heap.size + 1) 58 (lim .u64 pp) (0, 0) (.array 25 33) rfl o3' (by kernel_rfl) rfl (by rw [lim_size, lp]; kernel_rfl)) rfl ⟨by rw [HP.eq], below_setRow hb (by omega) _⟩
end Go.Proofs.Ytoocoobgidoceaa
namespace Go.Proofs.Ytoocoobgidoceaa
open Go.RowKit
set_option linter.unusedVariables false

theorem i64_xor_small (a b : Nat) (ha : a < 256) (hb : b < 256) : bits .xor .i64 (a : Int) (b : Int) = ((a ^^^ b : Nat) : Int) := by
  have hx : a ^^^ b < 2 ^ 8 := Nat.xor_lt_two_pow (by omega) (by omega)
  show IntKind.i64.wrap ((BitVec.ofInt 64 (a : Int) ^^^ BitVec.ofInt 64 (b : Int)).toNat : Int) = _
  rw [BitVec.toNat_xor, ofInt_u64 a (by omega), ofInt_u64 b (by omega), IntKind.wrap_i64]
  omega
def PmRel (zs : List Nat) (s : Nat) (w : World) (r i : Value) (wr : World) : Prop :=
  ∃ j : Nat, j ≤ 24 ∧ i = .int .i64 (j : Int) ∧ r = .int .i64 (prmR j : Int) ∧ Own wr s 58 .u64 (prmL zs j) ∧ Own wr (s + 1) 58 .u64 (List.replicate 25 0) ∧ Below s w wr
def IoRel (A : List Nat) (R : Nat) (s : Nat) (w : World) (r i : Value) (wr : World) : Prop :=
  ∃ j : Nat, j ≤ 7 ∧ i = .int .i64 (j : Int) ∧ r = .int .i64 (regN R j : Int) ∧ Own wr s 58 .u64 (iotL A R j) ∧ Own wr (s + 1) 58 .u64 (List.replicate 25 0) ∧ Below s w wr
structure PmE (zs pp : List Nat) : Prop where
  eq : prmL zs 24 = pp
structure PmS (zs A : List Nat) (j : Nat) : Prop where
  eq : lin3 (prmL zs j) = A

set_option maxHeartbeats 2000000 in
/-- ref.Permute -/
theorem refperm_any (zs : List Nat) (w : World) (ha : zs.length = 25) (oa : Ok zs) :
    Calls Try.prog 30 #[.agg (lim .u64 zs)] w fun e w' => e = .returned (.agg (lim .u64 (prmL zs 24))) ∧ Below w.heap.size w w' := by
  have hal : Try.prog.arrayLen 58 = 25 := by kernel_rfl
  go_enter Try.func30, Try.ntmps30
  go_wp2_with fail
  go_loopw [3, 4, 5, 6] (fun r i _ _ wr => PmRel zs w.heap.size w r i wr) (fun _ i _ _ _ => 24 - (intOf i).toNat)
  case atStart => exact ⟨0, by omega, rfl, rfl, (Own.new w 58 .u64 zs).alloc _, own_new1 w _ 58 .u64 (List.replicate 25 0), ((Below.refl _ _).alloc (Nat.le_refl _) _).alloc (by simp) _⟩
  case round =>
    obtain ⟨j, hj, rfl, rfl, o1, o2, hb⟩ := hrel
    by_cases hj5 : j < 24
    · have lL : (prmL zs j).length = 25 := by rw [prmL_length, ha]
      have oL := prmL_ok oa j
      have hR := prmR_lt j
      have hd : decide ((j : Int) < 24) = true := decide_eq_true (by omega)
      have l1 : (oneX (prmL zs j) 5).length = 25 := by rw [oneX_length, lL]
      have k1 := oneX_ok oL 5
      have l2 : (twoT (oneX (prmL zs j) 5) 24).l.length = 25 := by rw [twoT_length, l1]
      have k2 := (twoT_ok k1 24).1
      have l3 : (thrX (twoT (oneX (prmL zs j) 5) 24).l 5).length = 25 := by rw [thrX_length, l2]
      have k3 := thrX_ok k2 5
      have H1 := Lib.hid (fun W => sone_any (prmL zs j) W lL oL)
      have H2 := Lib.hid (fun W => two_any (oneX (prmL zs j) 5) W l1 k1)
      have H3 := Lib.hid (fun W => three_any (twoT (oneX (prmL zs j) 5) 24).l W l2 k2)
      have hA : lin3 (prmL zs j) = thrX (twoT (oneX (prmL zs j) 5) 24).l 5 := rfl
      clear k1 k2 l1 l2
      generalize thrX (twoT (oneX (prmL zs j) 5) 24).l 5 = A at *
      have HA := PmS.mk hA
      clear hA
      generalize (twoT (oneX (prmL zs j) 5) 24).l = A2 at *
      generalize (oneX (prmL zs j) 5) = A1 at *
      have HE : iotL (lin3 (prmL zs j)) (prmR j) 7 = prmL zs (j + 1) := rfl
      rw [HA.eq] at HE
      clear HA
      have HR : regN (prmR j) 7 = prmR (j + 1) := rfl
      have HER := Lib.hid (And.intro HE HR)
      clear HE HR
      generalize prmL zs j = L at *
      generalize prmR j = R at *
      go_wp2_with (refine own_load o1 rfl 58 (.tmp 1) rfl rfl 25 33 lL (by kernel_rfl) (by kernel_rfl) ?_)
      refine (H1.out _).mono ?_
      rintro e w1 ⟨rfl, b1⟩
      go_wp2_with fail
      refine (H2.out _).mono ?_
      rintro e w2 ⟨rfl, b2⟩
      go_wp2_with fail
      refine (H3.out _).mono ?_
      rintro e w3 ⟨rfl, b3⟩
      have bb := b1.trans ((b2.trans (b3.mono b2.size)).mono b1.size)
      have o1' := o1.bel bb
      have o2' := o2.bel bb
      have hb' := hb.trans (bb.mono (Nat.le_of_lt o1.lt))
      clear o1 o2 hb b1 b2 b3 bb H1 H2 H3
      go_wp2_with (refine wpList_store_row rfl 58 (.tmp 1) (.tmp 14) rfl w.heap.size (lim .u64 A) rfl rfl 58 _ o1' (by rw [lim_size, l3]; kernel_rfl) (by rw [lim_size, lim_size, l3, lL]) (lim_one _ _) ?_)
      have o1 : Own (w3.setRow w.heap.size (lim .u64 A)) w.heap.size 58 .u64 A := setRow_heap _ _ _ _ _ _ o1'
      have o2 : Own (w3.setRow w.heap.size (lim .u64 A)) (w.heap.size + 1) 58 .u64 (List.replicate 25 0) := (setRow_other _ _ _ _ (by omega)).trans o2'
      have hb : Below w.heap.size w (w3.setRow w.heap.size (lim .u64 A)) := below_setRow hb' (Nat.le_refl _) _
      generalize w3.setRow w.heap.size (lim .u64 A) = W at *
      clear o1' o2' hb'
      go_loopw [3, 5, 6] (fun r i _ wr => IoRel A R w.heap.size w r i wr) (fun _ i _ _ => 7 - (intOf i).toNat)
      case atStart => exact ⟨0, by omega, rfl, rfl, o1, o2, hb⟩
      case round =>
        clear o1 o2 hb
        obtain ⟨k, hk, rfl, rfl, o1, o2, hb⟩ := hrel
        by_cases hk5 : k < 7
        · have hr := regN_lt hR k
          have lI : (iotL A R k).length = 25 := by rw [iotL_length, l3]
          have oI := iotL_ok k3 R (j := k) (by omega)
          have hQ := pow_pow_lt hk5
          obtain ⟨q, hq⟩ : ∃ q, 2 ^ k = q := ⟨_, rfl⟩
          have hq1 : 1 ≤ q := by rw [← hq]; exact Nat.one_le_two_pow
          have hq2 : q ≤ 64 := by rw [← hq]; exact Nat.pow_le_pow_right (by decide) (by omega : k ≤ 6)
          have hqi : (2 : Int) ^ k = (q : Int) := by rw [← hq]; simp
          rw [hq] at hQ
          have HS := Lib.hid (show iotL A R (k + 1) = (if regN R k % 2 = 1 then (iotL A R k).set 0 (nth (iotL A R k) 0 ^^^ 2 ^ (2 ^ k - 1)) else iotL A R k) from rfl)
          have HT := Lib.hid (show regN R (k + 1) = (if 255 < regN R k * 2 then (regN R k * 2 - 256) ^^^ 113 else regN R k * 2) from rfl)
          generalize regN R k = r at *
          generalize iotL A R k = I at *
          have hc0 := o1.cell (i := 0) (by omega)
          have hf0 := o1.frozen 0
          have step1 : ∀ (v : Int) (wr' : World), v = (regN R (k + 1) : Int) → Own wr' w.heap.size 58 .u64 (iotL A R (k + 1)) → Own wr' (w.heap.size + 1) 58 .u64 (List.replicate 25 0) → Below w.heap.size w wr' →
              IoRel A R w.heap.size w (.int .i64 v) (.int .i64 ((k : Int) + 1)) wr' ∧ 7 - (intOf (.int .i64 ((k : Int) + 1))).toNat < 7 - (intOf (.int .i64 (k : Int))).toNat := by
            rintro v wr' rfl p1 p2 p3
            exact ⟨⟨k + 1, by omega, rfl, rfl, p1, p2, p3⟩, by simp [intOf]; omega⟩
          have ep : bits .xor .u64 (nth I 0 : Int) (IntKind.u64.wrap (2 ^ (q - 1))) = ((nth I 0 ^^^ 2 ^ (q - 1) : Nat) : Int) := by
            have e0 : IntKind.u64.wrap (2 ^ (q - 1)) = ((2 ^ (q - 1) : Nat) : Int) := by
              rw [show ((2 : Int) ^ (q - 1)) = ((2 ^ (q - 1) : Nat) : Int) by simp, IntKind.wrap_u64]
              generalize (2 : Nat) ^ (q - 1) = z at hQ ⊢
              omega
            rw [e0, u64_xor_nat _ _ (oI.getD _) hQ]
          have HEP := Lib.hid ep
          have HST := Lib.hid step1
          clear ep step1
          by_cases h1 : r % 2 = 1
          · have h1' : (r : Int) % 2 = 1 := by omega
            by_cases h2 : 255 < r * 2
            · have h2' : (255 : Int) < (r : Int) * 2 := by omega
              go_wp2_with fail
              rw [HEP.out]
              exact HST.out _ _ (by rw [HT.out, if_pos h2, ← i64_xor_small (r * 2 - 256) 113 (by omega) (by decide)]; congr 1; omega) (by rw [HS.out, if_pos h1, hq]; exact o1.set 0 _) (o2.far (by simp) _) (hb.setCell (p := ⟨w.heap.size, 0, none⟩) (Nat.le_refl _) _)
            · have h2' : (r : Int) * 2 ≤ 255 := by omega
              go_wp2_with fail
              rw [HEP.out]
              exact HST.out _ _ (by rw [HT.out, if_neg h2]; omega) (by rw [HS.out, if_pos h1, hq]; exact o1.set 0 _) (o2.far (by simp) _) (hb.setCell (p := ⟨w.heap.size, 0, none⟩) (Nat.le_refl _) _)
          · have h1' : (r : Int) % 2 = 0 := by omega
            by_cases h2 : 255 < r * 2
            · have h2' : (255 : Int) < (r : Int) * 2 := by omega
              go_wp2_with fail
              exact HST.out _ _ (by rw [HT.out, if_pos h2, ← i64_xor_small (r * 2 - 256) 113 (by omega) (by decide)]; congr 1; omega) (by rw [HS.out, if_neg h1]; exact o1) o2 hb
            · have h2' : (r : Int) * 2 ≤ 255 := by omega
              go_wp2_with fail
              exact HST.out _ _ (by rw [HT.out, if_neg h2]; omega) (by rw [HS.out, if_neg h1]; exact o1) o2 hb
        · obtain rfl : k = 7 := by omega
          have HER' := HER.out
          rw [HER'.1] at o1
          rw [HER'.2]
          clear HER'
          go_wp2_with fail
          exact ⟨⟨j + 1, by omega, rfl, rfl, o1, o2, hb⟩, by simp [intOf]; omega⟩
    · obtain rfl : j = 24 := by omega
      have lp := prmL_length zs 24
      generalize hpp : prmL zs 24 = pp at *
      have HP := PmE.mk hpp
      clear hpp
      rw [ha] at lp
      go_wp2_with (first | refine own_load o1 rfl 58 (.tmp 1) rfl rfl 25 33 lp (by kernel_rfl) (by kernel_rfl) ?_ | refine wpList_store_row rfl 58 (.tmp 2) (.tmp 40) rfl (w.heap.size + 1) (lim .u64 pp) rfl rfl 58 _ o2 (by rw [lim_size, lp]; kernel_rfl) (by rw [lim_size, lim_size, lp]; rfl) (lim_one _ _) ?_)
      have o3' : Own (wr.setRow (w.heap.size + 1) (lim .u64 pp)) (w.heap.size + 1) 58 .u64 pp := setRow_heap _ _ _ _ _ _ o2
      exact bodyPost_ret (results_cell_row rfl _ _ (w.heap.size + 1) 58 (lim .u64 pp) (0, 0) (.array 25 33) rfl o3' (by kernel_rfl) rfl (by rw [lim_size, lp]; kernel_rfl)) rfl ⟨by rw [HP.eq], below_setRow hb (by omega) _⟩
end Go.Proofs.Ytoocoobgidoceaa
