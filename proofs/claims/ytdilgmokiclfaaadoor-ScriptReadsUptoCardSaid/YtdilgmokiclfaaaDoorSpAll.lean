import Derived.Test.YtdilgmokiclfaaaDoorNatAll
import Derived.KernelRfl
import Derived.Test.YtdilgmokiclfaaaDoorProg
import Derived.ArgAppend
import Derived.Laws.IdiomStrings
import Derived.Laws.BytesArg
import Derived.StillTailTactics
import Derived.Deep.WholeRow
import Derived.Laws.BitsAllLaws
import Derived.Laws.Tables
import Derived.Laws.CopyOwn
import Derived.Deep.RegionWith
namespace Go.Proofs.YtdilgmokiclfaaaDoor

/-- A lane, turned to the left by one. -/
def r1 (x : Nat) : Nat := x * 2 % 18446744073709551616 + x / 9223372036854775808
def rotl (x : Nat) : Nat → Nat | 0 => x | n + 1 => r1 (rotl x n)
theorem r1_lt {x : Nat} (h : x < 18446744073709551616) : r1 x < 18446744073709551616 := by unfold r1; omega
theorem rotl_lt {x : Nat} (h : x < 18446744073709551616) (n : Nat) : rotl x n < 18446744073709551616 := by
  induction n with
  | zero => exact h
  | succ n ih => exact r1_lt ih
theorem rotl_add (x m n : Nat) : rotl (rotl x m) n = rotl x (m + n) := by
  induction n with
  | zero => rfl
  | succ n ih => show r1 _ = r1 _; rw [ih]; rfl
theorem rotl_aux {k : Nat} (hk : k ≤ 64) {x : Nat} (hx : x < 18446744073709551616) :
    rotl x k = x % 2 ^ (64 - k) * 2 ^ k + x / 2 ^ (64 - k) := by
  induction k with
  | zero => show x = _; rw [Nat.mod_eq_of_lt (by simpa using hx), Nat.div_eq_of_lt (by simpa using hx)]; simp
  | succ k ih =>
    obtain ⟨m, hm⟩ : ∃ m, 64 - (k + 1) = m := ⟨_, rfl⟩
    have hm1 : 64 - k = m + 1 := by omega
    have hpq : 2 ^ m * 2 ^ k = 9223372036854775808 := by rw [← Nat.pow_add, show m + k = 63 by omega]
    have hq := Nat.pow_pos (n := m) (a := 2) (by decide)
    have hp := Nat.pow_pos (n := k) (a := 2) (by decide)
    show r1 (rotl x k) = _
    rw [ih (by omega), hm, hm1, Nat.pow_succ, Nat.pow_succ]
    generalize 2 ^ m = Q at *
    generalize 2 ^ k = P at *
    have h1 : x / (Q * 2) = x / Q / 2 := by rw [Nat.div_div_eq_div_mul]
    have h2 : x % (Q * 2) = x / Q % 2 * Q + x % Q := by
      rw [Nat.mod_mul, Nat.add_comm, Nat.mul_comm]
    have hu : x / Q < 2 * P := by
      rw [Nat.div_lt_iff_lt_mul hq, Nat.mul_assoc, Nat.mul_comm P, hpq]; omega
    have hl : x % Q * P + P ≤ 9223372036854775808 := by
      rw [← hpq, ← Nat.succ_mul]; exact Nat.mul_le_mul_right _ (Nat.mod_lt _ hq)
    rw [h1, h2, Nat.add_mul, Nat.mul_assoc, hpq, ← Nat.mul_assoc]
    generalize x / Q = u at *
    generalize x % Q * P = l at *
    unfold r1
    omega
theorem mul_mod_pow {k : Nat} (hk : k ≤ 64) (x : Nat) : x * 2 ^ k % 18446744073709551616 = x % 2 ^ (64 - k) * 2 ^ k := by
  have h : (18446744073709551616 : Nat) = 2 ^ (64 - k) * 2 ^ k := by rw [← Nat.pow_add, Nat.sub_add_cancel hk]
  rw [h, Nat.mul_mod_mul_right]
theorem rotl_shift {k : Nat} (hk : k ≤ 64) {x : Nat} (hx : x < 18446744073709551616) :
    x * 2 ^ k % 18446744073709551616 ||| x / 2 ^ (64 - k) = rotl x k := by
  rw [rotl_aux hk hx, mul_mod_pow hk, Nat.mul_comm _ (2 ^ k), ← Nat.two_pow_add_eq_or_of_lt]
  rw [Nat.div_lt_iff_lt_mul (Nat.pow_pos (by decide)), ← Nat.pow_add, Nat.add_sub_cancel' hk]
  exact hx
theorem rotl_64 {x : Nat} (hx : x < 18446744073709551616) : rotl x 64 = x := by
  rw [rotl_aux (Nat.le_refl _) hx]; simp [Nat.mod_one]
theorem tb_r1 {x : Nat} (hx : x < 18446744073709551616) (i : Nat) : (r1 x).testBit i = if i = 0 then x.testBit 63 else (decide (i < 64) && x.testBit (i - 1)) := by
  have h1 : r1 x = x % 9223372036854775808 * 2 + x / 9223372036854775808 := by unfold r1; omega
  have h2 : x / 9223372036854775808 < 2 := by omega
  cases i with
  | zero =>
    have h4 : (r1 x % 2 = 1) = (x / 2 ^ 63 % 2 = 1) := by
      have : (2 : Nat) ^ 63 = 9223372036854775808 := rfl
      rw [this, h1, Nat.add_comm, Nat.add_mul_mod_self_right]
    rw [if_pos rfl, Nat.testBit_zero, Nat.testBit_eq_decide_div_mod_eq]
    simp only [h4]
  | succ i =>
    have h3 : r1 x / 2 = x % 2 ^ 63 := by
      have : (2 : Nat) ^ 63 = 9223372036854775808 := rfl
      rw [this, h1]
      omega
    have h5 : decide (i < 63) = decide (i + 1 < 64) := decide_eq_decide.2 (by omega)
    have h6 : i + 1 - 1 = i := by omega
    rw [if_neg (by omega), Nat.testBit_succ, h3, Nat.testBit_mod_two_pow, h5, h6]
theorem xor_lt {a b : Nat} (ha : a < 18446744073709551616) (hb : b < 18446744073709551616) : a ^^^ b < 18446744073709551616 := Nat.xor_lt_two_pow (n := 64) ha hb
theorem and_lt {a b : Nat} (hb : b < 18446744073709551616) : a &&& b < 18446744073709551616 := Nat.lt_of_le_of_lt Nat.and_le_right hb
theorem r1_xor {a b : Nat} (ha : a < 18446744073709551616) (hb : b < 18446744073709551616) : r1 (a ^^^ b) = r1 a ^^^ r1 b := by
  apply Nat.eq_of_testBit_eq
  intro i
  rw [Nat.testBit_xor, tb_r1 (xor_lt ha hb), tb_r1 ha, tb_r1 hb]
  cases i with
  | zero => simp
  | succ i => simp only [Nat.testBit_xor]; cases decide (i + 1 < 64) <;> simp
theorem rotl_xor {a b : Nat} (ha : a < 18446744073709551616) (hb : b < 18446744073709551616) (n : Nat) : rotl (a ^^^ b) n = rotl a n ^^^ rotl b n := by
  induction n with
  | zero => rfl
  | succ n ih => show r1 _ = r1 _ ^^^ r1 _; rw [ih, r1_xor (rotl_lt ha n) (rotl_lt hb n)]
theorem rotl_inj {a b n : Nat} (hn : n ≤ 64) (ha : a < 18446744073709551616) (hb : b < 18446744073709551616) (h : rotl a n = rotl b n) : a = b := by
  have h1 : rotl (rotl a n) (64 - n) = rotl (rotl b n) (64 - n) := by rw [h]
  rwa [rotl_add, rotl_add, Nat.add_sub_cancel' hn, rotl_64 ha, rotl_64 hb] at h1

/-- The loops of a round, each so far as i steps go. -/
def trl : List Nat := [0, 1, 62, 28, 27, 36, 44, 6, 55, 20, 3, 10, 43, 25, 39, 41, 45, 15, 21, 8, 18, 2, 61, 56, 14]
def trn : Nat → Nat := nth trl
def rcs : List Nat := [0x0000000000000001, 0x0000000000008082, 0x800000000000808a, 0x8000000080008000, 0x000000000000808b, 0x0000000080000001, 0x8000000080008081, 0x8000000000008009, 0x000000000000008a, 0x0000000000000088, 0x0000000080008009, 0x000000008000000a, 0x000000008000808b, 0x800000000000008b, 0x8000000000008089, 0x8000000000008003, 0x8000000000008002, 0x8000000000000080, 0x000000000000800a, 0x800000008000000a, 0x8000000080008081, 0x8000000000008080, 0x0000000080000001, 0x8000000080008008]
def colN (a : List Nat) : Nat → List Nat
  | 0 => List.replicate 5 0
  | i + 1 => (colN a i).set (i % 5) (nth (colN a i) (i % 5) ^^^ nth a i)
def theta1 (a c : List Nat) (i : Nat) : Nat := nth a i ^^^ (nth c ((i % 5 + 4) % 5) ^^^ rotl (nth c ((i % 5 + 1) % 5)) 1)
def dst (i : Nat) : Nat := i / 5 + 5 * ((2 * (i % 5) + 3 * (i / 5)) % 5)
def movN (a c : List Nat) : Nat → List Nat
  | 0 => List.replicate 25 0
  | i + 1 => (movN a c i).set (dst i) (rotl (theta1 a c i) (trn i))
def chi1 (m : List Nat) (i : Nat) : Nat := nth m i ^^^ ((18446744073709551615 ^^^ nth m (i - i % 5 + (i % 5 + 1) % 5)) &&& nth m (i - i % 5 + (i % 5 + 2) % 5))
def chiN (a m : List Nat) : Nat → List Nat
  | 0 => a
  | i + 1 => (chiN a m i).set i (chi1 m i)
def roundS (a : List Nat) (rc : Nat) : List Nat :=
  let z := chiN a (movN a (colN a 25) 25) 25
  z.set 0 (nth z 0 ^^^ rc)
def permN (a : List Nat) : Nat → List Nat
  | 0 => a
  | i + 1 => roundS (permN a i) (nth rcs i)
theorem colN_length (a : List Nat) (i : Nat) : (colN a i).length = 5 := by induction i <;> simp_all [colN]
theorem movN_length (a c : List Nat) (i : Nat) : (movN a c i).length = 25 := by induction i <;> simp_all [movN]
theorem chiN_length (a m : List Nat) (i : Nat) : (chiN a m i).length = a.length := by induction i <;> simp_all [chiN]
theorem roundS_length (a : List Nat) (c : Nat) : (roundS a c).length = a.length := by simp [roundS, chiN_length]
theorem permN_length (a : List Nat) (i : Nat) : (permN a i).length = a.length := by induction i <;> simp_all [permN, roundS_length]
theorem colN_ok {a : List Nat} (oa : Ok a) (i : Nat) : Ok (colN a i) := by
  induction i with
  | zero => exact Ok.replicate 5
  | succ i ih => exact ih.set (xor_lt (ih.getD _) (oa.getD _)) _
theorem theta1_lt {a c : List Nat} (oa : Ok a) (oc : Ok c) (i : Nat) : theta1 a c i < 18446744073709551616 :=
  xor_lt (oa.getD _) (xor_lt (oc.getD _) (rotl_lt (oc.getD _) _))
theorem movN_ok {a c : List Nat} (oa : Ok a) (oc : Ok c) (i : Nat) : Ok (movN a c i) := by
  induction i with
  | zero => exact Ok.replicate 25
  | succ i ih => exact ih.set (rotl_lt (theta1_lt oa oc i) _) _
theorem chi1_lt {m : List Nat} (om : Ok m) (i : Nat) : chi1 m i < 18446744073709551616 := xor_lt (om.getD _) (and_lt (om.getD _))
theorem chiN_ok {a m : List Nat} (oa : Ok a) (om : Ok m) (i : Nat) : Ok (chiN a m i) := by
  induction i with
  | zero => exact oa
  | succ i ih => exact ih.set (chi1_lt om i) _
theorem roundS_ok {a : List Nat} (oa : Ok a) {rc : Nat} (h : rc < 18446744073709551616) : Ok (roundS a rc) := by
  have h1 := chiN_ok oa (movN_ok oa (colN_ok oa 25) 25) 25
  exact h1.set (xor_lt (h1.getD 0) h) 0
theorem rcs_ok : Ok rcs := by
  have h : rcs.all (fun x => decide (x < 18446744073709551616)) = true := by rfl
  intro x hx
  exact of_decide_eq_true (List.all_eq_true.1 h x hx)
theorem permN_ok {a : List Nat} (oa : Ok a) (i : Nat) : Ok (permN a i) := by
  induction i with
  | zero => exact oa
  | succ i ih => exact roundS_ok ih (rcs_ok.getD i)
theorem trl_lt (j : Nat) : nth trl j < 64 := by
  have h : trl.all (fun x => decide (x < 64)) = true := by rfl
  unfold nth
  rw [List.getD_eq_getElem?_getD]
  rcases Nat.lt_or_ge j trl.length with hk | hk
  · rw [List.getElem?_eq_getElem hk]; exact of_decide_eq_true (List.all_eq_true.1 h _ (List.getElem_mem hk))
  · rw [List.getElem?_eq_none hk]; decide
end Go.Proofs.YtdilgmokiclfaaaDoor
namespace Go.Proofs.YtdilgmokiclfaaaDoor

/-- What the document's answer reckons, step by step; coordinates are handed over with 5 added. -/
def laneN (p q : Nat) : Nat := p % 5 + 5 * (q % 5)
theorem laneN_lt (p q : Nat) : laneN p q < 25 := by unfold laneN; omega
def oneC (a : List Nat) (p : Nat) : Nat → Nat
  | 0 => 0
  | y + 1 => oneC a p y ^^^ nth a (laneN p (y + 5))
def oneV (a : List Nat) (x c d y : Nat) : Nat := nth a (laneN (x + 5) (y + 5)) ^^^ (c ^^^ rotl d 1)
def oneO (a out : List Nat) (x c d : Nat) : Nat → List Nat
  | 0 => out
  | y + 1 => (oneO a out x c d y).set (laneN (x + 5) (y + 5)) (oneV a x c d y)
def oneX (a : List Nat) : Nat → List Nat
  | 0 => a
  | x + 1 => oneO a (oneX a x) x (oneC a (x + 4) 5) (oneC a (x + 6) 5) 5
structure TwoS where
  l : List Nat
  x : Nat
  y : Nat
  held : Nat
def twoT (a : List Nat) : Nat → TwoS
  | 0 => ⟨a, 1, 0, nth a (laneN 6 5)⟩
  | t + 1 => ⟨(twoT a t).l.set (laneN ((twoT a t).y + 5) (2 * (twoT a t).x + 3 * (twoT a t).y + 5)) (rotl (twoT a t).held ((t + 1) * (t + 2) / 2 % 64)), (twoT a t).y, (2 * (twoT a t).x + 3 * (twoT a t).y) % 5,
    nth (twoT a t).l (laneN ((twoT a t).y + 5) (2 * (twoT a t).x + 3 * (twoT a t).y + 5))⟩
def thrV (a : List Nat) (x y : Nat) : Nat := nth a (laneN (x + 5) (y + 5)) ^^^ ((18446744073709551615 ^^^ nth a (laneN (x + 6) (y + 5))) &&& nth a (laneN (x + 7) (y + 5)))
def thrY (a out : List Nat) (x : Nat) : Nat → List Nat
  | 0 => out
  | y + 1 => (thrY a out x y).set (laneN (x + 5) (y + 5)) (thrV a x y)
def thrX (a : List Nat) : Nat → List Nat
  | 0 => a
  | x + 1 => thrY a (thrX a x) x 5
def regS (r : Nat) : Nat := if 255 < r * 2 then (r * 2 - 256) ^^^ 113 else r * 2
def regN (r : Nat) : Nat → Nat
  | 0 => r
  | j + 1 => regS (regN r j)
def iotL (a : List Nat) (r : Nat) : Nat → List Nat
  | 0 => a
  | j + 1 => if regN r j % 2 = 1 then (iotL a r j).set 0 (nth (iotL a r j) 0 ^^^ 2 ^ (2 ^ j - 1)) else iotL a r j
def prmR : Nat → Nat
  | 0 => 1
  | i + 1 => regN (prmR i) 7
def lin3 (a : List Nat) : List Nat := thrX (twoT (oneX a 5) 24).l 5
def prmL (a : List Nat) : Nat → List Nat
  | 0 => a
  | i + 1 => iotL (lin3 (prmL a i)) (prmR i) 7

theorem oneC_lt {a : List Nat} (oa : Ok a) (p y : Nat) : oneC a p y < 18446744073709551616 := by
  induction y with
  | zero => show (0 : Nat) < _; decide
  | succ y ih => exact xor_lt ih (oa.getD _)
theorem oneV_lt {a : List Nat} (oa : Ok a) {x c d y : Nat} (hc : c < 18446744073709551616) (hd : d < 18446744073709551616) : oneV a x c d y < 18446744073709551616 := xor_lt (oa.getD _) (xor_lt hc (rotl_lt hd _))
theorem oneO_length (a out : List Nat) (x c d y : Nat) : (oneO a out x c d y).length = out.length := by induction y <;> simp_all [oneO]
theorem oneX_length (a : List Nat) (x : Nat) : (oneX a x).length = a.length := by induction x <;> simp_all [oneX, oneO_length]
theorem oneO_ok {a out : List Nat} (oa : Ok a) (oo : Ok out) {x c d : Nat} (hc : c < 18446744073709551616) (hd : d < 18446744073709551616) (y : Nat) : Ok (oneO a out x c d y) := by
  induction y with
  | zero => exact oo
  | succ y ih => exact ih.set (oneV_lt oa hc hd) _
theorem oneX_ok {a : List Nat} (oa : Ok a) (x : Nat) : Ok (oneX a x) := by
  induction x with
  | zero => exact oa
  | succ x ih => exact oneO_ok oa ih (oneC_lt oa _ _) (oneC_lt oa _ _) _
theorem twoT_length (a : List Nat) (t : Nat) : (twoT a t).l.length = a.length := by induction t <;> simp_all [twoT]
theorem twoT_xy (a : List Nat) (t : Nat) : (twoT a t).x < 5 ∧ (twoT a t).y < 5 := by
  induction t with
  | zero => exact ⟨(by decide : (1:Nat) < 5), (by decide : (0:Nat) < 5)⟩
  | succ t ih => exact ⟨ih.2, Nat.mod_lt _ (by decide)⟩
theorem twoT_ok {a : List Nat} (oa : Ok a) (t : Nat) : Ok (twoT a t).l ∧ (twoT a t).held < 18446744073709551616 := by
  induction t with
  | zero => exact ⟨oa, oa.getD _⟩
  | succ t ih => exact ⟨ih.1.set (rotl_lt ih.2 _) _, ih.1.getD _⟩
theorem thrV_lt {a : List Nat} (oa : Ok a) (x y : Nat) : thrV a x y < 18446744073709551616 := xor_lt (oa.getD _) (and_lt (oa.getD _))
theorem thrY_length (a out : List Nat) (x y : Nat) : (thrY a out x y).length = out.length := by induction y <;> simp_all [thrY]
theorem thrX_length (a : List Nat) (x : Nat) : (thrX a x).length = a.length := by induction x <;> simp_all [thrX, thrY_length]
theorem thrY_ok {a out : List Nat} (oa : Ok a) (oo : Ok out) (x y : Nat) : Ok (thrY a out x y) := by
  induction y with
  | zero => exact oo
  | succ y ih => exact ih.set (thrV_lt oa _ _) _
theorem thrX_ok {a : List Nat} (oa : Ok a) (x : Nat) : Ok (thrX a x) := by
  induction x with
  | zero => exact oa
  | succ x ih => exact thrY_ok oa ih _ _
theorem regS_lt {r : Nat} (h : r < 256) : regS r < 256 := by
  unfold regS
  split
  · exact Nat.xor_lt_two_pow (n := 8) (by omega) (by decide)
  · omega
theorem regN_lt {r : Nat} (h : r < 256) (j : Nat) : regN r j < 256 := by
  induction j with
  | zero => exact h
  | succ j ih => exact regS_lt ih
theorem prmR_lt (i : Nat) : prmR i < 256 := by
  induction i with
  | zero => show (1 : Nat) < 256; decide
  | succ i ih => exact regN_lt ih 7
theorem pow_pow_lt {j : Nat} (h : j < 7) : 2 ^ (2 ^ j - 1) < 18446744073709551616 := by
  have : j = 0 ∨ j = 1 ∨ j = 2 ∨ j = 3 ∨ j = 4 ∨ j = 5 ∨ j = 6 := by omega
  rcases this with rfl | rfl | rfl | rfl | rfl | rfl | rfl <;> decide
theorem iotL_length (a : List Nat) (r j : Nat) : (iotL a r j).length = a.length := by
  induction j with
  | zero => rfl
  | succ j ih => unfold iotL; split <;> simp [ih]
theorem iotL_ok {a : List Nat} (oa : Ok a) (r : Nat) {j : Nat} (hj : j ≤ 7) : Ok (iotL a r j) := by
  induction j with
  | zero => exact oa
  | succ j ih =>
    have := ih (by omega)
    unfold iotL
    split
    · exact this.set (xor_lt (this.getD _) (pow_pow_lt (by omega))) _
    · exact this
theorem lin3_length (a : List Nat) : (lin3 a).length = a.length := by simp [lin3, thrX_length, twoT_length, oneX_length]
theorem lin3_ok {a : List Nat} (oa : Ok a) : Ok (lin3 a) := thrX_ok (twoT_ok (oneX_ok oa 5) 24).1 5
theorem prmL_length (a : List Nat) (i : Nat) : (prmL a i).length = a.length := by induction i <;> simp_all [prmL, iotL_length, lin3_length]
theorem prmL_ok {a : List Nat} (oa : Ok a) (i : Nat) : Ok (prmL a i) := by
  induction i with
  | zero => exact oa
  | succ i ih => exact iotL_ok (lin3_ok ih) _ (Nat.le_refl _)

/-! The plain law: both reckon the same. -/
def thetas (a : List Nat) : List Nat := (List.range 25).map (theta1 a (colN a 25))
theorem list25 {l : List Nat} (h : l.length = 25) : ∃ a0 a1 a2 a3 a4 a5 a6 a7 a8 a9 a10 a11 a12 a13 a14 a15 a16 a17 a18 a19 a20 a21 a22 a23 a24, l = [a0, a1, a2, a3, a4, a5, a6, a7, a8, a9, a10, a11, a12, a13, a14, a15, a16, a17, a18, a19, a20, a21, a22, a23, a24] := by
  match l, h with
  | [a0, a1, a2, a3, a4, a5, a6, a7, a8, a9, a10, a11, a12, a13, a14, a15, a16, a17, a18, a19, a20, a21, a22, a23, a24], _ => exact ⟨_, _, _, _, _, _, _, _, _, _, _, _, _, _, _, _, _, _, _, _, _, _, _, _, _, rfl⟩
def movV (b : List Nat) : Nat → List Nat
  | 0 => List.replicate 25 0
  | i + 1 => (movV b i).set (dst i) (rotl (nth b i) (trn i))
theorem one_theta {a : List Nat} (h : a.length = 25) : oneX a 5 = thetas a := by
  obtain ⟨a0, a1, a2, a3, a4, a5, a6, a7, a8, a9, a10, a11, a12, a13, a14, a15, a16, a17, a18, a19, a20, a21, a22, a23, a24, rfl⟩ := list25 h
  kernel_rfl
theorem two_mov {b : List Nat} (h : b.length = 25) : (twoT b 24).l = movV b 25 := by
  obtain ⟨a0, a1, a2, a3, a4, a5, a6, a7, a8, a9, a10, a11, a12, a13, a14, a15, a16, a17, a18, a19, a20, a21, a22, a23, a24, rfl⟩ := list25 h
  kernel_rfl
theorem thr_chi {m z : List Nat} (h : m.length = 25) (hz : z.length = 25) : thrX m 5 = chiN z m 25 := by
  obtain ⟨a0, a1, a2, a3, a4, a5, a6, a7, a8, a9, a10, a11, a12, a13, a14, a15, a16, a17, a18, a19, a20, a21, a22, a23, a24, rfl⟩ := list25 h
  obtain ⟨b0, b1, b2, b3, b4, b5, b6, b7, b8, b9, b10, b11, b12, b13, b14, b15, b16, b17, b18, b19, b20, b21, b22, b23, b24, rfl⟩ := list25 hz
  kernel_rfl
theorem nth_thetas (a : List Nat) {i : Nat} (h : i < 25) : nth (thetas a) i = theta1 a (colN a 25) i := by
  unfold nth thetas
  rw [List.getD_eq_getElem?_getD, List.getElem?_map, List.getElem?_range h]
  rfl
theorem mov_thetas (a : List Nat) : ∀ i, i ≤ 25 → movV (thetas a) i = movN a (colN a 25) i
  | 0, _ => rfl
  | i + 1, h => by rw [movV, movN, mov_thetas a i (by omega), nth_thetas a (by omega)]
theorem lin3_eq {a : List Nat} (h : a.length = 25) : lin3 a = chiN a (movN a (colN a 25) 25) 25 := by
  have h1 : (thetas a).length = 25 := by simp [thetas]
  rw [lin3, one_theta h, two_mov h1, mov_thetas a 25 (Nat.le_refl _), thr_chi (movN_length _ _ _) h]
/-- The bits of a round's number. -/
def accN (r : Nat) : Nat → Nat
  | 0 => 0
  | j + 1 => if regN r j % 2 = 1 then accN r j ^^^ 2 ^ (2 ^ j - 1) else accN r j
theorem iotL_acc {a : List Nat} (h : 0 < a.length) (r j : Nat) : iotL a r j = a.set 0 (nth a 0 ^^^ accN r j) := by
  induction j with
  | zero =>
    show a = a.set 0 (nth a 0 ^^^ 0)
    rw [Nat.xor_zero]
    cases a with
    | nil => rfl
    | cons x l => rfl
  | succ j ih =>
    unfold iotL accN
    rw [ih]
    split
    · cases a with
      | nil => exact absurd h (by simp)
      | cons x l => show ((x ^^^ accN r j) ^^^ 2 ^ (2 ^ j - 1)) :: l = (x ^^^ (accN r j ^^^ 2 ^ (2 ^ j - 1))) :: l; rw [Nat.xor_assoc]
    · rfl
theorem accs : ∀ i, i < 24 → accN (prmR i) 7 = nth rcs i := by decide
theorem perm_same {a : List Nat} (h : a.length = 25) : ∀ i, i ≤ 24 → prmL a i = permN a i
  | 0, _ => rfl
  | i + 1, hi => by
    have ih := perm_same h i (by omega)
    have hl : (permN a i).length = 25 := by rw [permN_length, h]
    have hl3 : (lin3 (permN a i)).length = 25 := by rw [lin3_length, hl]
    rw [prmL, ih, iotL_acc (by omega), accs i (by omega), permN, roundS, lin3_eq hl]
end Go.Proofs.YtdilgmokiclfaaaDoor
namespace Go.Proofs.YtdilgmokiclfaaaDoor

/-- What a digest is reckoned by, step by step. -/
def padK (n : Nat) : Nat := (136 - (n + 1) % 136) % 136
def padX (bs : List Nat) (k : Nat) : List Nat := bs ++ [1] ++ List.replicate k 0
def padL (bs : List Nat) : List Nat := padX bs (padK bs.length)
def padF (bs : List Nat) : List Nat := (padL bs).set ((padL bs).length - 1) (nth (padL bs) ((padL bs).length - 1) + 128)
def absP (a blk : List Nat) : Nat → List Nat
  | 0 => a
  | i + 1 => (absP a blk i).set (i / 8) (nth (absP a blk i) (i / 8) ^^^ nth blk i * 2 ^ (8 * (i % 8)))
def spN (p : List Nat) : Nat → List Nat
  | 0 => List.replicate 25 0
  | k + 1 => permN (absP (spN p k) (p.drop (136 * k)) 136) 24
def sqz1 (a : List Nat) (i : Nat) : Nat := nth a (i / 8) / 2 ^ (8 * (i % 8)) % 256
def sqzN (a : List Nat) : Nat → List Nat
  | 0 => List.replicate 32 0
  | i + 1 => (sqzN a i).set i (sqz1 a i)
def Byt (l : List Nat) : Prop := ∀ x ∈ l, x < 256
theorem Byt.getD {l : List Nat} (h : Byt l) (k : Nat) : nth l k < 256 := by
  unfold nth
  rw [List.getD_eq_getElem?_getD]
  rcases Nat.lt_or_ge k l.length with hk | hk
  · rw [List.getElem?_eq_getElem hk]; exact h _ (List.getElem_mem hk)
  · rw [List.getElem?_eq_none hk]; decide
theorem Byt.set {l : List Nat} (h : Byt l) {x : Nat} (hx : x < 256) (k : Nat) : Byt (l.set k x) := by
  intro y hy
  rcases List.mem_or_eq_of_mem_set hy with hy | rfl
  · exact h y hy
  · exact hx
theorem Byt.drop {l : List Nat} (h : Byt l) (k : Nat) : Byt (l.drop k) := fun y hy => h y (List.mem_of_mem_drop hy)
theorem padX_length (bs : List Nat) (k : Nat) : (padX bs k).length = bs.length + 1 + k := by simp [padX]; omega
theorem padX_succ (bs : List Nat) (k : Nat) : padX bs (k + 1) = padX bs k ++ [0] := by simp [padX, List.replicate_succ']
theorem padX_byt {bs : List Nat} (h : Byt bs) (k : Nat) : Byt (padX bs k) := by
  intro y hy
  simp only [padX, List.mem_append, List.mem_singleton, List.mem_replicate] at hy
  rcases hy with (hy | rfl) | ⟨_, rfl⟩
  · exact h y hy
  · decide
  · decide
theorem padK_zero {n k : Nat} (h : k ≤ padK n) : (n + 1 + k) % 136 = 0 ↔ k = padK n := by
  unfold padK at *
  omega
theorem padL_length (bs : List Nat) : (padL bs).length = bs.length + 1 + padK bs.length := padX_length _ _
theorem padL_mod (bs : List Nat) : (padL bs).length % 136 = 0 := by
  rw [padL_length]
  exact (padK_zero (Nat.le_refl _)).2 rfl
theorem padF_length (bs : List Nat) : (padF bs).length = (padL bs).length := by simp [padF]
theorem padL_last (bs : List Nat) : nth (padL bs) ((padL bs).length - 1) = 0 ∨ nth (padL bs) ((padL bs).length - 1) = 1 := by
  rw [padL_length]
  unfold padL padX nth
  rw [List.getD_eq_getElem?_getD]
  rcases hk : padK bs.length with _ | k
  · right
    simp
  · left
    rw [List.getElem?_append_right (by simp)]
    simp
theorem padL_byt {bs : List Nat} (h : Byt bs) : Byt (padL bs) := padX_byt h _
theorem padF_byt {bs : List Nat} (h : Byt bs) : Byt (padF bs) := by
  refine (padL_byt h).set ?_ _
  rcases padL_last bs with e | e <;> rw [e] <;> decide
theorem absP_length (a blk : List Nat) (i : Nat) : (absP a blk i).length = a.length := by induction i <;> simp_all [absP]
theorem byte_shift_lt {x : Nat} (h : x < 256) (i : Nat) : x * 2 ^ (8 * (i % 8)) < 18446744073709551616 := by
  have h1 : 2 ^ (8 * (i % 8)) ≤ 2 ^ 56 := Nat.pow_le_pow_right (by decide) (by omega)
  calc x * 2 ^ (8 * (i % 8)) ≤ 255 * 2 ^ 56 := Nat.mul_le_mul (by omega) h1
    _ < 18446744073709551616 := by decide
theorem absP_ok {a blk : List Nat} (oa : Ok a) (ob : Byt blk) (i : Nat) : Ok (absP a blk i) := by
  induction i with
  | zero => exact oa
  | succ i ih => exact ih.set (xor_lt (ih.getD _) (byte_shift_lt (ob.getD _) _)) _
theorem spN_length (p : List Nat) (k : Nat) : (spN p k).length = 25 := by
  induction k with
  | zero => simp [spN]
  | succ k ih => rw [spN, permN_length, absP_length, ih]
theorem spN_ok {p : List Nat} (h : Byt p) (k : Nat) : Ok (spN p k) := by
  induction k with
  | zero => exact Ok.replicate 25
  | succ k ih => exact permN_ok (absP_ok ih (h.drop _) _) _
theorem sqzN_length (a : List Nat) (i : Nat) : (sqzN a i).length = 32 := by induction i <;> simp_all [sqzN]
theorem sqzN_byt (a : List Nat) (i : Nat) : Byt (sqzN a i) := by
  induction i with
  | zero => intro y hy; rw [sqzN, List.mem_replicate] at hy; omega
  | succ i ih => exact ih.set (Nat.mod_lt _ (by decide)) _
def digN (bs : List Nat) : List Nat := sqzN (spN (padF bs) ((padF bs).length / 136)) 32
end Go.Proofs.YtdilgmokiclfaaaDoor
namespace Go.Proofs.YtdilgmokiclfaaaDoor
open Go.RowKit
set_option linter.unusedVariables false

/-- A slice of bytes that the call owns: block g, from its cell 0 on; its cells up to cap are there and may be written. -/
structure Buf (w : World) (B g cap : Nat) (xs : List Nat) : Prop where
  base : B ≤ g
  lt : g < w.heap.size
  fit : xs.length ≤ cap
  cell : ∀ j, j < xs.length → w.cell? ⟨g, j, none⟩ = some (.int .u8 (nth xs j : Nat))
  spare : ∀ j, j < cap → (w.cell? ⟨g, j, none⟩).isSome = true ∧ w.frozen? ⟨g, j, none⟩ = false
def bytesN (s : ByteArray) : List Nat := s.data.toList.map (·.toNat)
theorem bytesN_length (s : ByteArray) : (bytesN s).length = s.size := by unfold bytesN; rw [List.length_map, Array.length_toList]; rfl

section
variable {P : Program} {w w' : World} {B g cap : Nat} {xs : List Nat}
theorem Buf.same (h : Buf w B g cap xs) (hk : w'.heap[g]? = w.heap[g]?) : Buf w' B g cap xs where
  base := h.base
  lt := by
    have h1 : w.heap[g]? = some (w.heap[g]'h.lt) := Array.getElem?_eq_getElem h.lt
    rw [h1] at hk
    exact (Array.getElem?_eq_some_iff.1 hk).1
  fit := h.fit
  cell := fun j hj => (World.cell?_of_block (a := ⟨g, j, none⟩) hk).trans (h.cell j hj)
  spare := fun j hj => by rw [World.cell?_of_block (a := ⟨g, j, none⟩) hk, World.frozen?_of_block (a := ⟨g, j, none⟩) hk]; exact h.spare j hj
theorem Buf.bel (h : Buf w B g cap xs) (hb : Below w.heap.size w w') : Buf w' B g cap xs := h.same (hb.block g h.lt)
theorem Buf.far (h : Buf w B g cap xs) {p : Addr} (hp : g ≠ p.block) (u : Value) : Buf (w.setCell p u) B g cap xs := h.same (Below.heap_setCell w p u g hp)
theorem Buf.alloc (h : Buf w B g cap xs) (o : Obj) : Buf (w.alloc o) B g cap xs := h.same (Below.heap_alloc w o g h.lt)
theorem nth_set2 (l : List Nat) (i x j : Nat) (h : i < l.length) : nth (l.set i x) j = if j = i then x else nth l j := by
  unfold nth
  rw [List.getD_eq_getElem?_getD, List.getD_eq_getElem?_getD, List.getElem?_set]
  by_cases e : i = j
  · subst e; simp [h]
  · rw [if_neg e, if_neg (fun k => e k.symm)]
theorem nth_append_one (l : List Nat) (x j : Nat) (h : j < l.length + 1) : nth (l ++ [x]) j = if j = l.length then x else nth l j := by
  unfold nth
  rw [List.getD_eq_getElem?_getD, List.getD_eq_getElem?_getD]
  by_cases e : j = l.length
  · subst e; simp
  · rw [if_neg e, List.getElem?_append_left (by omega)]
theorem Buf.set (h : Buf w B g cap xs) {i : Nat} (hi : i < xs.length) (x : Nat) : Buf (w.setCell ⟨g, i, none⟩ (.int .u8 (x : Int))) B g cap (xs.set i x) where
  base := h.base
  lt := by rw [World.size_setCell]; exact h.lt
  fit := by rw [List.length_set]; exact h.fit
  cell := fun j hj => by
    rw [List.length_set] at hj
    rw [nth_set2 _ _ _ _ hi]
    by_cases e : j = i
    · subst e
      rw [if_pos rfl]
      exact World.cell?_setCell_same' _ _ _ (h.spare j (Nat.lt_of_lt_of_le hj h.fit)).1
    · rw [if_neg e, World.cell?_setCell_other _ _ _ _ (by intro k; exact e (by injection k with k1 k2; exact k2.symm))]
      exact h.cell j hj
  spare := fun j hj => by
    rw [World.frozen?_setCell]
    refine ⟨?_, (h.spare j hj).2⟩
    by_cases e : j = i
    · subst e
      rw [World.cell?_setCell_same' _ _ _ (h.spare j hj).1]; rfl
    · rw [World.cell?_setCell_other _ _ _ _ (by intro k; exact e (by injection k with k1 k2; exact k2.symm))]
      exact (h.spare j hj).1
/-- A block of bytes just made. -/
theorem Buf.of_cells {cur : Array Value} {e : TypeId} {fz : Nat × Nat} (hg : w.heap[g]? = some (.cells cur e fz)) (hB : B ≤ g) (hfz : fz = (0, 0) ∨ cur.size ≤ fz.1) (hfit : xs.length ≤ cap) (hcap : cap ≤ cur.size)
    (hc : ∀ j, j < xs.length → cur[j]? = some (.int .u8 (nth xs j : Nat))) : Buf w B g cap xs where
  base := hB
  lt := (Array.getElem?_eq_some_iff.1 hg).1
  fit := hfit
  cell := fun j hj => (cell_of_row w g j cur e fz hg).trans (hc j hj)
  spare := fun j hj => by
    refine ⟨?_, ?_⟩
    · rw [cell_of_row w g j cur e fz hg, Array.getElem?_eq_getElem (by omega)]; rfl
    · unfold World.frozen?
      simp only [hg]
      rcases hfz with rfl | hfz
      · simp
      · simp; intro; omega
theorem wpList_buf_append {ops : Array Oper} {rest : List Oper} {o : Oper} {a : Act} {Q : Exit → Act → World → Prop} (hb : Buf w B g cap xs)
    (hgd : o.guard = none) (s x : Operand) (t : TypeId) (hop : o.op = Op.call { callee := Callee.builtin Builtin.append, args := #[s, x], argTypes := #[t, t] })
    (e : TypeId) (h1 : P.underlying t = some (.slice e)) (hinf : (P.info? e).map (fun i => (i.zero, i.size, i.bytes)) = some (some (.int .u8 0), 1, 1))
    (n : Nat) (hn : xs.length = n) (hs : a.eval s = .slice (some ⟨g, 0, none⟩) n cap) (ad : Addr) (c y : Nat) (hx : a.eval x = .slice (some ad) 1 c) (hc : w.cell? ad = some (.int .u8 (y : Int))) (hBw : B ≤ w.heap.size) (hlen : n < 1000000)
    (h : ∀ g' cap' w', Buf w' B g' cap' (xs ++ [y]) → Below B w w' → (∀ k, k < w.heap.size → k ≠ g → w'.heap[k]? = w.heap[k]?) → w.heap.size ≤ w'.heap.size → (g' = g ∨ w.heap.size ≤ g') →
      wpList P ops Q rest (a.put o.dst (.slice (some ⟨g', 0, none⟩) (n + 1) cap')) w') : wpList P ops Q (o :: rest) a w := by
  subst hn
  obtain ⟨i, h2, h345⟩ := Option.map_eq_some_iff.1 hinf
  have h3 : i.zero = some (.int .u8 0) := by injection h345
  have h4 : i.size = 1 := by injection h345 with _ k; injection k
  have h5 : i.bytes = 1 := by injection h345 with _ k; injection k
  have hadd : ad.add 0 = ad := by unfold Addr.add; split <;> simp_all
  refine wpList_append_arg w hgd s x t hop e i (.int .u8 0) 1 1 h1 h2 h3 h4 h5 rfl (by decide) g 0 xs.length cap (xs.map fun x : Nat => Value.int .u8 (x : Int)) hs (by simp) (fun j u hj => ?_) ad 1 c [.int .u8 (y : Int)] hx rfl (fun j u hj => ?_) (by simp [Value.oneCell']) (fun hr j hj => ?_) (by simp only [maxLen]; omega) (by omega) (fun hr => ?_) (fun hg v' w' hown hgr => ?_)
  · have hj' : j < xs.length := by
      have := (List.getElem?_eq_some_iff.1 hj).1
      simpa using this
    rw [Nat.zero_add, hb.cell j hj']
    simp [List.getElem?_eq_getElem hj'] at hj
    rw [← hj, nth_eq hj']
  · have : j = 0 := by
      have := (List.getElem?_eq_some_iff.1 hj).1
      simp at this; exact this
    subst this
    rw [hadd, hc]
    simpa using hj
  · have : j = 0 := by simpa using hj
    subst this
    have := hb.spare xs.length (by omega)
    simpa using this
  · have e1 : w.setCells g (0 + xs.length * 1) [.int .u8 (y : Int)] = w.setCell ⟨g, xs.length, none⟩ (.int .u8 (y : Int)) := by simp [World.setCells]
    rw [e1]
    have hsp := hb.spare xs.length (by omega)
    refine h g cap _ ⟨hb.base, by rw [World.size_setCell]; exact hb.lt, by simp; omega, fun j hj => ?_, fun j hj => ?_⟩ ((Below.refl B w).setCell (p := ⟨g, xs.length, none⟩) hb.base _) (fun k hk hne => Below.heap_setCell w ⟨g, xs.length, none⟩ _ k (fun e => hne e)) (by rw [World.size_setCell]; exact Nat.le_refl _) (.inl rfl)
    · have hj' : j < xs.length + 1 := by simpa using hj
      rw [nth_append_one _ _ _ hj']
      by_cases e : j = xs.length
      · subst e
        rw [if_pos rfl]
        exact World.cell?_setCell_same' _ _ _ hsp.1
      · rw [if_neg e, World.cell?_setCell_other _ _ _ _ (by intro k; exact e (by injection k with k1 k2; exact k2.symm))]
        exact hb.cell j (by omega)
    · rw [World.frozen?_setCell]
      refine ⟨?_, (hb.spare j hj).2⟩
      by_cases e : j = xs.length
      · subst e
        rw [World.cell?_setCell_same' _ _ _ hsp.1]; rfl
      · rw [World.cell?_setCell_other _ _ _ _ (by intro k; exact e (by injection k with k1 k2; exact k2.symm))]
        exact (hb.spare j hj).1
  · rcases hown with ⟨hl, ⟨rfl, h0⟩ | ⟨g', cap', cur, rfl, hg', hgc, hnc, hcm, hcs, htk⟩⟩
    · omega
    · refine h g' cap' w' (Buf.of_cells hgc (by omega) (.inl rfl) (by simp; omega) (by omega) (fun j hj => ?_)) ⟨hgr.os, hgr.tape, hgr.output, hgr.size, fun k hk => hgr.block k (by omega) (by simp)⟩ (fun k hk _ => hgr.block k hk (by simp)) hgr.size (.inr hg')
      have hj' : j < xs.length + 1 := by simpa using hj
      have e1 : cur[j]? = (cur.toList.take ((xs.length + 1) * 1))[j]? := by rw [List.getElem?_take_of_lt (by omega), Array.getElem?_toList]
      rw [e1, htk]
      have e2 : (xs.map (fun x : Nat => Value.int .u8 (x : Int))) ++ [Value.int .u8 (y : Int)] = (xs ++ [y]).map fun x : Nat => Value.int .u8 (x : Int) := by simp
      rw [e2, List.getElem?_map, List.getElem?_eq_getElem (by simpa using hj'), nth_eq (by simpa using hj')]
      rfl
end
end Go.Proofs.YtdilgmokiclfaaaDoor
namespace Go.Proofs.YtdilgmokiclfaaaDoor
open Go.RowKit
set_option linter.unusedVariables false

section
variable {P : Program}
theorem lim_one (k : IntKind) (zs : List Nat) : (lim k zs).all (·.oneCell') = true := by
  rw [Array.all_eq_true_iff_forall_mem]
  intro v hv
  simp only [lim, List.mem_toArray, List.mem_map] at hv
  obtain ⟨x, _, rfl⟩ := hv
  rfl
/-- A literal of numbers, built. -/
theorem wpList_build_to {ops : Array Oper} {rest : List Oper} {o : Oper} {a : Act} {w : World} {Q : Exit → Act → World → Prop} (hg : o.guard = none) (t : TypeId) (parts : Array (Nat × Operand)) (ho : o.op = .build t parts) (cells : Array Value)
    (hf : P.built t (parts.map fun (i, x) => (i, a.eval x)).toList = some cells)
    (h : wpList P ops Q rest (a.put o.dst (.agg cells)) w) : wpList P ops Q (o :: rest) a w :=
  wpList_build hg t parts ho (by rw [hf]; rfl) (by rw [hf]; exact h)
/-- A whole row of numbers laid into the block made last. -/
theorem wpList_store_new {ops : Array Oper} {rest : List Oper} {o : Oper} {a : Act} {w : World} {Q : Exit → Act → World → Prop} (hgd : o.guard = none) (ty : TypeId) (x y : Operand) (ho : o.op = .store ty x y)
    (k : IntKind) (zs : List Nat) (hx : a.eval x = .pointer (some ⟨w.heap.size, 0, none⟩)) (hy : a.eval y = .agg (lim k zs))
    (t : TypeId) (old : Array Value) (hi : (P.info? ty).map (·.size) = some zs.length)
    (hold : old.size = zs.length) (h : wpList P ops Q rest (a.put o.dst undef) (w.alloc (.cells (lim k zs) t))) : wpList P ops Q (o :: rest) a (w.alloc (.cells old t)) :=
  wpList_store_row hgd ty x y ho w.heap.size (lim k zs) hx hy t old (heap_alloc_new w _) (by rw [lim_size]; exact hi) (by rw [lim_size]; exact hold) (lim_one k zs) (by rw [World.setRow_alloc_new]; exact h)
end

theorem own_load {P : Program} {ops : Array Oper} {rest : List Oper} {o : Oper} {a : Act} {w : World} {Q : Exit → Act → World → Prop} {g : Nat} {T : TypeId} {k : IntKind} {zs : List Nat} (own : Own w g T k zs)
    (hgd : o.guard = none) (ty : TypeId) (x : Operand) (ho : o.op = .load ty x) (hx : a.eval x = .pointer (some ⟨g, 0, none⟩)) (n : Nat) (e : TypeId) (hn : zs.length = n)
    (hu : P.underlying ty = some (.array n e)) (hi : (P.info? ty).map (·.size) = some n)
    (h : wpList P ops Q rest (a.put o.dst (.agg (lim k zs))) w) : wpList P ops Q (o :: rest) a w :=
  wpList_load_row hgd ty x ho g hx T (lim k zs) (0, 0) _ own hu rfl (by rw [lim_size, hn]; exact hi) h

theorem own_new1 (w : World) (A : Obj) (T : TypeId) (k : IntKind) (zs : List Nat) : Own ((w.alloc A).alloc (.cells (lim k zs) T)) (w.heap.size + 1) T k zs := by
  have := Own.new (w.alloc A) T k zs
  rwa [World.size_alloc] at this
theorem own_new2 (w : World) (A B : Obj) (T : TypeId) (k : IntKind) (zs : List Nat) : Own (((w.alloc A).alloc B).alloc (.cells (lim k zs) T)) (w.heap.size + 2) T k zs := by
  have := Own.new ((w.alloc A).alloc B) T k zs
  rwa [World.size_alloc, World.size_alloc] at this
end Go.Proofs.YtdilgmokiclfaaaDoor
namespace Go.Proofs.YtdilgmokiclfaaaDoor
open Go.RowKit
set_option linter.unusedVariables false

theorem step_load_row {P : Program} {ops : Array Oper} {o : Oper} {a : Act} {w : World} {K : Act → World → Prop} {Q : Exit → Act → World → Prop} {E : Prop} {g : Nat} {T : TypeId} {k : IntKind} {zs : List Nat} (own : Own w g T k zs)
    (hgd : o.guard = none) (ty : TypeId) (x : Operand) (ho : o.op = .load ty x) (hx : a.eval x = .pointer (some ⟨g, 0, none⟩)) (n : Nat) (e : TypeId) (hn : zs.length = n)
    (hu : P.underlying ty = some (.array n e)) (hi : (P.info? ty).map (·.size) = some n)
    (h : K (a.put o.dst (.agg (lim k zs))) w) : if Region.wanted o (yielded ops a.tmps) = true then Oper.wp P o a w K Q else E := by
  have hw : Region.wanted o (yielded ops a.tmps) = true := by simp [Region.wanted, hgd]
  rw [if_pos hw]
  exact wp_load_row ty x ho g hx T (lim k zs) (0, 0) _ own hu rfl (by rw [lim_size, hn]; exact hi) h
theorem step_store_row {P : Program} {ops : Array Oper} {o : Oper} {a : Act} {w : World} {K : Act → World → Prop} {Q : Exit → Act → World → Prop} {E : Prop} {g : Nat} {T : TypeId} {k k' : IntKind} {zs rs : List Nat} (own : Own w g T k zs)
    (hgd : o.guard = none) (ty : TypeId) (x y : Operand) (ho : o.op = .store ty x y) (hx : a.eval x = .pointer (some ⟨g, 0, none⟩)) (hy : a.eval y = .agg (lim k' rs)) (n : Nat) (hn : zs.length = n) (hr : rs.length = n)
    (hi : (P.info? ty).map (·.size) = some n)
    (h : K (a.put o.dst undef) (w.setRow g (lim k' rs))) : if Region.wanted o (yielded ops a.tmps) = true then Oper.wp P o a w K Q else E := by
  have hw : Region.wanted o (yielded ops a.tmps) = true := by simp [Region.wanted, hgd]
  rw [if_pos hw]
  exact wp_store_row ty x y ho g (lim k' rs) hx hy T (lim k zs) own (by rw [lim_size, hr]; exact hi) (by rw [lim_size, lim_size, hn, hr]) (lim_one _ _) h

structure PrmEq (zs pp : List Nat) : Prop where
  eq : permN zs 24 = pp
end Go.Proofs.YtdilgmokiclfaaaDoor
namespace Go.Proofs.YtdilgmokiclfaaaDoor
open Go.RowKit
set_option linter.unusedVariables false

def LeftRel (x n : Nat) (w : World) (v i : Value) (wr : World) : Prop := ∃ j : Nat, j ≤ n ∧ i = .int .i64 (j : Int) ∧ v = .int .u64 (rotl x j : Nat) ∧ wr = w
end Go.Proofs.YtdilgmokiclfaaaDoor
namespace Go.Proofs.YtdilgmokiclfaaaDoor
open Go.RowKit
set_option linter.unusedVariables false

theorem wpList_store_new2 {P : Program} {ops : Array Oper} {rest : List Oper} {o : Oper} {a : Act} {w : World} {A B : Obj} {Q : Exit → Act → World → Prop} (hgd : o.guard = none) (ty : TypeId) (x y : Operand) (ho : o.op = .store ty x y)
    (k : IntKind) (zs : List Nat) (hx : a.eval x = .pointer (some ⟨w.heap.size + 1 + 1, 0, none⟩)) (hy : a.eval y = .agg (lim k zs))
    (t : TypeId) (old : Array Value) (hi : (P.info? ty).map (·.size) = some zs.length)
    (hold : old.size = zs.length) (h : wpList P ops Q rest (a.put o.dst undef) (((w.alloc A).alloc B).alloc (.cells (lim k zs) t))) : wpList P ops Q (o :: rest) a (((w.alloc A).alloc B).alloc (.cells old t)) := by
  have e : ((w.alloc A).alloc B).heap.size = w.heap.size + 1 + 1 := by simp
  exact wpList_store_new hgd ty x y ho k zs (by rw [hx, e]) hy t old hi hold h
structure OneE (zs pp : List Nat) : Prop where
  eq : oneX zs 5 = pp
structure OneS (zs : List Nat) (j c d : Nat) (O : List Nat) : Prop where
  eo : oneX zs j = O
  ec : oneC zs (j + 4) 5 = c
  ed : oneC zs (j + 6) 5 = d
def OneC (zs : List Nat) (j : Nat) (w : World) (c d y : Value) (wr : World) : Prop :=
  ∃ k : Nat, k ≤ 5 ∧ y = .int .i64 (k : Int) ∧ c = .int .u64 (oneC zs (j + 4) k : Nat) ∧ d = .int .u64 (oneC zs (j + 6) k : Nat) ∧ wr = w
end Go.Proofs.YtdilgmokiclfaaaDoor
namespace Go.Proofs.YtdilgmokiclfaaaDoor
open Go.RowKit
set_option linter.unusedVariables false

end Go.Proofs.YtdilgmokiclfaaaDoor
namespace Go.Proofs.YtdilgmokiclfaaaDoor
open Go.RowKit
set_option linter.unusedVariables false

end Go.Proofs.YtdilgmokiclfaaaDoor
namespace Go.Proofs.YtdilgmokiclfaaaDoor
open Go.RowKit
set_option linter.unusedVariables false

theorem i64_xor_small (a b : Nat) (ha : a < 256) (hb : b < 256) : bits .xor .i64 (a : Int) (b : Int) = ((a ^^^ b : Nat) : Int) := by
  have hx : a ^^^ b < 2 ^ 8 := Nat.xor_lt_two_pow (by omega) (by omega)
  show IntKind.i64.wrap ((BitVec.ofInt 64 (a : Int) ^^^ BitVec.ofInt 64 (b : Int)).toNat : Int) = _
  rw [BitVec.toNat_xor, ofInt_u64 a (by omega), ofInt_u64 b (by omega), IntKind.wrap_i64]
  omega
end Go.Proofs.YtdilgmokiclfaaaDoor
