import Derived.Test.YtoocoobgidoceaaSpMath
import Derived.KernelRfl
namespace Go.Proofs.Ytoocoobgidoceaa

/-- What the document's answer reckons, step by step; coordinates are handed over with 5 added. -/
def laneN (p q : Nat) : Nat := p % 5 + 5 * (q % 5)
theorem laneN_lt (p q : Nat) : laneN p q < 25 := by unfold laneN; omega
def oneC (a : List Nat) (p : Nat) : Nat → Nat
  | 0 => 0
  | y + 1 => oneC a p y ^^^ nth a (laneN p (y + 5))
def oneV (a : List Nat) (x c d y : Nat) : Nat := nth a (laneN (x + 5) (y + 5)) ^^^ (c ^^^ rotl d 1)
def oneO (a out : List Nat) (x c d : Nat) : Nat → List Nat
  | 0 => out
  | y + 1 => (oneO a out x c d y).set (laneN (x + 5) (y + 5)) (oneV a x c d y)
def oneX (a : List Nat) : Nat → List Nat
  | 0 => a
  | x + 1 => oneO a (oneX a x) x (oneC a (x + 4) 5) (oneC a (x + 6) 5) 5
structure TwoS where
  l : List Nat
  x : Nat
  y : Nat
  held : Nat
def twoT (a : List Nat) : Nat → TwoS
  | 0 => ⟨a, 1, 0, nth a (laneN 6 5)⟩
  | t + 1 => ⟨(twoT a t).l.set (laneN ((twoT a t).y + 5) (2 * (twoT a t).x + 3 * (twoT a t).y + 5)) (rotl (twoT a t).held ((t + 1) * (t + 2) / 2 % 64)), (twoT a t).y, (2 * (twoT a t).x + 3 * (twoT a t).y) % 5,
    nth (twoT a t).l (laneN ((twoT a t).y + 5) (2 * (twoT a t).x + 3 * (twoT a t).y + 5))⟩
def thrV (a : List Nat) (x y : Nat) : Nat := nth a (laneN (x + 5) (y + 5)) ^^^ ((18446744073709551615 ^^^ nth a (laneN (x + 6) (y + 5))) &&& nth a (laneN (x + 7) (y + 5)))
def thrY (a out : List Nat) (x : Nat) : Nat → List Nat
  | 0 => out
  | y + 1 => (thrY a out x y).set (laneN (x + 5) (y + 5)) (thrV a x y)
def thrX (a : List Nat) : Nat → List Nat
  | 0 => a
  | x + 1 => thrY a (thrX a x) x 5
def regS (r : Nat) : Nat := if 255 < r * 2 then (r * 2 - 256) ^^^ 113 else r * 2
def regN (r : Nat) : Nat → Nat
  | 0 => r
  | j + 1 => regS (regN r j)
def iotL (a : List Nat) (r : Nat) : Nat → List Nat
  | 0 => a
  | j + 1 => if regN r j % 2 = 1 then (iotL a r j).set 0 (nth (iotL a r j) 0 ^^^ 2 ^ (2 ^ j - 1)) else iotL a r j
def prmR : Nat → Nat
  | 0 => 1
  | i + 1 => regN (prmR i) 7
def lin3 (a : List Nat) : List Nat := thrX (twoT (oneX a 5) 24).l 5
def prmL (a : List Nat) : Nat → List Nat
  | 0 => a
  | i + 1 => iotL (lin3 (prmL a i)) (prmR i) 7

theorem oneC_lt {a : List Nat} (oa : Ok a) (p y : Nat) : oneC a p y < 18446744073709551616 := by
  induction y with
  | zero => show (0 : Nat) < _; decide
  | succ y ih => exact xor_lt ih (oa.getD _)
theorem oneV_lt {a : List Nat} (oa : Ok a) {x c d y : Nat} (hc : c < 18446744073709551616) (hd : d < 18446744073709551616) : oneV a x c d y < 18446744073709551616 := xor_lt (oa.getD _) (xor_lt hc (rotl_lt hd _))
theorem oneO_length (a out : List Nat) (x c d y : Nat) : (oneO a out x c d y).length = out.length := by induction y <;> simp_all [oneO]
theorem oneX_length (a : List Nat) (x : Nat) : (oneX a x).length = a.length := by induction x <;> simp_all [oneX, oneO_length]
theorem oneO_ok {a out : List Nat} (oa : Ok a) (oo : Ok out) {x c d : Nat} (hc : c < 18446744073709551616) (hd : d < 18446744073709551616) (y : Nat) : Ok (oneO a out x c d y) := by
  induction y with
  | zero => exact oo
  | succ y ih => exact ih.set (oneV_lt oa hc hd) _
theorem oneX_ok {a : List Nat} (oa : Ok a) (x : Nat) : Ok (oneX a x) := by
  induction x with
  | zero => exact oa
  | succ x ih => exact oneO_ok oa ih (oneC_lt oa _ _) (oneC_lt oa _ _) _
theorem twoT_length (a : List Nat) (t : Nat) : (twoT a t).l.length = a.length := by induction t <;> simp_all [twoT]
theorem twoT_xy (a : List Nat) (t : Nat) : (twoT a t).x < 5 ∧ (twoT a t).y < 5 := by
  induction t with
  | zero => exact ⟨(by decide : (1:Nat) < 5), (by decide : (0:Nat) < 5)⟩
  | succ t ih => exact ⟨ih.2, Nat.mod_lt _ (by decide)⟩
theorem twoT_ok {a : List Nat} (oa : Ok a) (t : Nat) : Ok (twoT a t).l ∧ (twoT a t).held < 18446744073709551616 := by
  induction t with
  | zero => exact ⟨oa, oa.getD _⟩
  | succ t ih => exact ⟨ih.1.set (rotl_lt ih.2 _) _, ih.1.getD _⟩
theorem thrV_lt {a : List Nat} (oa : Ok a) (x y : Nat) : thrV a x y < 18446744073709551616 := xor_lt (oa.getD _) (and_lt (oa.getD _))
theorem thrY_length (a out : List Nat) (x y : Nat) : (thrY a out x y).length = out.length := by induction y <;> simp_all [thrY]
theorem thrX_length (a : List Nat) (x : Nat) : (thrX a x).length = a.length := by induction x <;> simp_all [thrX, thrY_length]
theorem thrY_ok {a out : List Nat} (oa : Ok a) (oo : Ok out) (x y : Nat) : Ok (thrY a out x y) := by
  induction y with
  | zero => exact oo
  | succ y ih => exact ih.set (thrV_lt oa _ _) _
theorem thrX_ok {a : List Nat} (oa : Ok a) (x : Nat) : Ok (thrX a x) := by
  induction x with
  | zero => exact oa
  | succ x ih => exact thrY_ok oa ih _ _
theorem regS_lt {r : Nat} (h : r < 256) : regS r < 256 := by
  unfold regS
  split
  · exact Nat.xor_lt_two_pow (n := 8) (by omega) (by decide)
  · omega
theorem regN_lt {r : Nat} (h : r < 256) (j : Nat) : regN r j < 256 := by
  induction j with
  | zero => exact h
  | succ j ih => exact regS_lt ih
theorem prmR_lt (i : Nat) : prmR i < 256 := by
  induction i with
  | zero => show (1 : Nat) < 256; decide
  | succ i ih => exact regN_lt ih 7
theorem pow_pow_lt {j : Nat} (h : j < 7) : 2 ^ (2 ^ j - 1) < 18446744073709551616 := by
  have : j = 0 ∨ j = 1 ∨ j = 2 ∨ j = 3 ∨ j = 4 ∨ j = 5 ∨ j = 6 := by omega
  rcases this with rfl | rfl | rfl | rfl | rfl | rfl | rfl <;> decide
theorem iotL_length (a : List Nat) (r j : Nat) : (iotL a r j).length = a.length := by
  induction j with
  | zero => rfl
  | succ j ih => unfold iotL; split <;> simp [ih]
theorem iotL_ok {a : List Nat} (oa : Ok a) (r : Nat) {j : Nat} (hj : j ≤ 7) : Ok (iotL a r j) := by
  induction j with
  | zero => exact oa
  | succ j ih =>
    have := ih (by omega)
    unfold iotL
    split
    · exact this.set (xor_lt (this.getD _) (pow_pow_lt (by omega))) _
    · exact this
theorem lin3_length (a : List Nat) : (lin3 a).length = a.length := by simp [lin3, thrX_length, twoT_length, oneX_length]
theorem lin3_ok {a : List Nat} (oa : Ok a) : Ok (lin3 a) := thrX_ok (twoT_ok (oneX_ok oa 5) 24).1 5
theorem prmL_length (a : List Nat) (i : Nat) : (prmL a i).length = a.length := by induction i <;> simp_all [prmL, iotL_length, lin3_length]
theorem prmL_ok {a : List Nat} (oa : Ok a) (i : Nat) : Ok (prmL a i) := by
  induction i with
  | zero => exact oa
  | succ i ih => exact iotL_ok (lin3_ok ih) _ (Nat.le_refl _)

/-! The plain law: both reckon the same. -/
def thetas (a : List Nat) : List Nat := (List.range 25).map (theta1 a (colN a 25))
theorem list25 {l : List Nat} (h : l.length = 25) : ∃ a0 a1 a2 a3 a4 a5 a6 a7 a8 a9 a10 a11 a12 a13 a14 a15 a16 a17 a18 a19 a20 a21 a22 a23 a24, l = [a0, a1, a2, a3, a4, a5, a6, a7, a8, a9, a10, a11, a12, a13, a14, a15, a16, a17, a18, a19, a20, a21, a22, a23, a24] := by
  match l, h with
  | [a0, a1, a2, a3, a4, a5, a6, a7, a8, a9, a10, a11, a12, a13, a14, a15, a16, a17, a18, a19, a20, a21, a22, a23, a24], _ => exact ⟨_, _, _, _, _, _, _, _, _, _, _, _, _, _, _, _, _, _, _, _, _, _, _, _, _, rfl⟩
def movV (b : List Nat) : Nat → List Nat
  | 0 => List.replicate 25 0
  | i + 1 => (movV b i).set (dst i) (rotl (nth b i) (trn i))
theorem one_theta {a : List Nat} (h : a.length = 25) : oneX a 5 = thetas a := by
  obtain ⟨a0, a1, a2, a3, a4, a5, a6, a7, a8, a9, a10, a11, a12, a13, a14, a15, a16, a17, a18, a19, a20, a21, a22, a23, a24, rfl⟩ := list25 h
  kernel_rfl
theorem two_mov {b : List Nat} (h : b.length = 25) : (twoT b 24).l = movV b 25 := by
  obtain ⟨a0, a1, a2, a3, a4, a5, a6, a7, a8, a9, a10, a11, a12, a13, a14, a15, a16, a17, a18, a19, a20, a21, a22, a23, a24, rfl⟩ := list25 h
  kernel_rfl
theorem thr_chi {m z : List Nat} (h : m.length = 25) (hz : z.length = 25) : thrX m 5 = chiN z m 25 := by
  obtain ⟨a0, a1, a2, a3, a4, a5, a6, a7, a8, a9, a10, a11, a12, a13, a14, a15, a16, a17, a18, a19, a20, a21, a22, a23, a24, rfl⟩ := list25 h
  obtain ⟨b0, b1, b2, b3, b4, b5, b6, b7, b8, b9, b10, b11, b12, b13, b14, b15, b16, b17, b18, b19, b20, b21, b22, b23, b24, rfl⟩ := list25 hz
  kernel_rfl
theorem nth_thetas (a : List Nat) {i : Nat} (h : i < 25) : nth (thetas a) i = theta1 a (colN a 25) i := by
  unfold nth thetas
  rw [List.getD_eq_getElem?_getD, List.getElem?_map, List.getElem?_range h]
  rfl
theorem mov_thetas (a : List Nat) : ∀ i, i ≤ 25 → movV (thetas a) i = movN a (colN a 25) i
  | 0, _ => rfl
  | i + 1, h => by rw [movV, movN, mov_thetas a i (by omega), nth_thetas a (by omega)]
theorem lin3_eq {a : List Nat} (h : a.length = 25) : lin3 a = chiN a (movN a (colN a 25) 25) 25 := by
  have h1 : (thetas a).length = 25 := by simp [thetas]
  rw [lin3, one_theta h, two_mov h1, mov_thetas a 25 (Nat.le_refl _), thr_chi (movN_length _ _ _) h]
/-- The bits of a round's number. -/
def accN (r : Nat) : Nat → Nat
  | 0 => 0
  | j + 1 => if regN r j % 2 = 1 then accN r j ^^^ 2 ^ (2 ^ j - 1) else accN r j
theorem iotL_acc {a : List Nat} (h : 0 < a.length) (r j : Nat) : iotL a r j = a.set 0 (nth a 0 ^^^ accN r j) := by
  induction j with
  | zero =>
    show a = a.set 0 (nth a 0 ^^^ 0)
    rw [Nat.xor_zero]
    cases a with
    | nil => rfl
    | cons x l => rfl
  | succ j ih =>
    unfold iotL accN
    rw [ih]
    split
    · cases a with
      | nil => exact absurd h (by simp)
      | cons x l => show ((x ^^^ accN r j) ^^^ 2 ^ (2 ^ j - 1)) :: l = (x ^^^ (accN r j ^^^ 2 ^ (2 ^ j - 1))) :: l; rw [Nat.xor_assoc]
    · rfl
theorem accs : ∀ i, i < 24 → accN (prmR i) 7 = nth rcs i := by decide
theorem perm_same {a : List Nat} (h : a.length = 25) : ∀ i, i ≤ 24 → prmL a i = permN a i
  | 0, _ => rfl
  | i + 1, hi => by
    have ih := perm_same h i (by omega)
    have hl : (permN a i).length = 25 := by rw [permN_length, h]
    have hl3 : (lin3 (permN a i)).length = 25 := by rw [lin3_length, hl]
    rw [prmL, ih, iotL_acc (by omega), accs i (by omega), permN, roundS, lin3_eq hl]
end Go.Proofs.Ytoocoobgidoceaa
