import Derived.Test.YtoocoobgidoceaaSpShM
namespace Go.Proofs.Ytoocoobgidoceaa

/-- The reference lays eight bytes at once. -/
def hor (p : List Nat) (b : Nat) : Nat → Nat
  | 0 => 0
  | t + 1 => hor p b t * 256 + nth p (b + 7 - t)
def absR (a p : List Nat) (o : Nat) : Nat → List Nat
  | 0 => a
  | i + 1 => (absR a p o i).set i (nth (absR a p o i) i ^^^ hor p (o + 8 * i) 8)
def loN (p : List Nat) (b : Nat) : Nat → Nat
  | 0 => 0
  | t + 1 => loN p b t + nth p (b + t) * 2 ^ (8 * t)
theorem hor_lt {p : List Nat} (hp : Byt p) (b t : Nat) : hor p b t < 256 ^ t := by
  induction t with
  | zero => show (0 : Nat) < 1; decide
  | succ t ih =>
    have := hp.getD (b + 7 - t)
    rw [hor, Nat.pow_succ]
    omega
theorem hor_small {p : List Nat} (hp : Byt p) (b : Nat) {t : Nat} (ht : t < 8) : hor p b t * 256 + 255 < 18446744073709551616 := by
  have h1 := hor_lt hp b t
  have h2 : 256 ^ t ≤ 256 ^ 7 := Nat.pow_le_pow_right (by decide) (by omega)
  have h3 : (256 : Nat) ^ 7 = 72057594037927936 := by decide
  omega
theorem loN_lt {p : List Nat} (hp : Byt p) (b t : Nat) : loN p b t < 2 ^ (8 * t) := by
  induction t with
  | zero => show (0 : Nat) < 1; decide
  | succ t ih =>
    have := hp.getD (b + t)
    rw [loN, show 8 * (t + 1) = 8 * t + 8 by omega, Nat.pow_add]
    have h2 : nth p (b + t) * 2 ^ (8 * t) ≤ 255 * 2 ^ (8 * t) := Nat.mul_le_mul_right _ (by omega)
    have h3 : (2 : Nat) ^ 8 = 256 := by decide
    rw [h3]
    omega
theorem hor_lo (p : List Nat) (b : Nat) : hor p b 8 = loN p b 8 := by
  simp only [hor, loN, Nat.add_sub_cancel, Nat.sub_zero]
  rw [show b + 7 - 1 = b + 6 by omega, show b + 7 - 2 = b + 5 by omega, show b + 7 - 3 = b + 4 by omega, show b + 7 - 4 = b + 3 by omega, show b + 7 - 5 = b + 2 by omega, show b + 7 - 6 = b + 1 by omega, Nat.add_zero b]
  generalize nth p b = x0
  generalize nth p (b + 1) = x1
  generalize nth p (b + 2) = x2
  generalize nth p (b + 3) = x3
  generalize nth p (b + 4) = x4
  generalize nth p (b + 5) = x5
  generalize nth p (b + 6) = x6
  generalize nth p (b + 7) = x7
  omega
theorem add_eq_xor {a b k : Nat} (h : a < 2 ^ k) : a ^^^ b * 2 ^ k = a + b * 2 ^ k := by
  have h1 := Nat.two_pow_add_eq_or_of_lt h b
  rw [← or_eq_xor h, Nat.or_comm, Nat.mul_comm b, ← h1, Nat.add_comm]
theorem set_set (l : List Nat) (i x y : Nat) : (l.set i x).set i y = l.set i y := by simp
theorem abs_lane8 {a p : List Nat} (ha : a.length = 25) (hp : Byt p) {i : Nat} (hi : i < 17) : ∀ t, t ≤ 8 → absP a p (8 * i + t) = (absP a p (8 * i)).set i (nth (absP a p (8 * i)) i ^^^ loN p (8 * i) t)
  | 0, _ => by
    show absP a p (8 * i) = (absP a p (8 * i)).set i (nth (absP a p (8 * i)) i ^^^ 0)
    rw [Nat.xor_zero]
    refine list_extN (by simp) fun j hj => ?_
    rw [nth_set (by rw [absP_length, ha]; omega)]
    split
    · rename_i e; rw [e]
    · rfl
  | t + 1, ht => by
    have ih := abs_lane8 ha hp hi t (by omega)
    have hlen : i < (absP a p (8 * i)).length := by rw [absP_length, ha]; omega
    rw [show 8 * i + (t + 1) = (8 * i + t) + 1 by omega, absP, ih, show (8 * i + t) / 8 = i by omega, show (8 * i + t) % 8 = t by omega, nth_set hlen, if_pos rfl, set_set, Nat.xor_assoc, loN, ← add_eq_xor (loN_lt hp _ _)]
where
  list_extN {l m : List Nat} (h : l.length = m.length) (hx : ∀ j, j < l.length → nth l j = nth m j) : l = m :=
    List.ext_getElem h fun j h1 h2 => by
      have := hx j h1
      rwa [nth_eq h1, nth_eq h2] at this
theorem absR_absP {a p : List Nat} (ha : a.length = 25) (hp : Byt p) (o : Nat) : ∀ i, i ≤ 17 → absR a p o i = absP a (p.drop o) (8 * i)
  | 0, _ => rfl
  | i + 1, h => by
    have ih := absR_absP ha hp o i (by omega)
    have hd : hor p (o + 8 * i) 8 = loN (p.drop o) (8 * i) 8 := by
      rw [hor_lo]
      have : ∀ t, loN p (o + 8 * i) t = loN (p.drop o) (8 * i) t := by
        intro t
        induction t with
        | zero => rfl
        | succ t ih =>
          rw [loN, loN, ih]
          congr 2
          unfold nth
          rw [List.getD_eq_getElem?_getD, List.getD_eq_getElem?_getD, List.getElem?_drop]
          rw [show o + 8 * i + t = o + (8 * i + t) by omega]
      exact this 8
    rw [absR, ih, hd, show 8 * (i + 1) = 8 * i + 8 by omega, abs_lane8 ha (hp.drop o) (by omega) 8 (Nat.le_refl _)]
theorem absR_length (a p : List Nat) (o i : Nat) : (absR a p o i).length = a.length := by induction i <;> simp_all [absR]
theorem hor8_lt {p : List Nat} (hp : Byt p) (b : Nat) : hor p b 8 < 18446744073709551616 := hor_lt hp b 8
theorem absR_ok {a p : List Nat} (oa : Ok a) (hp : Byt p) (o i : Nat) : Ok (absR a p o i) := by
  induction i with
  | zero => exact oa
  | succ i ih => exact ih.set (xor_lt (ih.getD _) (hor8_lt hp _)) _
theorem sqz_at (Z : List Nat) (i k : Nat) (hk : k < 8) : sqz1 Z (8 * i + k) = nth Z i / 2 ^ (8 * k) % 256 := by
  rw [sqz1, show (8 * i + k) / 8 = i by omega, show (8 * i + k) % 8 = k by omega]
theorem div_256 (x k : Nat) : x / 2 ^ (8 * k) / 256 = x / 2 ^ (8 * (k + 1)) := by
  rw [Nat.div_div_eq_div_mul, show 8 * (k + 1) = 8 * k + 8 by omega, Nat.pow_add]
end Go.Proofs.Ytoocoobgidoceaa
