import Derived.WalkKit
import Derived.Lib.Hide
import Derived.Deep.Draws
import Derived.Deep.QuietTactic
import Derived.BigQuiet
import Derived.OpenShut
import Derived.Test.YtdilgmokiclfaaaDoorProg
import Derived.Laws.Externs
import Derived.Shelf.Spec.BitsCarry
import Derived.Shelf.Bits.Mul64
import Derived.Lib.Strings
import Derived.Lib.Slices
import Derived.Lib.Small
import Derived.Lib.Walk
import Derived.Lib.BitFns
import Derived.Maps.AppendAt
namespace Go.Proofs.YtdilgmokiclfaaaDoor

/-- The number at a place, 0 beyond. -/
def nth (l : List Nat) (i : Nat) : Nat := l.getD i 0
theorem nth_eq {l : List Nat} {i : Nat} (h : i < l.length) : nth l i = l[i] := by simp [nth, List.getD_eq_getElem?_getD, List.getElem?_eq_getElem h]
theorem nth_ge {l : List Nat} {i : Nat} (h : l.length ≤ i) : nth l i = 0 := by simp [nth, List.getD_eq_getElem?_getD, List.getElem?_eq_none h]
theorem nth_cons_succ (x : Nat) (l : List Nat) (i : Nat) : nth (x :: l) (i + 1) = nth l i := rfl
theorem nth_set {l : List Nat} {i j : Nat} (h : i < l.length) (x : Nat) : nth (l.set i x) j = if i = j then x else nth l j := by
  unfold nth
  rw [List.getD_eq_getElem?_getD, List.getD_eq_getElem?_getD, List.getElem?_set]
  by_cases e : i = j
  · subst e; simp [h]
  · simp [e]
theorem nth_take {l : List Nat} {i n : Nat} (h : i < n) : nth (l.take n) i = nth l i := by
  unfold nth; rw [List.getD_eq_getElem?_getD, List.getD_eq_getElem?_getD, List.getElem?_take, if_pos h]
theorem nth_replicate (n i : Nat) : nth (List.replicate n 0) i = 0 := by
  unfold nth; rw [List.getD_eq_getElem?_getD, List.getElem?_replicate]; split <;> rfl
theorem ext_nth {l m : List Nat} (hl : l.length = m.length) (h : ∀ i, i < l.length → nth l i = nth m i) : l = m := by
  apply List.ext_getElem hl
  intro i h1 h2
  have := h i h1
  rwa [nth_eq h1, nth_eq h2] at this

/-- 2^64 to the power of k. -/
def pw (k : Nat) : Nat := 18446744073709551616 ^ k
theorem pw_zero : pw 0 = 1 := rfl
theorem pw_succ (k : Nat) : pw (k + 1) = 18446744073709551616 * pw k := by unfold pw; rw [Nat.pow_succ, Nat.mul_comm]
theorem pw_pos (k : Nat) : 0 < pw k := Nat.pow_pos (by decide)
theorem pw_add (a b : Nat) : pw (a + b) = pw a * pw b := Nat.pow_add _ _ _
theorem pw_two (k : Nat) : pw k = 2 ^ (64 * k) := by unfold pw; rw [Nat.pow_mul]
theorem pw_le {a b : Nat} (h : a ≤ b) : pw a ≤ pw b := Nat.pow_le_pow_right (by decide) h

/-- The number that a row of limbs says, the lowest first. -/
def val : List Nat → Nat
  | [] => 0
  | x :: xs => x + 18446744073709551616 * val xs

/-- Each limb is below 2^64. -/
def Ok (l : List Nat) : Prop := ∀ x ∈ l, x < 18446744073709551616

theorem Ok.nil : Ok [] := fun _ h => by cases h
theorem Ok.cons {x : Nat} {l : List Nat} (hx : x < 18446744073709551616) (h : Ok l) : Ok (x :: l) := by
  intro y hy; rcases List.mem_cons.1 hy with rfl | hy; exact hx; exact h y hy
theorem Ok.head {x : Nat} {l : List Nat} (h : Ok (x :: l)) : x < 18446744073709551616 := h x (List.mem_cons_self ..)
theorem Ok.tail {x : Nat} {l : List Nat} (h : Ok (x :: l)) : Ok l := fun y hy => h y (List.mem_cons_of_mem _ hy)
theorem Ok.take {l : List Nat} (h : Ok l) (k : Nat) : Ok (l.take k) := fun y hy => h y (List.mem_of_mem_take hy)
theorem Ok.drop {l : List Nat} (h : Ok l) (k : Nat) : Ok (l.drop k) := fun y hy => h y (List.mem_of_mem_drop hy)
theorem Ok.append {l m : List Nat} (h : Ok l) (k : Ok m) : Ok (l ++ m) := by
  intro y hy; rcases List.mem_append.1 hy with hy | hy; exact h y hy; exact k y hy
theorem Ok.set {l : List Nat} (h : Ok l) {x : Nat} (hx : x < 18446744073709551616) (k : Nat) : Ok (l.set k x) := by
  intro y hy; rcases List.mem_or_eq_of_mem_set hy with hy | rfl; exact h y hy; exact hx
theorem Ok.replicate (n : Nat) : Ok (List.replicate n 0) := by
  intro y hy; rw [List.eq_of_mem_replicate hy]; decide
theorem Ok.getD {l : List Nat} (h : Ok l) (k : Nat) : nth l k < 18446744073709551616 := by
  unfold nth; rw [List.getD_eq_getElem?_getD]
  rcases Nat.lt_or_ge k l.length with hk | hk
  · rw [List.getElem?_eq_getElem hk]; exact h _ (List.getElem_mem hk)
  · rw [List.getElem?_eq_none hk]; decide

theorem val_nil : val [] = 0 := rfl
theorem val_cons (x : Nat) (l : List Nat) : val (x :: l) = x + 18446744073709551616 * val l := rfl
theorem val_append (l m : List Nat) : val (l ++ m) = val l + pw l.length * val m := by
  induction l with
  | nil => simp [val, pw]
  | cons x l ih =>
    rw [List.cons_append, val_cons, val_cons, ih, List.length_cons, pw_succ, Nat.mul_add, Nat.mul_assoc]; omega
theorem val_replicate (n : Nat) : val (List.replicate n 0) = 0 := by
  induction n with
  | zero => rfl
  | succ n ih => rw [List.replicate_succ, val_cons, ih]
theorem val_lt {l : List Nat} (h : Ok l) : val l < pw l.length := by
  induction l with
  | nil => exact Nat.one_pos
  | cons x l ih =>
    have h1 := h.head; have h2 := ih h.tail
    rw [val_cons, List.length_cons, pw_succ]
    omega
theorem val_inj {l m : List Nat} (hl : Ok l) (hm : Ok m) (hlen : l.length = m.length) (h : val l = val m) : l = m := by
  induction l generalizing m with
  | nil => exact (List.eq_nil_of_length_eq_zero hlen.symm).symm
  | cons x l ih =>
    cases m with
    | nil => simp at hlen
    | cons y m =>
      have h1 := hl.head; have h2 := hm.head
      rw [val_cons, val_cons] at h
      have hx : x = y := by omega
      have hv : val l = val m := by omega
      rw [hx, ih hl.tail hm.tail (by simpa using hlen) hv]
theorem val_take_drop (l : List Nat) (k : Nat) (hk : k ≤ l.length) : val l = val (l.take k) + pw k * val (l.drop k) := by
  have h := val_append (l.take k) (l.drop k)
  rw [List.take_append_drop, List.length_take, Nat.min_eq_left hk] at h
  exact h
theorem val_take_succ (l : List Nat) (k : Nat) : val (l.take (k + 1)) = val (l.take k) + pw k * nth l k := by
  rcases Nat.lt_or_ge k l.length with hk | hk
  · rw [List.take_succ_eq_append_getElem hk, val_append, List.length_take, Nat.min_eq_left (by omega), val_cons, val_nil]
    simp [nth, List.getD_eq_getElem?_getD, List.getElem?_eq_getElem hk]
  · rw [List.take_of_length_le (by omega), List.take_of_length_le (by omega)]
    simp [nth, List.getD_eq_getElem?_getD, List.getElem?_eq_none hk]
theorem val_take_lt {l : List Nat} (h : Ok l) (k : Nat) : val (l.take k) < pw k := by
  have h1 := val_lt (h.take k)
  have h2 : pw (l.take k).length ≤ pw k := pw_le (by rw [List.length_take]; omega)
  omega
theorem val_take_all (l : List Nat) {k : Nat} (h : l.length ≤ k) : val (l.take k) = val l := by rw [List.take_of_length_le h]
/-- The lower k limbs. -/
theorem val_take {l : List Nat} (h : Ok l) (k : Nat) : val (l.take k) = val l % pw k := by
  rcases Nat.lt_or_ge k l.length with hk | hk
  · rw [val_take_drop l k (by omega), Nat.add_mul_mod_self_left, Nat.mod_eq_of_lt (val_take_lt h k)]
  · rw [val_take_all l hk, Nat.mod_eq_of_lt]
    exact Nat.lt_of_lt_of_le (val_lt h) (pw_le hk)
theorem val_drop {l : List Nat} (h : Ok l) (k : Nat) : val (l.drop k) = val l / pw k := by
  rcases Nat.lt_or_ge k l.length with hk | hk
  · rw [val_take_drop l k (by omega), Nat.add_mul_div_left _ _ (pw_pos k), Nat.div_eq_of_lt (val_take_lt h k), Nat.zero_add]
  · rw [List.drop_of_length_le hk, Nat.div_eq_of_lt]; rfl
    exact Nat.lt_of_lt_of_le (val_lt h) (pw_le hk)
/-- One limb. -/
theorem getD_val {l : List Nat} (h : Ok l) (k : Nat) : nth l k = val l / pw k % 18446744073709551616 := by
  rw [← val_drop h k]
  rcases Nat.lt_or_ge k l.length with hk | hk
  · rw [List.drop_eq_getElem_cons hk, val_cons, Nat.add_mul_mod_self_left]
    have := h _ (List.getElem_mem hk)
    simp [nth, List.getD_eq_getElem?_getD, List.getElem?_eq_getElem hk, Nat.mod_eq_of_lt this]
  · rw [List.drop_of_length_le hk]
    simp [nth, List.getD_eq_getElem?_getD, List.getElem?_eq_none hk, val]
theorem val_set {l : List Nat} {k : Nat} (hk : k < l.length) (x : Nat) : val (l.set k x) + pw k * nth l k = val l + pw k * x := by
  induction l generalizing k with
  | nil => simp at hk
  | cons y l ih =>
    cases k with
    | zero => simp [val, pw, nth]; omega
    | succ k =>
      have := ih (k := k) (by simpa using hk)
      simp only [List.set_cons_succ, val_cons, pw_succ, nth_cons_succ]
      have e1 : 18446744073709551616 * pw k * nth l k = 18446744073709551616 * (pw k * nth l k) := Nat.mul_assoc ..
      have e2 : 18446744073709551616 * pw k * x = 18446744073709551616 * (pw k * x) := Nat.mul_assoc ..
      rw [e1, e2]; omega
theorem val_set_take {l : List Nat} {k : Nat} (hk : k < l.length) (x : Nat) : val ((l.set k x).take (k + 1)) = val (l.take k) + pw k * x := by
  rw [val_take_succ, List.take_set_of_le (by omega)]
  simp [nth, List.getD_eq_getElem?_getD, List.getElem?_set_self hk]

/-- Two numbers that are one above a place, and part at it. -/
theorem lt_of_digit {a b p m : Nat} (h : a / (p * m) = b / (p * m)) (hd : a / p % m < b / p % m) : a < b := by
  rw [← Nat.div_div_eq_div_mul, ← Nat.div_div_eq_div_mul] at h
  have h1 := Nat.div_add_mod (a / p) m
  have h2 := Nat.div_add_mod (b / p) m
  rw [h] at h1
  have h3 : a / p < b / p := by omega
  rcases Nat.lt_or_ge a b with hab | hab
  · exact hab
  · have := Nat.div_le_div_right (c := p) hab
    omega
theorem eq_of_digit {a b p m : Nat} (h : a / (p * m) = b / (p * m)) (hd : a / p % m = b / p % m) : a / p = b / p := by
  rw [← Nat.div_div_eq_div_mul, ← Nat.div_div_eq_div_mul] at h
  have h1 := Nat.div_add_mod (a / p) m
  have h2 := Nat.div_add_mod (b / p) m
  rw [h, hd] at h1
  omega
end Go.Proofs.YtdilgmokiclfaaaDoor
namespace Go.Proofs.YtdilgmokiclfaaaDoor

/-- A step of a sum: place p, carry c. -/
theorem add_step (A B O p x y c : Nat) (h : O + p * c = A + B) :
    (O + p * ((x + y + c) % 18446744073709551616)) + (18446744073709551616 * p) * ((x + y + c) / 18446744073709551616) = (A + p * x) + (B + p * y) := by
  have h1 := Nat.mod_add_div (x + y + c) 18446744073709551616
  have h2 : p * ((x + y + c) % 18446744073709551616 + 18446744073709551616 * ((x + y + c) / 18446744073709551616)) = p * x + p * y + p * c := by
    rw [h1, Nat.mul_add, Nat.mul_add]
  rw [Nat.mul_add] at h2
  have h3 : (18446744073709551616 * p) * ((x + y + c) / 18446744073709551616) = p * (18446744073709551616 * ((x + y + c) / 18446744073709551616)) := by
    rw [Nat.mul_comm 18446744073709551616 p, Nat.mul_assoc]
  omega
theorem add_carry {x y c : Nat} (hx : x < 18446744073709551616) (hy : y < 18446744073709551616) (hc : c ≤ 1) : (x + y + c) / 18446744073709551616 ≤ 1 := by omega

/-- A step of a difference. -/
theorem sub_step (A B O p x y c : Nat) (hx : x < 18446744073709551616) (hy : y < 18446744073709551616) (hc : c ≤ 1) (h : O + B = A + p * c) :
    (O + p * ((x + 18446744073709551616 - y - c) % 18446744073709551616)) + (B + p * y) = (A + p * x) + (18446744073709551616 * p) * (if x < y + c then 1 else 0) := by
  have key : (x + 18446744073709551616 - y - c) % 18446744073709551616 + y + c = x + 18446744073709551616 * (if x < y + c then 1 else 0) := by
    split <;> omega
  have h2 : p * ((x + 18446744073709551616 - y - c) % 18446744073709551616 + y + c) = p * (x + 18446744073709551616 * (if x < y + c then 1 else 0)) := by rw [key]
  rw [Nat.mul_add, Nat.mul_add, Nat.mul_add] at h2
  have h3 : (18446744073709551616 * p) * (if x < y + c then 1 else 0) = p * (18446744073709551616 * (if x < y + c then 1 else 0)) := by
    rw [Nat.mul_comm 18446744073709551616 p, Nat.mul_assoc]
  rw [h3]
  omega

/-- x y + o + c as two limbs, the way Go's text reckons it. -/
def loS (x y o c : Nat) : Nat := ((x * y % 18446744073709551616 + o) % 18446744073709551616 + c) % 18446744073709551616
def hiS (x y o c : Nat) : Nat := x * y / 18446744073709551616 + (x * y % 18446744073709551616 + o) / 18446744073709551616 + ((x * y % 18446744073709551616 + o) % 18446744073709551616 + c) / 18446744073709551616
theorem hi_lo (x y o c : Nat) : loS x y o c + 18446744073709551616 * hiS x y o c = x * y + o + c := by
  unfold loS hiS
  have h1 := Nat.mod_add_div (x * y) 18446744073709551616
  omega
theorem lo_lt (x y o c : Nat) : loS x y o c < 18446744073709551616 := Nat.mod_lt _ (by decide)
theorem mul_le_sq {x y : Nat} (hx : x < 18446744073709551616) (hy : y < 18446744073709551616) : x * y ≤ 18446744073709551615 * 18446744073709551615 :=
  Nat.mul_le_mul (by omega) (by omega)
theorem hi_lt {x y o c : Nat} (hx : x < 18446744073709551616) (hy : y < 18446744073709551616) (ho : o < 18446744073709551616) (hc : c < 18446744073709551616) : hiS x y o c < 18446744073709551616 := by
  have h1 := hi_lo x y o c
  have h2 := mul_le_sq hx hy
  omega
theorem hi1_lt {x y o : Nat} (hx : x < 18446744073709551616) (hy : y < 18446744073709551616) (ho : o < 18446744073709551616) :
    x * y / 18446744073709551616 + (x * y % 18446744073709551616 + o) / 18446744073709551616 < 18446744073709551616 := by
  have h2 := mul_le_sq hx hy
  have h1 := Nat.mod_add_div (x * y) 18446744073709551616
  omega
/-- A step of a row of a product. -/
theorem mul_step {r : Nat} (V V' V0 p o lo hi c q xy b : Nat) (hset : V' + p * o = V + p * lo) (hhl : lo + 18446744073709551616 * hi = xy + o + c) (h : V + p * c = V0 + q * b) (hq : p * xy = r) :
    V' + (18446744073709551616 * p) * hi = V0 + (q * b + r) := by
  have h2 : p * (lo + 18446744073709551616 * hi) = p * (xy + o + c) := by rw [hhl]
  rw [Nat.mul_add, Nat.mul_add, Nat.mul_add] at h2
  have h3 : (18446744073709551616 * p) * hi = p * (18446744073709551616 * hi) := by rw [Nat.mul_comm 18446744073709551616 p, Nat.mul_assoc]
  omega

/-- Doubling and a bit, with room. -/
theorem double_step (O A p x c c0 : Nat) (h : O + p * c = 2 * A + c0) :
    (O + p * ((2 * x + c) % 18446744073709551616)) + (18446744073709551616 * p) * ((2 * x + c) / 18446744073709551616) = 2 * (A + p * x) + c0 := by
  have h1 := Nat.mod_add_div (2 * x + c) 18446744073709551616
  have h2 : p * ((2 * x + c) % 18446744073709551616 + 18446744073709551616 * ((2 * x + c) / 18446744073709551616)) = p * (2 * x) + p * c := by
    rw [h1, Nat.mul_add]
  rw [Nat.mul_add, Nat.mul_left_comm p 2 x] at h2
  have h3 : (18446744073709551616 * p) * ((2 * x + c) / 18446744073709551616) = p * (18446744073709551616 * ((2 * x + c) / 18446744073709551616)) := by
    rw [Nat.mul_comm 18446744073709551616 p, Nat.mul_assoc]
  omega

/-- The bit at i. -/
def bitOf (N i : Nat) : Nat := N / 2 ^ i % 2
theorem bitOf_lt (N i : Nat) : bitOf N i < 2 := Nat.mod_lt _ (by decide)
theorem bit_limb {l : List Nat} (h : Ok l) (i : Nat) : nth l (i / 64) / 2 ^ (i % 64) % 2 = bitOf (val l) i := by
  rw [getD_val h, bitOf]
  have e : (18446744073709551616 : Nat) = 2 ^ (i % 64) * (2 * 2 ^ (63 - i % 64)) := by
    rw [← Nat.mul_assoc, Nat.mul_comm (2 ^ (i % 64)) 2, Nat.mul_assoc, ← Nat.pow_add, show i % 64 + (63 - i % 64) = 63 by omega]
  rw [e, Nat.mod_mul_right_div_self, Nat.mod_mul_right_mod, Nat.div_div_eq_div_mul, pw_two, ← Nat.pow_add, Nat.div_add_mod]
theorem bitOf_ge {N i n : Nat} (h : N < 2 ^ n) (hi : n ≤ i) : bitOf N i = 0 := by
  unfold bitOf; rw [Nat.div_eq_of_lt]; exact Nat.lt_of_lt_of_le h (Nat.pow_le_pow_right (by decide) hi)
theorem div_pow_succ (N i : Nat) : N / 2 ^ i = 2 * (N / 2 ^ (i + 1)) + bitOf N i := by
  unfold bitOf; rw [Nat.pow_succ, ← Nat.div_div_eq_div_mul]; omega
theorem mod_pow_succ (N i : Nat) : N % 2 ^ (i + 1) = N % 2 ^ i + 2 ^ i * bitOf N i := by
  unfold bitOf; rw [Nat.pow_succ, Nat.mod_mul]

/-- How many bits a number has. -/
def bitLen (N : Nat) : Nat := if N = 0 then 0 else N.log2 + 1
theorem bitLen_eq {N k : Nat} (h1 : N < 2 ^ (k + 1)) (h2 : 2 ^ k ≤ N) : bitLen N = k + 1 := by
  have h0 : N ≠ 0 := by have := Nat.pow_pos (n := k) (show 0 < 2 by decide); omega
  unfold bitLen; rw [if_neg h0]
  have := (Nat.log2_eq_iff h0 (k := k)).2 ⟨h2, h1⟩
  omega
theorem bitLen_zero : bitLen 0 = 0 := rfl
theorem bitLen_pos {N : Nat} (h : N ≠ 0) : 0 < bitLen N := by unfold bitLen; rw [if_neg h]; omega
theorem bitLen_lt (N : Nat) : N < 2 ^ bitLen N := by
  unfold bitLen; split
  · omega
  · exact Nat.lt_log2_self
theorem bitLen_le {N : Nat} (h : N ≠ 0) : 2 ^ (bitLen N - 1) ≤ N := by
  unfold bitLen; rw [if_neg h]; exact Nat.log2_self_le h
theorem bitLen_eq_zero {N : Nat} : bitLen N = 0 ↔ N = 0 := by
  unfold bitLen; split <;> simp_all
end Go.Proofs.YtdilgmokiclfaaaDoor
namespace Go.Proofs.YtdilgmokiclfaaaDoor

/-- The number that bytes say, the highest first. -/
def be (l : List Nat) : Nat := l.foldl (fun n b => 256 * n + b) 0
theorem be_nil : be [] = 0 := rfl
theorem be_snoc (l : List Nat) (b : Nat) : be (l ++ [b]) = 256 * be l + b := by simp [be]
theorem foldl_be (m : List Nat) : ∀ n : Nat, m.foldl (fun n b => 256 * n + b) n = 256 ^ m.length * n + be m := by
  induction m with
  | nil => intro n; simp [be]
  | cons b m ih =>
    intro n
    have h0 : be (b :: m) = 256 ^ m.length * b + be m := by rw [be, List.foldl_cons, ih]; simp
    rw [List.foldl_cons, ih, h0, List.length_cons, Nat.pow_succ, Nat.mul_add, Nat.mul_assoc]; omega
theorem be_append (l m : List Nat) : be (l ++ m) = 256 ^ m.length * be l + be m := by
  rw [be, List.foldl_append, foldl_be]; rfl
theorem be_lt {l : List Nat} (h : ∀ b ∈ l, b < 256) : be l < 256 ^ l.length := by
  induction l with
  | nil => decide
  | cons b l ih =>
    have h1 := h b (List.mem_cons_self ..)
    have h2 := ih (fun y hy => h y (List.mem_cons_of_mem _ hy))
    rw [show b :: l = [b] ++ l from rfl, be_append, List.length_append, Nat.pow_add]
    simp only [be, List.foldl_cons, List.foldl_nil, List.length_cons, List.length_nil, Nat.mul_zero, Nat.zero_add, Nat.pow_one]
    have h3 : 256 ^ l.length * b ≤ 256 ^ l.length * 255 := Nat.mul_le_mul_left _ (by omega)
    unfold be at h2
    rw [Nat.mul_comm 256]
    omega

/-- The lower n bytes of a number, the highest first. -/
def toB (N : Nat) : Nat → List Nat
  | 0 => []
  | n + 1 => N / 256 ^ n % 256 :: toB N n
theorem toB_length (N n : Nat) : (toB N n).length = n := by induction n with | zero => rfl | succ n ih => simp [toB, ih]
theorem toB_lt (N n : Nat) : ∀ b ∈ toB N n, b < 256 := by
  induction n with
  | zero => intro b hb; cases hb
  | succ n ih => intro b hb; rcases List.mem_cons.1 hb with rfl | hb; exact Nat.mod_lt _ (by decide); exact ih b hb
theorem be_toB (N n : Nat) : be (toB N n) = N % 256 ^ n := by
  induction n with
  | zero => simp [toB, be, Nat.mod_one]
  | succ n ih =>
    rw [toB, show (N / 256 ^ n % 256 :: toB N n) = [N / 256 ^ n % 256] ++ toB N n from rfl, be_append, ih, toB_length, Nat.pow_succ, Nat.mod_mul]
    simp [be]; omega
theorem be_inj {l m : List Nat} (hl : ∀ b ∈ l, b < 256) (hm : ∀ b ∈ m, b < 256) (hlen : l.length = m.length) (h : be l = be m) : l = m := by
  induction l generalizing m with
  | nil => exact (List.eq_nil_of_length_eq_zero hlen.symm).symm
  | cons x l ih =>
    cases m with
    | nil => simp at hlen
    | cons y m =>
      have hlen' : l.length = m.length := by simpa using hlen
      have h1 := be_lt (fun b hb => hl b (List.mem_cons_of_mem _ hb))
      have h2 := be_lt (fun b hb => hm b (List.mem_cons_of_mem _ hb))
      rw [show x :: l = [x] ++ l from rfl, show y :: m = [y] ++ m from rfl, be_append, be_append, hlen'] at h
      rw [hlen'] at h1
      simp only [be, List.foldl_cons, List.foldl_nil, Nat.mul_zero, Nat.zero_add] at h h1 h2
      have hp : 0 < 256 ^ m.length := Nat.pow_pos (by decide)
      have hx : x = y := by
        have e1 : (256 ^ m.length * x + List.foldl (fun n b => 256 * n + b) 0 l) / 256 ^ m.length = x := by
          rw [Nat.mul_add_div hp, Nat.div_eq_of_lt h1]; rfl
        have e2 : (256 ^ m.length * y + List.foldl (fun n b => 256 * n + b) 0 m) / 256 ^ m.length = y := by
          rw [Nat.mul_add_div hp, Nat.div_eq_of_lt h2]; rfl
        rw [h] at e1; rw [e1] at e2; exact e2
      subst hx
      rw [ih (fun b hb => hl b (List.mem_cons_of_mem _ hb)) (fun b hb => hm b (List.mem_cons_of_mem _ hb)) hlen' (by unfold be; omega)]
theorem toB_be {l : List Nat} (h : ∀ b ∈ l, b < 256) : toB (be l) l.length = l :=
  be_inj (toB_lt _ _) h (toB_length _ _) (by rw [be_toB, Nat.mod_eq_of_lt (be_lt h)])
theorem pw_256 (k : Nat) : pw k = 256 ^ (8 * k) := by
  unfold pw; rw [Nat.pow_mul]
/-- A byte of a limb. -/
theorem byte_limb {l : List Nat} (h : Ok l) (k s : Nat) (hs : s < 8) : nth l k / 2 ^ (8 * s) % 256 = val l / 256 ^ (8 * k + s) % 256 := by
  rw [getD_val h]
  have e : (18446744073709551616 : Nat) = 2 ^ (8 * s) * (256 * 256 ^ (7 - s)) := by
    rw [show (256 : Nat) = 2 ^ 8 from rfl, ← Nat.pow_mul, ← Nat.pow_add, ← Nat.pow_add, show 8 * s + (8 + 8 * (7 - s)) = 64 by omega]
  rw [e, Nat.mod_mul_right_div_self, Nat.mod_mul_right_mod, Nat.div_div_eq_div_mul, pw_256, show (2 ^ (8 * s) : Nat) = 256 ^ s by rw [Nat.pow_mul], ← Nat.pow_add]
/-- Bytes in limb order. -/
theorem toB_add (N n m : Nat) : toB N (n + m) = toB (N / 256 ^ m) n ++ toB N m := by
  induction n with
  | zero => simp [toB]
  | succ n ih => rw [show n + 1 + m = (n + m) + 1 by omega, toB, ih, toB, Nat.div_div_eq_div_mul, ← Nat.pow_add, Nat.add_comm m n]; rfl

end Go.Proofs.YtdilgmokiclfaaaDoor
namespace Go.Proofs.YtdilgmokiclfaaaDoor

theorem rem_step (N M i : Nat) : (2 * (N / 2 ^ (i + 1) % M) + bitOf N i) % M = N / 2 ^ i % M := by
  rw [div_pow_succ N i, Nat.add_mod, Nat.mul_mod, Nat.mod_mod, ← Nat.mul_mod, ← Nat.add_mod]
theorem rem_lt {R M : Nat} {b : Nat} (h : R < M) (hb : b < 2) : (2 * R + b) % M = if M ≤ 2 * R + b then 2 * R + b - M else 2 * R + b := by
  split
  · rw [Nat.mod_eq_sub_mod (by omega), Nat.mod_eq_of_lt (by omega)]
  · rw [Nat.mod_eq_of_lt (by omega)]

/-- Two rows that say one number from a place on, and a digit that parts them. -/
theorem val_lt_of {a b : List Nat} (ha : Ok a) (hb : Ok b) {i : Nat} (h : val a / pw (i + 1) = val b / pw (i + 1)) (hd : nth a i < nth b i) : val a < val b := by
  rw [getD_val ha, getD_val hb] at hd
  rw [pw_succ, Nat.mul_comm] at h
  exact lt_of_digit h hd
theorem val_eq_of {a b : List Nat} (ha : Ok a) (hb : Ok b) {i : Nat} (h : val a / pw (i + 1) = val b / pw (i + 1)) (hd : nth a i = nth b i) : val a / pw i = val b / pw i := by
  rw [getD_val ha, getD_val hb] at hd
  rw [pw_succ, Nat.mul_comm] at h
  exact eq_of_digit h hd
theorem val_top {a : List Nat} (ha : Ok a) {i : Nat} (h : a.length ≤ i) : val a / pw i = 0 := Nat.div_eq_of_lt (Nat.lt_of_lt_of_le (val_lt ha) (pw_le h))
theorem bit_lt_of {A B i : Nat} (h : A / 2 ^ (i + 1) = B / 2 ^ (i + 1)) (hd : bitOf A i < bitOf B i) : A < B := by
  rw [Nat.pow_succ] at h
  exact lt_of_digit h hd
theorem bit_eq_of {A B i : Nat} (h : A / 2 ^ (i + 1) = B / 2 ^ (i + 1)) (hd : bitOf A i = bitOf B i) : A / 2 ^ i = B / 2 ^ i := by
  rw [Nat.pow_succ] at h
  exact eq_of_digit h hd
/-- What Cmp tells. -/
def cmpN (A B : Nat) : Int := if A < B then -1 else if B < A then 1 else 0
theorem cmpN_lt {A B : Nat} (h : A < B) : cmpN A B = -1 := by unfold cmpN; rw [if_pos h]
theorem cmpN_gt {A B : Nat} (h : B < A) : cmpN A B = 1 := by unfold cmpN; rw [if_neg (by omega), if_pos h]
theorem cmpN_eq {A B : Nat} (h : A = B) : cmpN A B = 0 := by unfold cmpN; rw [if_neg (by omega), if_neg (by omega)]

/-- A bit put at a place above all that stands there. -/
theorem set_bit {l : List Nat} (h : Ok l) {i b : Nat} (hi : i / 64 < l.length) (hv : val l < 2 ^ i) (hb : b < 2) :
    nth l (i / 64) ||| b * 2 ^ (i % 64) = nth l (i / 64) + b * 2 ^ (i % 64) ∧
      nth l (i / 64) + b * 2 ^ (i % 64) < 18446744073709551616 ∧
      val (l.set (i / 64) (nth l (i / 64) + b * 2 ^ (i % 64))) = val l + b * 2 ^ i := by
  have e : (2 : Nat) ^ i = pw (i / 64) * 2 ^ (i % 64) := by rw [pw_two, ← Nat.pow_add, Nat.div_add_mod]
  have hx : nth l (i / 64) < 2 ^ (i % 64) := by
    rw [getD_val h]
    have h1 : val l / pw (i / 64) < 2 ^ (i % 64) := by rw [Nat.div_lt_iff_lt_mul (pw_pos _), Nat.mul_comm, ← e]; exact hv
    exact Nat.lt_of_le_of_lt (Nat.mod_le _ _) h1
  have hp : (2 : Nat) ^ (i % 64) * 2 ≤ 18446744073709551616 := by
    rw [← Nat.pow_succ]; exact Nat.pow_le_pow_right (n := 2) (by decide) (show i % 64 + 1 ≤ 64 by omega)
  refine ⟨?_, ?_, ?_⟩
  · rw [Nat.or_comm, Nat.mul_comm b, ← Nat.two_pow_add_eq_or_of_lt hx, Nat.add_comm]
  · have : b = 0 ∨ b = 1 := by omega
    rcases this with rfl | rfl <;> omega
  · have h2 := val_set hi (nth l (i / 64) + b * 2 ^ (i % 64))
    rw [Nat.mul_add] at h2
    have h3 : pw (i / 64) * (b * 2 ^ (i % 64)) = b * 2 ^ i := by rw [e, Nat.mul_left_comm]
    omega
end Go.Proofs.YtdilgmokiclfaaaDoor
namespace Go.Proofs.YtdilgmokiclfaaaDoor

theorem coprime_two {M : Nat} (h : M % 2 = 1) : Nat.Coprime 2 M := by
  rw [Nat.coprime_iff_gcd_eq_one, Nat.gcd_rec, h, Nat.gcd_one_left]
theorem coprime_pow {M : Nat} (h : M % 2 = 1) (n : Nat) : Nat.Coprime (2 ^ n) M := Nat.Coprime.pow_left n (coprime_two h)
theorem dvd_of_mod {M a b : Nat} (hab : a ≤ b) : a % M = b % M ↔ M ∣ b - a := by
  constructor
  · intro h
    have h1 := Nat.mod_add_div a M
    have h2 := Nat.mod_add_div b M
    refine ⟨b / M - a / M, ?_⟩
    rw [Nat.mul_sub]
    omega
  · rintro ⟨k, hk⟩
    have : b = a + M * k := by omega
    rw [this, Nat.add_mul_mod_self_left]
theorem mul_cancel_mod {M : Nat} (h : M % 2 = 1) (n : Nat) {x y : Nat} (he : x * 2 ^ n % M = y * 2 ^ n % M) : x % M = y % M := by
  have aux : ∀ a b : Nat, a ≤ b → a * 2 ^ n % M = b * 2 ^ n % M → a % M = b % M := by
    intro a b hab hh
    have h1 : M ∣ b * 2 ^ n - a * 2 ^ n := (dvd_of_mod (Nat.mul_le_mul_right _ hab)).1 hh
    rw [← Nat.sub_mul] at h1
    have h2 : M ∣ b - a := Nat.Coprime.dvd_of_dvd_mul_right (Nat.Coprime.symm (coprime_pow h n)) h1
    exact (dvd_of_mod hab).2 h2
  rcases Nat.le_total x y with hxy | hxy
  · exact aux x y hxy he
  · exact (aux y x hxy he.symm).symm

/-- What makes of an odd limb all bits 1; 0 of an even one. -/
def NegIs (m n : Nat) : Prop := n < 18446744073709551616 ∧ (m % 2 = 0 → n = 0) ∧ (m % 2 = 1 → m * n % 18446744073709551616 = 18446744073709551615)
theorem NegIs.uniq {m n k : Nat} (h : NegIs m n) (h' : NegIs m k) : n = k := by
  obtain ⟨h1, h2, h3⟩ := h
  obtain ⟨k1, k2, k3⟩ := h'
  by_cases hm : m % 2 = 0
  · rw [h2 hm, k2 hm]
  · have hm1 : m % 2 = 1 := by omega
    have e := (h3 hm1).trans (k3 hm1).symm
    have hc : Nat.Coprime 18446744073709551616 m := coprime_pow hm1 64
    rcases Nat.le_total n k with hl | hl
    · have hd := (dvd_of_mod (Nat.mul_le_mul_left m hl)).1 e
      rw [← Nat.mul_sub] at hd
      have := Nat.Coprime.dvd_of_dvd_mul_left hc hd
      have := Nat.eq_zero_of_dvd_of_lt this (by omega)
      omega
    · have hd := (dvd_of_mod (Nat.mul_le_mul_left m hl)).1 e.symm
      rw [← Nat.mul_sub] at hd
      have := Nat.Coprime.dvd_of_dvd_mul_left hc hd
      have := Nat.eq_zero_of_dvd_of_lt this (by omega)
      omega

/-- How many bits are right after k rounds. -/
def prec : Nat → Nat | 0 => 3 | 1 => 6 | 2 => 12 | 3 => 24 | 4 => 48 | _ => 64
theorem prec_le (k : Nat) : prec k ≤ 64 := by unfold prec; split <;> decide
theorem prec_succ (k : Nat) (h : k < 5) : prec (k + 1) ≤ prec k + prec k := by
  have : k = 0 ∨ k = 1 ∨ k = 2 ∨ k = 3 ∨ k = 4 := by omega
  rcases this with rfl | rfl | rfl | rfl | rfl <;> decide
theorem pow_dvd_two {a b : Nat} (h : a ≤ b) : (2 : Int) ^ a ∣ 2 ^ b := ⟨2 ^ (b - a), by rw [← Int.pow_add, Nat.add_sub_cancel' h]⟩
theorem sq_odd (q : Nat) : ∃ t, (2 * q + 1) * (2 * q + 1) = 8 * t + 1 := by
  have h1 : q % 2 = 0 ∨ q % 2 = 1 := by omega
  rcases h1 with h1 | h1
  · obtain ⟨r, rfl⟩ : ∃ r, q = 2 * r := ⟨q / 2, by omega⟩
    refine ⟨2 * (r * r) + r, ?_⟩
    simp only [Nat.mul_add, Nat.add_mul, Nat.mul_one, Nat.one_mul, Nat.mul_assoc, Nat.mul_left_comm r]
    omega
  · obtain ⟨r, rfl⟩ : ∃ r, q = 2 * r + 1 := ⟨q / 2, by omega⟩
    refine ⟨2 * (r * r) + 3 * r + 1, ?_⟩
    simp only [Nat.mul_add, Nat.add_mul, Nat.mul_one, Nat.one_mul, Nat.mul_assoc, Nat.mul_left_comm r]
    omega
/-- The start: the number itself, to three bits. -/
theorem neg_start {m : Nat} (h : m % 2 = 1) : ((2 : Int) ^ prec 0) ∣ (m : Int) * m - 1 := by
  show (8 : Int) ∣ _
  obtain ⟨q, rfl⟩ : ∃ q, m = 2 * q + 1 := ⟨m / 2, by omega⟩
  obtain ⟨t, ht⟩ := sq_odd q
  rw [← Int.natCast_mul, ht]
  omega
/-- A round: twice as many bits. -/
theorem neg_round {m x y : Int} {k : Nat} (hk : k < 5) (h : (2 : Int) ^ prec k ∣ m * x - 1) (hy : (18446744073709551616 : Int) ∣ y - x * (2 - m * x)) : (2 : Int) ^ prec (k + 1) ∣ m * y - 1 := by
  have h64 : (2 : Int) ^ prec (k + 1) ∣ 18446744073709551616 := by
    have := pow_dvd_two (prec_le (k + 1))
    exact this
  have h2 : (2 : Int) ^ prec (k + 1) ∣ (m * x - 1) * (m * x - 1) := by
    have := Int.mul_dvd_mul h h
    rw [← Int.pow_add] at this
    exact Int.dvd_trans (pow_dvd_two (prec_succ k hk)) this
  have h3 : (2 : Int) ^ prec (k + 1) ∣ m * (y - x * (2 - m * x)) := Int.dvd_trans (Int.dvd_trans h64 hy) (Int.dvd_mul_left _ _)
  have e : m * y - 1 = m * (y - x * (2 - m * x)) - (m * x - 1) * (m * x - 1) := by
    simp only [Int.mul_sub, Int.sub_mul, Int.mul_one, Int.one_mul]
    have e1 : m * (x * 2) = 2 * (m * x) := by rw [← Int.mul_assoc, Int.mul_comm]
    have e2 : m * (x * (m * x)) = m * x * (m * x) := (Int.mul_assoc _ _ _).symm
    rw [e1, e2]; omega
  rw [e]
  exact Int.dvd_sub h3 h2
theorem neg_done {m x : Nat} (h1 : m % 2 = 1) (h : (2 : Int) ^ prec 5 ∣ (m : Int) * x - 1) {n : Nat} (hn : n < 18446744073709551616) (e : (18446744073709551616 : Int) ∣ (n : Int) + x) : NegIs m n := by
  refine ⟨hn, fun h0 => by omega, fun _ => ?_⟩
  have h' : (18446744073709551616 : Int) ∣ (m : Int) * x - 1 := h
  have h2 : (18446744073709551616 : Int) ∣ (m : Int) * (n + x) := Int.dvd_trans e (Int.dvd_mul_left _ _)
  rw [Int.mul_add] at h2
  have e3 : ((m * n : Nat) : Int) = (m : Int) * n := Int.natCast_mul m n
  have h3 := Int.dvd_sub h2 h'
  omega

/-- The reference: bit by bit. -/
theorem rneg_bit {m n i : Nat} (h : m * n % 2 ^ i = 2 ^ i - 1) (hb : m * n / 2 ^ i % 2 = 1) : m * n % 2 ^ (i + 1) = 2 ^ (i + 1) - 1 := by
  have hp := Nat.pow_pos (n := i) (show 0 < 2 by decide)
  rw [Nat.pow_succ, Nat.mod_mul, h, hb]; omega
theorem rneg_set {m n i : Nat} (h1 : m % 2 = 1) (h : m * n % 2 ^ i = 2 ^ i - 1) (hb : m * n / 2 ^ i % 2 = 0) : m * (n + 2 ^ i) % 2 ^ (i + 1) = 2 ^ (i + 1) - 1 := by
  have hp := Nat.pow_pos (n := i) (show 0 < 2 by decide)
  rw [Nat.mul_add, Nat.pow_succ, Nat.mod_mul, Nat.add_mul_mod_self_right, h, Nat.add_mul_div_right _ _ hp]
  have : (m * n / 2 ^ i + m) % 2 = 1 := by omega
  rw [this]; omega
theorem rneg_test (a : Nat) {i : Nat} (hi : i < 64) : a % 18446744073709551616 / 2 ^ i % 2 = a / 2 ^ i % 2 := by
  have e : (18446744073709551616 : Nat) = 2 ^ i * (2 * 2 ^ (63 - i)) := by
    rw [← Nat.mul_assoc, Nat.mul_comm (2 ^ i) 2, Nat.mul_assoc, ← Nat.pow_add, show i + (63 - i) = 63 by omega]
  rw [e, Nat.mod_mul_right_div_self, Nat.mod_mul_right_mod]
end Go.Proofs.YtdilgmokiclfaaaDoor
namespace Go.Proofs.YtdilgmokiclfaaaDoor
open Go.RowKit

/-- The cells of a row of numbers of one kind. -/
def lim (k : IntKind) (zs : List Nat) : Array Value := (zs.map fun x : Nat => Value.int k (x : Int)).toArray
theorem lim_size (k : IntKind) (zs : List Nat) : (lim k zs).size = zs.length := by simp [lim]
theorem lim_get {k : IntKind} {zs : List Nat} {i : Nat} (h : i < zs.length) : (lim k zs)[i]? = some (.int k (nth zs i : Nat)) := by
  simp [lim, nth_eq h, List.getElem?_eq_getElem h]
theorem lim_set (k : IntKind) (zs : List Nat) (i x : Nat) : (lim k zs).setIfInBounds i (.int k (x : Int)) = lim k (zs.set i x) := by
  simp [lim, List.map_set]

/-- Block g of the heap is this row of numbers, none frozen. -/
def Own (w : World) (g : Nat) (T : TypeId) (k : IntKind) (zs : List Nat) : Prop := w.heap[g]? = some (.cells (lim k zs) T (0, 0))
section
variable {w w' : World} {g : Nat} {T : TypeId} {k : IntKind} {zs : List Nat}
theorem Own.lt (h : Own w g T k zs) : g < w.heap.size := by
  rcases Nat.lt_or_ge g w.heap.size with hlt | hge
  · exact hlt
  · unfold Own at h; rw [Array.getElem?_eq_none hge] at h; cases h
theorem Own.cell (h : Own w g T k zs) {i : Nat} (hi : i < zs.length) : w.cell? ⟨g, i, none⟩ = some (.int k (nth zs i : Nat)) :=
  (cell_of_row w g i _ T (0, 0) h).trans (lim_get hi)
theorem Own.frozen (h : Own w g T k zs) (i : Nat) : w.frozen? ⟨g, i, none⟩ = false := by
  unfold Own at h; simp [World.frozen?, h]
theorem Own.drew (h : Own w g T k zs) : Own w.drew g T k zs := h
theorem Own.drewN (h : Own w g T k zs) (n : Nat) : Own (w.drewN n) g T k zs := h
theorem Own.alloc (h : Own w g T k zs) (o : Obj) : Own (w.alloc o) g T k zs := (Below.heap_alloc w o g h.lt).trans h
theorem Own.new (w : World) (T : TypeId) (k : IntKind) (zs : List Nat) : Own (w.alloc (.cells (lim k zs) T)) w.heap.size T k zs := heap_alloc_new w _
theorem Own.set (h : Own w g T k zs) (i x : Nat) : Own (w.setCell ⟨g, i, none⟩ (.int k (x : Int))) g T k (zs.set i x) := by
  unfold Own at h ⊢
  simp [World.setCell, Array.getElem?_modify, h, lim_set]
theorem Own.far (h : Own w g T k zs) {p : Addr} (hp : g ≠ p.block) (u : Value) : Own (w.setCell p u) g T k zs := (Below.heap_setCell w p u g hp).trans h
theorem Own.below (h : Own w g T k zs) {B : Nat} (hb : Below B w w') (hg : g < B) : Own w' g T k zs := (hb.block g hg).trans h
theorem Own.bel (h : Own w g T k zs) (hb : Below w.heap.size w w') : Own w' g T k zs := h.below hb h.lt
end

/-- The slice that begins at A reads as this row of numbers, as far as the row goes. -/
def Sl (w : World) (k : IntKind) (A : Option Addr) (xs : List Nat) : Prop :=
  0 < xs.length → ∃ b off, A = some ⟨b, off, none⟩ ∧ b < w.heap.size ∧ ∀ i, i < xs.length → w.cell? ⟨b, off + i, none⟩ = some (.int k (nth xs i : Nat))
section
variable {w w' : World} {k : IntKind} {A : Option Addr} {xs : List Nat}
theorem Sl.nil (w : World) (k : IntKind) (A : Option Addr) : Sl w k A [] := fun h => absurd h (by simp)
theorem Sl.same (h : Sl w k A xs) (hs : w.heap.size ≤ w'.heap.size) (hc : ∀ b o, b < w.heap.size → w'.cell? ⟨b, o, none⟩ = w.cell? ⟨b, o, none⟩) : Sl w' k A xs := fun hp => by
  obtain ⟨b, off, rfl, hb, hx⟩ := h hp
  exact ⟨b, off, rfl, by omega, fun i hi => (hc b _ hb).trans (hx i hi)⟩
theorem Sl.bel (h : Sl w k A xs) (hb : Below w.heap.size w w') : Sl w' k A xs := h.same hb.size fun b o hlt => hb.cell (p := ⟨b, o, none⟩) hlt
theorem Sl.at2 (h : Sl w k A xs) (hb : Below w.heap.size w w') (hp : 0 < xs.length) :
    ∃ b off, A = some ⟨b, off, none⟩ ∧ b < w.heap.size ∧ ∀ i, i < xs.length → w'.cell? ⟨b, off + i, none⟩ = some (.int k (nth xs i : Nat)) := by
  obtain ⟨b, off, rfl, hlt, hx⟩ := h hp
  exact ⟨b, off, rfl, hlt, fun i hi => (hb.cell (p := ⟨b, off + i, none⟩) hlt).trans (hx i hi)⟩
theorem cell_far {b g i j : Nat} (h : b ≠ g) {u : Value} (hc : w.cell? ⟨b, i, none⟩ = some u) (v : Value) : (w.setCell ⟨g, j, none⟩ v).cell? ⟨b, i, none⟩ = some u :=
  (World.cell?_setCell_other w _ _ v (by intro e; injection e with e1; exact h e1.symm)).trans hc
theorem Sl.take (h : Sl w k A xs) (n : Nat) : Sl w k A (xs.take n) := fun hp => by
  have hl : (xs.take n).length ≤ xs.length := by rw [List.length_take]; omega
  obtain ⟨b, off, rfl, hb, hx⟩ := h (by omega)
  refine ⟨b, off, rfl, hb, fun i hi => ?_⟩
  rw [hx i (by omega), nth_take (by rw [List.length_take] at hi; omega)]
theorem Sl.of_own {g : Nat} {T : TypeId} (h : Own w g T k xs) : Sl w k (some ⟨g, 0, none⟩) xs := fun _ =>
  ⟨g, 0, rfl, h.lt, fun i hi => by rw [Nat.zero_add]; exact h.cell hi⟩
end

theorem below_drewN {B : Nat} {a w : World} (h : Below B a w) (n : Nat) : Below B a (w.drewN n) := ⟨h.os, h.tape, h.output, h.size, h.block⟩
/-- Old cells and marks, behind whatever kept them. -/
theorem old_cells {W w1 : World} (hb : Below W.heap.size W w1) : (∀ b o, b < W.heap.size → w1.cell? ⟨b, o, none⟩ = W.cell? ⟨b, o, none⟩) :=
  fun b o h => hb.cell (p := ⟨b, o, none⟩) h
end Go.Proofs.YtdilgmokiclfaaaDoor
namespace Go.Proofs.YtdilgmokiclfaaaDoor
open Go.RowKit
set_option linter.unusedVariables false

/-- A slice of integers that came in: nil, or a row of cells. -/
def IsRow (k : IntKind) (w : World) (a : Option Addr) (len cap : Nat) (zs : List Int) : Prop :=
  (a = none ∧ len = 0 ∧ cap = 0 ∧ zs = []) ∨
  ∃ x, a = some x ∧ len ≤ cap ∧ cap ≤ maxLen ∧ zs.length = cap ∧ (∀ i, i < zs.length → w.cell? (x.add i) = some (.int k (zs.getD i 0))) ∧ ∀ n ∈ zs, (Lit.int k n).wf = true

theorem row_any {k : IntKind} {w : World} {a : Option Addr} {len cap : Nat} {zs : List Int} (h : IsRow k w a len cap zs) (h0 : ∀ n : Int, (Lit.int k n).wf = true → 0 ≤ n) :
    ∃ xs : List Nat, xs.length = len ∧ (∀ x ∈ xs, (Lit.int k (x : Int)).wf = true) ∧ Sl w k a xs ∧ len ≤ cap ∧ cap ≤ maxLen := by
  rcases h with ⟨rfl, rfl, rfl, rfl⟩ | ⟨x, rfl, hl, hm, hz, hcell, hwz⟩
  · exact ⟨[], rfl, (fun x hx => by cases hx), Sl.nil _ _ _, Nat.le_refl _, Nat.zero_le _⟩
  · have hlen : ((zs.take len).map Int.toNat).length = len := by rw [List.length_map, List.length_take, hz]; omega
    have hnat : ∀ i, i < len → ((nth ((zs.take len).map Int.toNat) i : Nat) : Int) = zs.getD i 0 := by
      intro i hi
      have hi2 : i < zs.length := by omega
      rw [nth_eq (by omega), List.getD_eq_getElem?_getD, List.getElem?_eq_getElem hi2]
      simp only [List.getElem_map, List.getElem_take, Option.getD_some]
      exact Int.toNat_of_nonneg (h0 _ (hwz _ (List.getElem_mem hi2)))
    refine ⟨(zs.take len).map Int.toNat, hlen, ?_, ?_, hl, hm⟩
    · intro y hy
      obtain ⟨z, hz1, rfl⟩ := List.mem_map.1 hy
      have hz2 := hwz z (List.mem_of_mem_take hz1)
      rw [Int.toNat_of_nonneg (h0 _ hz2)]
      exact hz2
    · intro hp
      rw [hlen] at hp
      obtain ⟨b, off, spot⟩ := x
      have hc := hcell 0 (by omega)
      have hspot : spot = none := by simpa [Addr.add] using World.cell?_spot hc
      subst hspot
      refine ⟨b, off, rfl, ?_, fun i hi => ?_⟩
      · have := World.block_lt_of_cell? _ _ hc
        simpa [Addr.add] using this
      · rw [hlen] at hi
        have hc2 := hcell i (by omega)
        rw [hnat i hi, ← hc2]
        congr 1
        unfold Addr.add
        split
        · subst i; rfl
        · rfl
theorem row_u64 {w : World} {a : Option Addr} {len cap : Nat} {zs : List Int} (h : IsRow .u64 w a len cap zs) :
    ∃ xs : List Nat, xs.length = len ∧ Ok xs ∧ Sl w .u64 a xs ∧ len ≤ cap ∧ cap ≤ maxLen := by
  obtain ⟨xs, h1, h2, h3⟩ := row_any h (fun n hn => (bounds_u64 hn).1)
  exact ⟨xs, h1, fun x hx => by have := (bounds_u64 (h2 x hx)).2; omega, h3⟩
theorem row_u8 {w : World} {a : Option Addr} {len cap : Nat} {zs : List Int} (h : IsRow .u8 w a len cap zs) :
    ∃ xs : List Nat, xs.length = len ∧ (∀ x ∈ xs, x < 256) ∧ Sl w .u8 a xs ∧ len ≤ cap ∧ cap ≤ maxLen := by
  obtain ⟨xs, h1, h2, h3⟩ := row_any h (fun n hn => (bounds_u8 hn).1)
  exact ⟨xs, h1, fun x hx => by have := (bounds_u8 (h2 x hx)).2; omega, h3⟩
end Go.Proofs.YtdilgmokiclfaaaDoor
namespace Go.Proofs.YtdilgmokiclfaaaDoor
open Go.RowKit

theorem ret_congr {a b : Value} (h : a = b) : Ending.returned a = .returned b := by rw [h]

set_option linter.unusedVariables false in
/-- nat.cut -/
theorem cut_any (A : Option Addr) (n c : Nat) (w : World) (hn : n ≤ c) (hc : c ≤ maxLen) :
    Calls Tryd.prog 82 #[.slice A n c] w fun e w' => e = .returned (.slice A (min n 16) (min n 16)) ∧ w = w' := by
  unfold maxLen at hc
  by_cases h : n ≤ 16
  · have e : min n 16 = n := Nat.min_eq_left h
    rw [e]; clear e
    have h' : ¬ (16 : Int) < (n : Int) := by omega
    go_enter Tryd.func82, Tryd.ntmps82
    go_wp2
    go_ret
    first | exact ⟨rfl, rfl⟩ | (refine ⟨?_, rfl⟩; show Ending.returned (.slice A (min (n : Int) 16).toNat (min (n : Int) 16).toNat) = _; rw [show (min (n : Int) 16).toNat = n by omega])
  · have e : min n 16 = 16 := Nat.min_eq_right (by omega)
    rw [e]; clear e
    have h' : (16 : Int) < (n : Int) := by omega
    go_enter Tryd.func82, Tryd.ntmps82
    go_wp2
    go_ret
    first | exact ⟨rfl, rfl⟩ | (refine ⟨?_, rfl⟩; show Ending.returned (.slice A (min (n : Int) 16).toNat (min (n : Int) 16).toNat) = _; rw [show (min (n : Int) 16).toNat = 16 by omega])

theorem limb_any (A : Option Addr) (n c : Nat) (xs : List Nat) (i : Int) (w : World) (h0 : 0 ≤ i) (hx : xs.length = n) (hs : Sl w .u64 A xs) :
    Calls Tryd.prog 83 #[.slice A n c, .int .i64 i] w fun e w' => e = .returned (.int .u64 (nth xs i.toNat : Nat)) ∧ w = w' := by
  obtain ⟨k, rfl⟩ := Int.eq_ofNat_of_zero_le h0
  rw [Int.toNat_natCast]
  by_cases hk : k < n
  · obtain ⟨b, off, rfl, hb, hcell⟩ := hs (by omega)
    have hcl := hcell k (by omega)
    clear hcell
    go_enter Tryd.func83, Tryd.ntmps83
    go_wp2
    go_ret
    exact ⟨rfl, rfl⟩
  · have e : nth xs k = 0 := nth_ge (by omega)
    rw [e]; clear e
    go_enter Tryd.func83, Tryd.ntmps83
    go_wp2
    go_ret
    exact ⟨rfl, rfl⟩
end Go.Proofs.YtdilgmokiclfaaaDoor
namespace Go.Proofs.YtdilgmokiclfaaaDoor
open Go.RowKit
set_option linter.unusedVariables false

theorem info_u64 : (Tryd.prog.info? 22).map (fun i => (i.zero, i.size, i.bytes)) = some (some (.int .u64 0), 1, 8) := by kernel_rfl
theorem made_lim (n : Nat) : madeCells #[Value.int .u64 0] n = lim .u64 (List.replicate n 0) := by
  apply Array.ext'
  rw [toList_madeCells_one]
  simp [lim]
theorem run_mk (n : Nat) (hn : n ≤ 35184372088832) (w : World) :
    (Instr.makeSlice 110 (.int .i64 (n : Int)) (.int .i64 (n : Int))).run Tryd.prog w = .ok (.slice (some ⟨w.heap.size, 0, none⟩) n n) (w.alloc (.cells (lim .u64 (List.replicate n 0)) 22)) := by
  obtain ⟨i0, hi, hz0, hz1, hz2⟩ := info_parts info_u64
  have h := run_make (P := Tryd.prog) w 110 22 i0 (.int .u64 0) Tryd.underlying110 hi hz0 .i64 .i64 n n (by omega) (by omega) (by rw [hz2]; omega) (by omega)
  simp only [Int.toNat_natCast, hz1, Nat.mul_one] at h
  rw [h, ← made_lim]; rfl

theorem cut_at (A : Option Addr) (n c na : Nat) (w : World) (hn : n ≤ c) (hc : c ≤ maxLen) (e : min n 16 = na) :
    Calls Tryd.prog 82 #[.slice A n c] w fun e w' => e = .returned (.slice A na na) ∧ w = w' := by
  subst e; exact cut_any A n c w hn hc

def AddPost (L S : Nat) (w : World) (e : Ending) (w' : World) : Prop :=
  ∃ (g : Nat) (zs : List Nat) (cy : Nat), e = .returned (.tuple #[.slice (some ⟨g, 0, none⟩) L L, .int .u64 (cy : Int)]) ∧ Own w' g 22 .u64 zs ∧ zs.length = L ∧ Ok zs ∧ cy ≤ 1 ∧
    val zs + pw L * cy = S ∧ Below w.heap.size w w'

def addLo (x y c : Nat) : Nat := (x + y + c) % 18446744073709551616
def addHi (x y c : Nat) : Nat := (x + y + c) / 18446744073709551616
theorem addLo_lt (x y c : Nat) : addLo x y c < 18446744073709551616 := Nat.mod_lt _ (by decide)
def AddRel (xs ys : List Nat) (L g : Nat) (w : World) (i cy : Value) (wr : World) : Prop :=
  ∃ (k c : Nat) (zs : List Nat), k ≤ L ∧ i = .int .i64 (k : Int) ∧ cy = .int .u64 (c : Int) ∧ c ≤ 1 ∧ zs.length = L ∧ Ok zs ∧ Own wr g 22 .u64 zs ∧ Below w.heap.size w wr ∧
    val (zs.take k) + pw k * c = val (xs.take k) + val (ys.take k)

theorem AddRel.start (xs ys : List Nat) (L : Nat) (w : World) : AddRel xs ys L w.heap.size w (.int .i64 0) (.int .u64 0) (w.alloc (.cells (lim .u64 (List.replicate L 0)) 22)) :=
  ⟨0, 0, _, Nat.zero_le _, rfl, rfl, Nat.zero_le _, List.length_replicate, Ok.replicate L, Own.new _ _ _ _, (Below.refl _ _).alloc (Nat.le_refl _) _, by simp [val, pw]⟩

theorem AddRel.step {xs ys zs : List Nat} {L g k c : Nat} {w wr : World} (ox : Ok xs) (oy : Ok ys) (hk : k < L) (hc : c ≤ 1) (hz : zs.length = L) (oz : Ok zs) (own : Own wr g 22 .u64 zs)
    (hb : Below w.heap.size w wr) (hg : w.heap.size ≤ g) (h : val (zs.take k) + pw k * c = val (xs.take k) + val (ys.take k)) :
    AddRel xs ys L g w (.int .i64 ((k : Int) + 1)) (.int .u64 (addHi (nth xs k) (nth ys k) c : Nat)) (wr.setCell ⟨g, k, none⟩ (.int .u64 (addLo (nth xs k) (nth ys k) c : Nat))) := by
  refine ⟨k + 1, _, zs.set k (addLo (nth xs k) (nth ys k) c), by omega, rfl, rfl, add_carry (ox.getD k) (oy.getD k) hc, by simpa using hz, oz.set (addLo_lt _ _ _) k, own.set k _, hb.setCell hg _, ?_⟩
  rw [val_set_take (by omega), val_take_succ xs, val_take_succ ys, pw_succ]
  exact add_step _ _ _ _ _ _ _ h

theorem AddRel.done {xs ys zs : List Nat} {L g c : Nat} {w wr : World} (hz : zs.length = L) (hx : xs.length ≤ L) (hy : ys.length ≤ L)  (oz : Ok zs) (own : Own wr g 22 .u64 zs) (hc : c ≤ 1)
    (hb : Below w.heap.size w wr) (h : val (zs.take L) + pw L * c = val (xs.take L) + val (ys.take L)) :
    AddPost L (val xs + val ys) w (.returned (.tuple #[.slice (some ⟨g, 0, none⟩) L L, .int .u64 (c : Int)])) wr := by
  rw [val_take_all _ (by omega), val_take_all _ hx, val_take_all _ hy] at h
  exact ⟨g, zs, c, rfl, own, hz, oz, hc, h, hb⟩

end Go.Proofs.YtdilgmokiclfaaaDoor
namespace Go.Proofs.YtdilgmokiclfaaaDoor
open Go.RowKit
set_option linter.unusedVariables false

theorem shr_mod (x r : Nat) : ((x : Int) / 2 ^ r).tmod 2 = ((x / 2 ^ r % 2 : Nat) : Int) := by
  have e : (x : Int) / 2 ^ r = ((x / 2 ^ r : Nat) : Int) := by simp
  rw [e, Int.tmod_eq_emod_of_nonneg (Int.natCast_nonneg _)]; rfl
theorem or_shl (a b r : Nat) (ha : a < 18446744073709551616) (hb : b * 2 ^ r < 18446744073709551616) :
    bits .or .u64 (a : Int) (IntKind.u64.wrap ((b : Int) * 2 ^ r)) = ((a ||| b * 2 ^ r : Nat) : Int) := by
  have e : (b : Int) * 2 ^ r = ((b * 2 ^ r : Nat) : Int) := by simp
  rw [e, IntWalk.u64_in _ (by omega), u64_or_nat _ _ ha hb]
theorem int_eq {k : IntKind} {a b : Int} (h : a = b) : Value.int k a = Value.int k b := by rw [h]

def RAddRel (A B L g : Nat) (w : World) (i cy : Value) (wr : World) : Prop :=
  ∃ (k c : Nat) (zs : List Nat), k ≤ 64 * L ∧ i = .int .i64 (k : Int) ∧ cy = .int .u64 (c : Int) ∧ c ≤ 1 ∧ zs.length = L ∧ Ok zs ∧ Own wr g 22 .u64 zs ∧ Below w.heap.size w wr ∧
    val zs < 2 ^ k ∧ val zs + 2 ^ k * c = A % 2 ^ k + B % 2 ^ k

theorem RAddRel.start (A B L : Nat) (w : World) : RAddRel A B L w.heap.size w (.int .i64 0) (.int .u64 0) (w.alloc (.cells (lim .u64 (List.replicate L 0)) 22)) :=
  ⟨0, 0, _, Nat.zero_le _, rfl, rfl, Nat.zero_le _, List.length_replicate, Ok.replicate L, Own.new _ _ _ _, (Below.refl _ _).alloc (Nat.le_refl _) _, by simp [val_replicate], by simp [val_replicate, Nat.mod_one]⟩

/-- A bit put: what becomes of the row. -/
theorem put_bit {zs : List Nat} {k L b : Nat} {v : Int} (hk : k < 64 * L) (hz : zs.length = L) (oz : Ok zs) (hv : val zs < 2 ^ k) (hb : b < 2) (e : v = b) :
    (zs.set (k / 64) (nth zs (k / 64) + v.toNat * 2 ^ (k % 64))).length = L ∧ Ok (zs.set (k / 64) (nth zs (k / 64) + v.toNat * 2 ^ (k % 64))) ∧
      val (zs.set (k / 64) (nth zs (k / 64) + v.toNat * 2 ^ (k % 64))) = val zs + b * 2 ^ k := by
  obtain ⟨h1, h2, h3⟩ := set_bit oz (i := k) (b := b) (by omega) hv hb
  rw [e, Int.toNat_natCast]
  exact ⟨by simpa using hz, oz.set h2 _, h3⟩

theorem RAddRel.step {A B L g k c : Nat} {zs : List Nat} {v cv : Int} {w wr wr' : World} (hk : k < 64 * L) (hc : c ≤ 1) (hz : zs.length = L) (oz : Ok zs) (own : Own wr g 22 .u64 zs)
    (hb : Below w.heap.size w wr) (hg : w.heap.size ≤ g) (hv : val zs < 2 ^ k) (h : val zs + 2 ^ k * c = A % 2 ^ k + B % 2 ^ k)
    (ew : wr.setCell ⟨g, k / 64, none⟩ (.int .u64 (nth zs (k / 64) + v.toNat * 2 ^ (k % 64) : Nat)) = wr')
    (e1 : v = ((bitOf A k + bitOf B k + c) % 2 : Nat)) (e2 : cv = ((bitOf A k + bitOf B k + c) / 2 : Nat)) :
    RAddRel A B L g w (.int .i64 ((k : Int) + 1)) (.int .u64 cv) wr' := by
  have hA := bitOf_lt A k
  have hB := bitOf_lt B k
  obtain ⟨h1, h2, h3⟩ := put_bit hk hz oz hv (Nat.mod_lt _ (by decide)) e1
  subst ew
  refine ⟨k + 1, _, _, by omega, rfl, int_eq e2, by omega, h1, h2, own.set _ _, hb.setCell hg _, ?_, ?_⟩
  · rw [h3, Nat.pow_succ]
    have : (bitOf A k + bitOf B k + c) % 2 * 2 ^ k ≤ 1 * 2 ^ k := Nat.mul_le_mul_right _ (by omega)
    omega
  · rw [h3, mod_pow_succ A, mod_pow_succ B, Nat.pow_succ]
    have e := Nat.mod_add_div (bitOf A k + bitOf B k + c) 2
    have e3 : 2 ^ k * ((bitOf A k + bitOf B k + c) % 2 + 2 * ((bitOf A k + bitOf B k + c) / 2)) = 2 ^ k * (bitOf A k + bitOf B k + c) := by rw [e]
    rw [Nat.mul_add, Nat.mul_add, Nat.mul_add] at e3
    rw [Nat.mul_assoc, Nat.mul_comm ((bitOf A k + bitOf B k + c) % 2)]
    omega

theorem RAddRel.done {A B L g c : Nat} {zs : List Nat} {w wr : World} (hz : zs.length = L) (hA : A < pw L) (hB : B < pw L) (oz : Ok zs) (own : Own wr g 22 .u64 zs) (hc : c ≤ 1)
    (hb : Below w.heap.size w wr) (h : val zs + 2 ^ (64 * L) * c = A % 2 ^ (64 * L) + B % 2 ^ (64 * L)) :
    AddPost L (A + B) w (.returned (.tuple #[.slice (some ⟨g, 0, none⟩) L L, .int .u64 (c : Int)])) wr := by
  rw [← pw_two, Nat.mod_eq_of_lt hA, Nat.mod_eq_of_lt hB] at h
  exact ⟨g, zs, c, rfl, own, hz, oz, hc, h, hb⟩

end Go.Proofs.YtdilgmokiclfaaaDoor
namespace Go.Proofs.YtdilgmokiclfaaaDoor
open Go.RowKit
set_option linter.unusedVariables false

def SubPost (L X Y : Nat) (w : World) (e : Ending) (w' : World) : Prop :=
  ∃ (g : Nat) (zs : List Nat) (cy : Nat), e = .returned (.tuple #[.slice (some ⟨g, 0, none⟩) L L, .int .u64 (cy : Int)]) ∧ Own w' g 22 .u64 zs ∧ zs.length = L ∧ Ok zs ∧ cy ≤ 1 ∧
    val zs + Y = X + pw L * cy ∧ Below w.heap.size w w'

def subLo (x y c : Nat) : Nat := (x + 18446744073709551616 - y - c) % 18446744073709551616
def subHi (x y c : Nat) : Nat := if x < y + c then 1 else 0
theorem subLo_lt (x y c : Nat) : subLo x y c < 18446744073709551616 := Nat.mod_lt _ (by decide)
theorem subHi_le (x y c : Nat) : subHi x y c ≤ 1 := by unfold subHi; split <;> omega
def SubRel (xs ys : List Nat) (L g : Nat) (w : World) (i cy : Value) (wr : World) : Prop :=
  ∃ (k c : Nat) (zs : List Nat), k ≤ L ∧ i = .int .i64 (k : Int) ∧ cy = .int .u64 (c : Int) ∧ c ≤ 1 ∧ zs.length = L ∧ Ok zs ∧ Own wr g 22 .u64 zs ∧ Below w.heap.size w wr ∧
    val (zs.take k) + val (ys.take k) = val (xs.take k) + pw k * c

theorem SubRel.start (xs ys : List Nat) (L : Nat) (w : World) : SubRel xs ys L w.heap.size w (.int .i64 0) (.int .u64 0) (w.alloc (.cells (lim .u64 (List.replicate L 0)) 22)) :=
  ⟨0, 0, _, Nat.zero_le _, rfl, rfl, Nat.zero_le _, List.length_replicate, Ok.replicate L, Own.new _ _ _ _, (Below.refl _ _).alloc (Nat.le_refl _) _, by simp [val, pw]⟩

theorem SubRel.step {xs ys zs : List Nat} {L g k c : Nat} {w wr : World} (ox : Ok xs) (oy : Ok ys) (hk : k < L) (hc : c ≤ 1) (hz : zs.length = L) (oz : Ok zs) (own : Own wr g 22 .u64 zs)
    (hb : Below w.heap.size w wr) (hg : w.heap.size ≤ g) (h : val (zs.take k) + val (ys.take k) = val (xs.take k) + pw k * c) :
    SubRel xs ys L g w (.int .i64 ((k : Int) + 1)) (.int .u64 (subHi (nth xs k) (nth ys k) c : Nat)) (wr.setCell ⟨g, k, none⟩ (.int .u64 (subLo (nth xs k) (nth ys k) c : Nat))) := by
  refine ⟨k + 1, _, zs.set k (subLo (nth xs k) (nth ys k) c), by omega, rfl, rfl, subHi_le _ _ _, by simpa using hz, oz.set (subLo_lt _ _ _) k, own.set k _, hb.setCell hg _, ?_⟩
  rw [val_set_take (by omega), val_take_succ xs, val_take_succ ys, pw_succ]
  exact sub_step _ _ _ _ _ _ _ (ox.getD k) (oy.getD k) hc h

theorem SubRel.done {xs ys zs : List Nat} {L g c : Nat} {w wr : World} (hz : zs.length = L) (hx : xs.length ≤ L) (hy : ys.length ≤ L)  (oz : Ok zs) (own : Own wr g 22 .u64 zs) (hc : c ≤ 1)
    (hb : Below w.heap.size w wr) (h : val (zs.take L) + val (ys.take L) = val (xs.take L) + pw L * c) :
    SubPost L (val xs) (val ys) w (.returned (.tuple #[.slice (some ⟨g, 0, none⟩) L L, .int .u64 (c : Int)])) wr := by
  rw [val_take_all _ (by omega), val_take_all _ hy, val_take_all _ hx] at h
  exact ⟨g, zs, c, rfl, own, hz, oz, hc, h, hb⟩

def RSubRel (A B L g : Nat) (w : World) (i cy : Value) (wr : World) : Prop :=
  ∃ (k c : Nat) (zs : List Nat), k ≤ 64 * L ∧ i = .int .i64 (k : Int) ∧ cy = .int .u64 (c : Int) ∧ c ≤ 1 ∧ zs.length = L ∧ Ok zs ∧ Own wr g 22 .u64 zs ∧ Below w.heap.size w wr ∧
    val zs < 2 ^ k ∧ val zs + B % 2 ^ k = A % 2 ^ k + 2 ^ k * c

theorem RSubRel.start (A B L : Nat) (w : World) : RSubRel A B L w.heap.size w (.int .i64 0) (.int .u64 0) (w.alloc (.cells (lim .u64 (List.replicate L 0)) 22)) :=
  ⟨0, 0, _, Nat.zero_le _, rfl, rfl, Nat.zero_le _, List.length_replicate, Ok.replicate L, Own.new _ _ _ _, (Below.refl _ _).alloc (Nat.le_refl _) _, by simp [val_replicate], by simp [val_replicate, Nat.mod_one]⟩

theorem RSubRel.step {A B L g k c : Nat} {zs : List Nat} {v cv : Int} {w wr wr' : World} (hk : k < 64 * L) (hc : c ≤ 1) (hz : zs.length = L) (oz : Ok zs) (own : Own wr g 22 .u64 zs)
    (hb : Below w.heap.size w wr) (hg : w.heap.size ≤ g) (hv : val zs < 2 ^ k) (h : val zs + B % 2 ^ k = A % 2 ^ k + 2 ^ k * c)
    (ew : wr.setCell ⟨g, k / 64, none⟩ (.int .u64 (nth zs (k / 64) + v.toNat * 2 ^ (k % 64) : Nat)) = wr')
    (e1 : v = ((2 + bitOf A k - bitOf B k - c) % 2 : Nat)) (e2 : cv = (1 - (2 + bitOf A k - bitOf B k - c) / 2 : Nat)) :
    RSubRel A B L g w (.int .i64 ((k : Int) + 1)) (.int .u64 cv) wr' := by
  have hA := bitOf_lt A k
  have hB := bitOf_lt B k
  obtain ⟨h1, h2, h3⟩ := put_bit hk hz oz hv (Nat.mod_lt _ (by decide)) e1
  subst ew
  refine ⟨k + 1, _, _, by omega, rfl, int_eq e2, by omega, h1, h2, own.set _ _, hb.setCell hg _, ?_, ?_⟩
  · rw [h3, Nat.pow_succ]
    have : (2 + bitOf A k - bitOf B k - c) % 2 * 2 ^ k ≤ 1 * 2 ^ k := Nat.mul_le_mul_right _ (by omega)
    omega
  · rw [h3, mod_pow_succ A, mod_pow_succ B, Nat.pow_succ]
    have e : (2 + bitOf A k - bitOf B k - c) % 2 + bitOf B k + c = bitOf A k + 2 * (1 - (2 + bitOf A k - bitOf B k - c) / 2) := by omega
    have e3 : 2 ^ k * ((2 + bitOf A k - bitOf B k - c) % 2 + bitOf B k + c) = 2 ^ k * (bitOf A k + 2 * (1 - (2 + bitOf A k - bitOf B k - c) / 2)) := by rw [e]
    rw [Nat.mul_add, Nat.mul_add, Nat.mul_add] at e3
    rw [Nat.mul_assoc, Nat.mul_comm ((2 + bitOf A k - bitOf B k - c) % 2)]
    omega

theorem RSubRel.done {A B L g c : Nat} {zs : List Nat} {w wr : World} (hz : zs.length = L) (hA : A < pw L) (hB : B < pw L) (oz : Ok zs) (own : Own wr g 22 .u64 zs) (hc : c ≤ 1)
    (hb : Below w.heap.size w wr) (h : val zs + B % 2 ^ (64 * L) = A % 2 ^ (64 * L) + 2 ^ (64 * L) * c) :
    SubPost L A B w (.returned (.tuple #[.slice (some ⟨g, 0, none⟩) L L, .int .u64 (c : Int)])) wr := by
  rw [← pw_two, Nat.mod_eq_of_lt hB, Nat.mod_eq_of_lt hA] at h
  exact ⟨g, zs, c, rfl, own, hz, oz, hc, h, hb⟩

end Go.Proofs.YtdilgmokiclfaaaDoor
namespace Go.Proofs.YtdilgmokiclfaaaDoor
open Go.RowKit
set_option linter.unusedVariables false

theorem sl_new (w : World) (T : TypeId) (k : IntKind) (zs : List Nat) : Sl (w.alloc (.cells (lim k zs) T)) k (some ⟨w.heap.size, 0, none⟩) zs := Sl.of_own (Own.new w T k zs)

end Go.Proofs.YtdilgmokiclfaaaDoor
namespace Go.Proofs.YtdilgmokiclfaaaDoor
open Go.RowKit
set_option linter.unusedVariables false

def mulHi (x y : Nat) : Nat := x * y / 18446744073709551616
def mulLo (x y : Nat) : Nat := x * y % 18446744073709551616

/-- A row handed back. -/
def RowPost (L V : Nat) (w : World) (e : Ending) (w' : World) : Prop :=
  ∃ (g : Nat) (zs : List Nat), e = .returned (.slice (some ⟨g, 0, none⟩) L L) ∧ Own w' g 22 .u64 zs ∧ zs.length = L ∧ Ok zs ∧ val zs = V ∧ Below w.heap.size w w'

/-- A row being made, limb by limb, with a carry: what stands in the first k limbs, and the carry, is F k. -/
def MkRel (F : Nat → Nat) (L g : Nat) (w : World) (i cy : Value) (wr : World) : Prop :=
  ∃ (k c : Nat) (zs : List Nat), k ≤ L ∧ i = .int .i64 (k : Int) ∧ cy = .int .u64 (c : Int) ∧ c ≤ 1 ∧ zs.length = L ∧ Ok zs ∧ Own wr g 22 .u64 zs ∧ Below w.heap.size w wr ∧
    val (zs.take k) + pw k * c = F k
theorem MkRel.start {F : Nat → Nat} {c : Nat} (hc : c ≤ 1) (L : Nat) (w : World) (h : c = F 0) : MkRel F L w.heap.size w (.int .i64 0) (.int .u64 (c : Int)) (w.alloc (.cells (lim .u64 (List.replicate L 0)) 22)) :=
  ⟨0, c, _, Nat.zero_le _, rfl, rfl, hc, List.length_replicate, Ok.replicate L, Own.new _ _ _ _, (Below.refl _ _).alloc (Nat.le_refl _) _, by simp [val, pw, h]⟩
theorem MkRel.step {F : Nat → Nat} {L g k S : Nat} {zs : List Nat} {v cv : Int} {w wr wr' : World} (hk : k < L) (hz : zs.length = L) (oz : Ok zs) (own : Own wr g 22 .u64 zs)
    (hb : Below w.heap.size w wr) (hg : w.heap.size ≤ g) (ew : wr.setCell ⟨g, k, none⟩ (.int .u64 v) = wr') (e1 : v = (S % 18446744073709551616 : Nat)) (e2 : cv = (S / 18446744073709551616 : Nat))
    (hS : S / 18446744073709551616 ≤ 1) (h : val (zs.take k) + pw k * S = F (k + 1)) :
    MkRel F L g w (.int .i64 ((k : Int) + 1)) (.int .u64 cv) wr' := by
  subst ew e1
  refine ⟨k + 1, _, zs.set k (S % 18446744073709551616), by omega, rfl, int_eq e2, hS, by simpa using hz, oz.set (Nat.mod_lt _ (by decide)) k, own.set k _, hb.setCell hg _, ?_⟩
  rw [val_set_take (by omega), pw_succ, ← h, Nat.add_assoc, Nat.mul_comm 18446744073709551616, Nat.mul_assoc, ← Nat.mul_add, Nat.mod_add_div]
theorem MkRel.done {F : Nat → Nat} {L g c : Nat} {zs : List Nat} {w wr : World} (hz : zs.length = L) (oz : Ok zs) (own : Own wr g 22 .u64 zs)
    (hb : Below w.heap.size w wr) (h : val (zs.take L) + pw L * c = F L) : RowPost L (F L % pw L) w (.returned (.slice (some ⟨g, 0, none⟩) L L)) wr := by
  have hv := val_lt oz
  rw [hz] at hv
  rw [val_take_all _ (by omega)] at h
  exact ⟨g, zs, rfl, own, hz, oz, by rw [← h, Nat.add_mul_mod_self_left, Nat.mod_eq_of_lt hv], hb⟩

end Go.Proofs.YtdilgmokiclfaaaDoor
namespace Go.Proofs.YtdilgmokiclfaaaDoor
open Go.RowKit
set_option linter.unusedVariables false

theorem mul_lt_pw {a b : Nat} {xs ys : List Nat} (ox : Ok xs) (oy : Ok ys) (hx : xs.length = a) (hy : ys.length = b) : val xs * val ys < pw (a + b) := by
  have h1 := val_lt ox
  have h2 := val_lt oy
  rw [hx] at h1
  rw [hy] at h2
  rw [pw_add]
  exact Nat.lt_of_le_of_lt (Nat.mul_le_mul_left _ (Nat.le_of_lt h2)) (Nat.mul_lt_mul_of_pos_right h1 (pw_pos _))

theorem mul_shift_lt {A B T : Nat} (h : A * B < T) (k : Nat) : A / 2 ^ k * B < T := Nat.lt_of_le_of_lt (Nat.mul_le_mul_right _ (Nat.div_le_self _ _)) h
theorem mul_shift (A B j : Nat) : A / 2 ^ j * B = 2 * (A / 2 ^ (j + 1) * B) + bitOf A j * B := by
  rw [div_pow_succ A j, Nat.add_mul, Nat.mul_assoc]

def RMulRel (A B la L : Nat) (w : World) (i o : Value) (wr : World) : Prop :=
  ∃ (k g : Nat) (zs : List Nat), k ≤ 64 * la ∧ i = .int .i64 ((k : Int) - 1) ∧ o = .slice (some ⟨g, 0, none⟩) L L ∧ zs.length = L ∧ Ok zs ∧ Own wr g 22 .u64 zs ∧ Below w.heap.size w wr ∧ val zs = A / 2 ^ k * B
def MulPost (L V : Nat) (w : World) (e : Ending) (w' : World) : Prop := RowPost L V w e w'

theorem mulLo_lt (x y : Nat) : mulLo x y < 18446744073709551616 := Nat.mod_lt _ (by decide)
/-- What the inner round puts and carries. -/
theorem round_lo (x y o c : Nat) : addLo (addLo (mulLo x y) o 0) c 0 = loS x y o c := by unfold addLo mulLo loS; omega
theorem round_hi {x y o c : Nat} (hx : x < 18446744073709551616) (hy : y < 18446744073709551616) (ho : o < 18446744073709551616) (hc : c < 18446744073709551616) :
    IntKind.u64.wrap (IntKind.u64.wrap ((mulHi x y : Nat) + (addHi (mulLo x y) o 0 : Nat)) + (addHi (addLo (mulLo x y) o 0) c 0 : Nat)) = (hiS x y o c : Nat) := by
  have h1 := hi1_lt hx hy ho
  have h2 := hi_lt hx hy ho hc
  rw [IntKind.wrap_u64, IntKind.wrap_u64]
  unfold mulHi addHi mulLo addLo
  unfold hiS at h2 ⊢
  simp only [Nat.add_zero]
  omega

/-- Within a round of the outer loop: what stands after j rounds of the inner one. -/
def MulIn (zs0 ys : List Nat) (i x m L g : Nat) (w : World) (jv cy : Value) (wr : World) : Prop :=
  ∃ (j c : Nat) (zs : List Nat), j ≤ m ∧ jv = .int .i64 (j : Int) ∧ cy = .int .u64 (c : Int) ∧ c < 18446744073709551616 ∧ zs.length = L ∧ Ok zs ∧ Own wr g 22 .u64 zs ∧ Below w.heap.size w wr ∧
    val zs + pw (i + j) * c = val zs0 + pw i * (x * val (ys.take j)) ∧ ∀ t, i + j ≤ t → nth zs t = nth zs0 t
theorem MulIn.step {zs0 zs ys : List Nat} {i x m L g j c : Nat} {w wr wr' : World} {v cv : Int} (hx : x < 18446744073709551616) (oy : Ok ys) (hj : j < m) (hL : i + m < L) (hc : c < 18446744073709551616)
    (hz : zs.length = L) (oz : Ok zs) (own : Own wr g 22 .u64 zs) (hb : Below w.heap.size w wr) (hg : w.heap.size ≤ g) (h : val zs + pw (i + j) * c = val zs0 + pw i * (x * val (ys.take j)))
    (hk : ∀ t, i + j ≤ t → nth zs t = nth zs0 t) (ew : wr.setCell ⟨g, i + j, none⟩ (.int .u64 v) = wr') (e1 : v = (loS x (nth ys j) (nth zs (i + j)) c : Nat)) (e2 : cv = (hiS x (nth ys j) (nth zs (i + j)) c : Nat)) :
    MulIn zs0 ys i x m L g w (.int .i64 ((j : Int) + 1)) (.int .u64 cv) wr' := by
  subst ew e1
  refine ⟨j + 1, _, zs.set (i + j) (loS x (nth ys j) (nth zs (i + j)) c), by omega, rfl, int_eq e2, hi_lt hx (oy.getD j) (oz.getD _) hc, by simpa using hz, oz.set (lo_lt _ _ _ _) _, own.set _ _, hb.setCell hg _, ?_, ?_⟩
  · have h1 := val_set (l := zs) (k := i + j) (by omega) (loS x (nth ys j) (nth zs (i + j)) c)
    have h2 := hi_lo x (nth ys j) (nth zs (i + j)) c
    rw [← Nat.add_assoc i j 1, pw_succ, val_take_succ, Nat.mul_add x, Nat.mul_add (pw i)]
    refine mul_step _ _ _ _ _ _ _ _ _ (x * nth ys j) _ h1 h2 h ?_
    rw [pw_add, Nat.mul_assoc, Nat.mul_left_comm (pw j)]
  · intro t ht
    rw [nth_set (by omega), if_neg (by omega)]
    exact hk t (by omega)

def MulRel (xs ys : List Nat) (n L g : Nat) (w : World) (iv : Value) (wr : World) : Prop :=
  ∃ (i : Nat) (zs : List Nat), i ≤ n ∧ iv = .int .i64 (i : Int) ∧ zs.length = L ∧ Ok zs ∧ Own wr g 22 .u64 zs ∧ Below w.heap.size w wr ∧ val zs = val (xs.take i) * val ys
theorem MulRel.top {xs ys zs : List Nat} {i m : Nat} (ox : Ok xs) (oy : Ok ys) (oz : Ok zs) (hy : ys.length = m) (h : val zs = val (xs.take i) * val ys) : nth zs (i + m) = 0 := by
  have h1 := val_take_lt ox i
  have h2 := val_lt oy
  rw [hy] at h2
  rw [getD_val oz, Nat.div_eq_of_lt]
  rw [h, pw_add]
  exact Nat.lt_of_le_of_lt (Nat.mul_le_mul_left _ (Nat.le_of_lt h2)) (Nat.mul_lt_mul_of_pos_right h1 (pw_pos _))
theorem MulRel.step {xs ys zs zs0 : List Nat} {n m L g i c : Nat} {w wr wr' : World} (ox : Ok xs) (oy : Ok ys) (hi : i < n) (hL : i + m < L) (hy : ys.length = m) (oz0 : Ok zs0) (h0 : val zs0 = val (xs.take i) * val ys)
    (hc : c < 18446744073709551616) (hz : zs.length = L) (oz : Ok zs) (own : Own wr g 22 .u64 zs) (hb : Below w.heap.size w wr) (hg : w.heap.size ≤ g) (h : val zs + pw (i + m) * c = val zs0 + pw i * (nth xs i * val (ys.take m)))
    (hk : ∀ t, i + m ≤ t → nth zs t = nth zs0 t) (ew : wr.setCell ⟨g, i + m, none⟩ (.int .u64 (c : Int)) = wr') : MulRel xs ys n L g w (.int .i64 ((i : Int) + 1)) wr' := by
  subst ew
  refine ⟨i + 1, zs.set (i + m) c, by omega, rfl, by simpa using hz, oz.set hc _, own.set _ _, hb.setCell hg _, ?_⟩
  have h1 := val_set (l := zs) (k := i + m) (by omega) c
  rw [hk _ (Nat.le_refl _), MulRel.top ox oy oz0 hy h0, Nat.mul_zero, Nat.add_zero, h, val_take_all ys (by omega), h0] at h1
  rw [h1, val_take_succ, Nat.add_mul, Nat.mul_assoc]

end Go.Proofs.YtdilgmokiclfaaaDoor
namespace Go.Proofs.YtdilgmokiclfaaaDoor

end Go.Proofs.YtdilgmokiclfaaaDoor
namespace Go.Proofs.YtdilgmokiclfaaaDoor
open Go.RowKit
set_option linter.unusedVariables false

theorem bitLen_half (x : Nat) (h : x ≠ 0) : bitLen x = 1 + bitLen (x / 2) := by
  unfold bitLen
  rw [if_neg h, Nat.log2_def]
  by_cases h2 : 2 ≤ x
  · rw [if_pos h2, if_neg (by omega)]; omega
  · rw [if_neg h2, if_pos (by omega)]
theorem bitLenAux_eq : ∀ (f x : Nat), x < 2 ^ f → Lib.bitLenAux f x = bitLen x := by
  intro f
  induction f with
  | zero => intro x hx; have : x = 0 := by omega
            subst this; rfl
  | succ f ih =>
    intro x hx
    unfold Lib.bitLenAux
    by_cases h : x = 0
    · subst h; rfl
    · rw [if_neg h, bitLen_half x h, ih _ (by rw [Nat.pow_succ] at hx; omega)]
set_option maxHeartbeats 400000 in
theorem cmp_lt (A B : Option Addr) (n c m d na ma : Nat) (xs ys : List Nat) (w : World) (hn : n ≤ c) (hc : c ≤ maxLen) (hm : m ≤ d) (hd : d ≤ maxLen)
    (ea : min n 16 = na) (eb : min m 16 = ma) (hna : na ≤ 16) (hma : ma ≤ 16) (hx : xs.length = na) (hy : ys.length = ma) (ox : Ok xs) (oy : Ok ys) (sx : Sl w .u64 A xs) (sy : Sl w .u64 B ys) (hle : na < ma) :
    Calls Tryd.prog 72 #[.slice A n c, .slice B m d] w fun e w' => e = .returned (.int .i64 (cmpN (val xs) (val ys))) ∧ w = w' := by
  have H1 := Lib.hid (cut_at A n c na w hn hc ea)
  have H2 := Lib.hid (cut_at B m d ma w hm hd eb)
  have Hx := Lib.hid hx
  have Hy := Lib.hid hy
  have Htop := Lib.hid ((val_top ox (show xs.length ≤ ma by omega)).trans (val_top oy (show ys.length ≤ ma by omega)).symm)
  clear hx hy ea eb
  go_enter Tryd.func72, Tryd.ntmps72
  go_wp2_with fail
  refine (H1.out).mono ?_
  rintro e w' ⟨rfl, rfl⟩
  go_wp2_with fail
  refine (H2.out).mono ?_
  rintro e w' ⟨rfl, rfl⟩
  go_wp2_with fail
  go_loop [5] (fun i => ∃ k : Nat, k ≤ ma ∧ i = .int .i64 ((k : Int) - 1) ∧ Hid (val xs / pw k = val ys / pw k)) (fun i => (intOf i + 1).toNat)
  case atStart => exact ⟨ma, Nat.le_refl _, int_eq (by omega), Htop⟩
  case round =>
    obtain ⟨k, hk, hi, He⟩ := hrel
    rcases k with _ | j
    · subst hi
      go_wp2
      go_ret
      exact ⟨ret_congr (int_eq (cmpN_eq (by have := He.out; rwa [pw_zero, Nat.div_one, Nat.div_one] at this)).symm), rfl⟩
    · obtain rfl : _ = Value.int .i64 (j : Int) := hi.trans (int_eq (by omega))
      clear hi
      go_wp2_with fail
      refine (limb_any A na na xs j _ (by omega) Hx.out sx).mono ?_
      rintro e w' ⟨rfl, rfl⟩
      go_wp2_with fail
      refine (limb_any B ma ma ys j _ (by omega) Hy.out sy).mono ?_
      rintro e w' ⟨rfl, rfl⟩
      rw [Int.toNat_natCast]
      rcases Nat.lt_trichotomy (nth xs j) (nth ys j) with h | h | h
      · go_wp2_with fail
        go_ret
        exact ⟨ret_congr (int_eq (cmpN_lt (val_lt_of ox oy He.out h)).symm), rfl⟩
      · have H := Lib.hid h
        have h1 : ¬ ((nth xs j : Nat) : Int) < (nth ys j : Nat) := by omega
        have h2 : ¬ ((nth ys j : Nat) : Int) < (nth xs j : Nat) := by omega
        clear h
        go_wp2_with fail
        exact ⟨⟨j, by omega, rfl, val_eq_of ox oy He.out H.out⟩, by simp [intOf]⟩
      · have h1 : ¬ ((nth xs j : Nat) : Int) < (nth ys j : Nat) := by omega
        go_wp2_with fail
        go_ret
        exact ⟨ret_congr (int_eq (cmpN_gt (val_lt_of oy ox He.out.symm h)).symm), rfl⟩

set_option maxHeartbeats 400000 in
theorem cmp_ge (A B : Option Addr) (n c m d na ma : Nat) (xs ys : List Nat) (w : World) (hn : n ≤ c) (hc : c ≤ maxLen) (hm : m ≤ d) (hd : d ≤ maxLen)
    (ea : min n 16 = na) (eb : min m 16 = ma) (hna : na ≤ 16) (hma : ma ≤ 16) (hx : xs.length = na) (hy : ys.length = ma) (ox : Ok xs) (oy : Ok ys) (sx : Sl w .u64 A xs) (sy : Sl w .u64 B ys) (hle : ma ≤ na) :
    Calls Tryd.prog 72 #[.slice A n c, .slice B m d] w fun e w' => e = .returned (.int .i64 (cmpN (val xs) (val ys))) ∧ w = w' := by
  have H1 := Lib.hid (cut_at A n c na w hn hc ea)
  have H2 := Lib.hid (cut_at B m d ma w hm hd eb)
  have Hx := Lib.hid hx
  have Hy := Lib.hid hy
  have Htop := Lib.hid ((val_top ox (show xs.length ≤ na by omega)).trans (val_top oy (show ys.length ≤ na by omega)).symm)
  clear hx hy ea eb
  go_enter Tryd.func72, Tryd.ntmps72
  go_wp2_with fail
  refine (H1.out).mono ?_
  rintro e w' ⟨rfl, rfl⟩
  go_wp2_with fail
  refine (H2.out).mono ?_
  rintro e w' ⟨rfl, rfl⟩
  go_wp2_with fail
  go_loop [5] (fun i => ∃ k : Nat, k ≤ na ∧ i = .int .i64 ((k : Int) - 1) ∧ Hid (val xs / pw k = val ys / pw k)) (fun i => (intOf i + 1).toNat)
  case atStart => exact ⟨na, Nat.le_refl _, int_eq (by omega), Htop⟩
  case round =>
    obtain ⟨k, hk, hi, He⟩ := hrel
    rcases k with _ | j
    · subst hi
      go_wp2
      go_ret
      exact ⟨ret_congr (int_eq (cmpN_eq (by have := He.out; rwa [pw_zero, Nat.div_one, Nat.div_one] at this)).symm), rfl⟩
    · obtain rfl : _ = Value.int .i64 (j : Int) := hi.trans (int_eq (by omega))
      clear hi
      go_wp2_with fail
      refine (limb_any A na na xs j _ (by omega) Hx.out sx).mono ?_
      rintro e w' ⟨rfl, rfl⟩
      go_wp2_with fail
      refine (limb_any B ma ma ys j _ (by omega) Hy.out sy).mono ?_
      rintro e w' ⟨rfl, rfl⟩
      rw [Int.toNat_natCast]
      rcases Nat.lt_trichotomy (nth xs j) (nth ys j) with h | h | h
      · go_wp2_with fail
        go_ret
        exact ⟨ret_congr (int_eq (cmpN_lt (val_lt_of ox oy He.out h)).symm), rfl⟩
      · have H := Lib.hid h
        have h1 : ¬ ((nth xs j : Nat) : Int) < (nth ys j : Nat) := by omega
        have h2 : ¬ ((nth ys j : Nat) : Int) < (nth xs j : Nat) := by omega
        clear h
        go_wp2_with fail
        exact ⟨⟨j, by omega, rfl, val_eq_of ox oy He.out H.out⟩, by simp [intOf]⟩
      · have h1 : ¬ ((nth xs j : Nat) : Int) < (nth ys j : Nat) := by omega
        go_wp2_with fail
        go_ret
        exact ⟨ret_congr (int_eq (cmpN_gt (val_lt_of oy ox He.out.symm h)).symm), rfl⟩

/-- nat.Cmp -/
theorem cmp_any (A B : Option Addr) (n c m d : Nat) (xs ys : List Nat) (w : World) (hn : n ≤ c) (hc : c ≤ maxLen) (hm : m ≤ d) (hd : d ≤ maxLen)
    (hx : xs.length = min n 16) (hy : ys.length = min m 16) (ox : Ok xs) (oy : Ok ys) (sx : Sl w .u64 A xs) (sy : Sl w .u64 B ys) :
    Calls Tryd.prog 72 #[.slice A n c, .slice B m d] w fun e w' => e = .returned (.int .i64 (cmpN (val xs) (val ys))) ∧ w = w' := by
  have h1 := Nat.min_le_right n 16
  have h2 := Nat.min_le_right m 16
  by_cases h : min n 16 < min m 16
  · exact cmp_lt A B n c m d _ _ xs ys w hn hc hm hd rfl rfl h1 h2 hx hy ox oy sx sy h
  · exact cmp_ge A B n c m d _ _ xs ys w hn hc hm hd rfl rfl h1 h2 hx hy ox oy sx sy (Nat.le_of_not_lt h)

theorem nth_top {xs : List Nat} (ox : Ok xs) {j : Nat} (h : val xs / pw (j + 1) = 0) : nth xs j = val xs / pw j := by
  rw [getD_val ox]
  rw [pw_succ, Nat.mul_comm, ← Nat.div_div_eq_div_mul] at h
  rw [Nat.mod_eq_of_lt]
  exact (Nat.div_eq_zero_iff_lt (by decide)).1 h
theorem bits_top {xs : List Nat} (ox : Ok xs) {j : Nat} (h : val xs / pw (j + 1) = 0) (h0 : nth xs j ≠ 0) : bitLen (val xs) = 64 * j + bitLen (nth xs j) := by
  have e := nth_top ox h
  have h1 := bitLen_lt (nth xs j)
  have h2 := bitLen_le h0
  have h3 := bitLen_pos h0
  generalize bitLen (nth xs j) = b at *
  obtain ⟨a, rfl⟩ : ∃ a, b = a + 1 := ⟨b - 1, by omega⟩
  rw [Nat.add_sub_cancel] at h2
  rw [← Nat.add_assoc]
  rw [e] at h1 h2
  refine bitLen_eq ?_ ?_
  · have := (Nat.div_lt_iff_lt_mul (pw_pos j)).1 h1
    rw [Nat.add_assoc, Nat.pow_add, ← pw_two, Nat.mul_comm]; exact this
  · have := (Nat.le_div_iff_mul_le (pw_pos j)).1 h2
    rw [Nat.pow_add, ← pw_two, Nat.mul_comm]; exact this
theorem bits_skip {xs : List Nat} (ox : Ok xs) {j : Nat} (h : val xs / pw (j + 1) = 0) (h0 : nth xs j = 0) : val xs / pw j = 0 := by rw [← nth_top ox h]; exact h0

end Go.Proofs.YtdilgmokiclfaaaDoor
namespace Go.Proofs.YtdilgmokiclfaaaDoor
open Go.RowKit
set_option linter.unusedVariables false

/-- Is a number not below another one? Is it below? -/
def geB (A B : Nat) : Bool := decide (B ≤ A)
def ltB (A B : Nat) : Bool := decide (A < B)
theorem geB_yes {A B : Nat} (h : B ≤ A) : geB A B = true := decide_eq_true h
theorem geB_no {A B : Nat} (h : A < B) : geB A B = false := decide_eq_false (by omega)
theorem ltB_yes {A B : Nat} (h : A < B) : ltB A B = true := decide_eq_true h
theorem ltB_no {A B : Nat} (h : B ≤ A) : ltB A B = false := decide_eq_false (by omega)

theorem limb_q (A : Option Addr) (n c : Nat) (xs : List Nat) (i : Int) (w : World) (h0 : 0 ≤ i) (hx : xs.length = n) (hs : Sl w .u64 A xs) :
    Calls Tryd.prog 83 #[.slice A n c, .int .i64 i] w fun e w' => e = .returned (.int .u64 (nth xs i.toNat : Nat)) ∧ w' = w :=
  (limb_any A n c xs i w h0 hx hs).mono fun _ _ ⟨h1, h2⟩ => ⟨h1, h2.symm⟩
theorem ret_bool {a b : Bool} (h : a = b) : Ending.returned (.bool a) = .returned (.bool b) := by rw [h]

/-- A row that is turned limb by limb, with a carry: Q k (what the first k limbs say) (the carry); the rest stands as it stood in zs0. -/
def InRel (Q : Nat → Nat → Nat → Prop) (zs0 : List Nat) (L g : Nat) (w : World) (i cy : Value) (wr : World) : Prop :=
  ∃ (k c : Nat) (zs : List Nat), k ≤ L ∧ i = .int .i64 (k : Int) ∧ cy = .int .u64 (c : Int) ∧ c ≤ 1 ∧ zs.length = L ∧ Ok zs ∧ Own wr g 22 .u64 zs ∧ Below w.heap.size w wr ∧
    Q k (val (zs.take k)) c ∧ ∀ t, k ≤ t → nth zs t = nth zs0 t
theorem InRel.step {Q : Nat → Nat → Nat → Prop} {L g k v c' : Nat} {zs zs0 : List Nat} {iv cv : Int} {w wr wr' : World} (hk : k < L) (hz : zs.length = L) (oz : Ok zs) (own : Own wr g 22 .u64 zs)
    (hb : Below w.heap.size w wr) (hg : w.heap.size ≤ g) (hkeep : ∀ t, k ≤ t → nth zs t = nth zs0 t) (ew : wr.setCell ⟨g, k, none⟩ (.int .u64 iv) = wr') (e1 : iv = (v : Nat)) (hv : v < 18446744073709551616) (e2 : cv = (c' : Nat)) (hc : c' ≤ 1)
    (h : Q (k + 1) (val (zs.take k) + pw k * v) c') : InRel Q zs0 L g w (.int .i64 ((k : Int) + 1)) (.int .u64 cv) wr' := by
  subst ew e1
  refine ⟨k + 1, c', zs.set k v, by omega, rfl, int_eq e2, hc, by simpa using hz, oz.set hv k, own.set k _, hb.setCell hg _, ?_, ?_⟩
  · rw [val_set_take (by omega)]; exact h
  · intro t ht
    rw [nth_set (by omega), if_neg (by omega)]
    exact hkeep t (by omega)

theorem subW {x y c : Nat} (hx : x < 18446744073709551616) (hy : y < 18446744073709551616) (hc : c ≤ 1) : IntKind.u64.wrap (IntKind.u64.wrap ((x : Int) - (y : Int)) - (c : Int)) = (subLo x y c : Nat) := by
  rw [IntKind.wrap_u64, IntKind.wrap_u64]
  unfold subLo
  omega

end Go.Proofs.YtdilgmokiclfaaaDoor
namespace Go.Proofs.YtdilgmokiclfaaaDoor
open Go.RowKit
set_option linter.unusedVariables false

/-- A remainder handed back, with OK. -/
def RemPost (L V : Nat) (w : World) (e : Ending) (w' : World) : Prop :=
  ∃ (g : Nat) (zs : List Nat), e = .returned (.tuple #[.slice (some ⟨g, 0, none⟩) L L, .int .i64 0]) ∧ Sl w' .u64 (some ⟨g, 0, none⟩) zs ∧ zs.length = L ∧ Ok zs ∧ val zs = V ∧ Below w.heap.size w w'
def RemRel (A M na L g : Nat) (w : World) (i : Value) (wr : World) : Prop :=
  ∃ (k : Nat) (zs : List Nat), k ≤ 64 * na ∧ i = .int .i64 ((k : Int) - 1) ∧ zs.length = L + 1 ∧ Ok zs ∧ Own wr g 22 .u64 zs ∧ Below w.heap.size w wr ∧ val zs = A / 2 ^ k % M

theorem shrAnd (x r : Nat) (hx : x < 18446744073709551616) : bits .and .u64 ((x : Int) / 2 ^ r) 1 = ((x / 2 ^ r % 2 : Nat) : Int) := by
  have e : (x : Int) / 2 ^ r = ((x / 2 ^ r : Nat) : Int) := by simp
  have h : x / 2 ^ r ≤ x := Nat.div_le_self _ _
  have h1 := bits_and_u64_nat (x / 2 ^ r) 1 (by omega) (by decide)
  rw [e]
  refine h1.trans ?_
  rw [Nat.and_one_is_mod]

theorem or_dbl (x c : Nat) (hc : c ≤ 1) : bits .or .u64 (IntKind.u64.wrap ((x : Int) * 2)) (c : Int) = ((2 * x + c) % 18446744073709551616 : Nat) := by
  have e : IntKind.u64.wrap ((x : Int) * 2) = ((2 * (x % 9223372036854775808) : Nat) : Int) := by rw [IntKind.wrap_u64]; omega
  rw [e, u64_or_nat _ _ (by omega) (by omega), ← Nat.two_pow_add_eq_or_of_lt (i := 1) (b := c) (by omega) (x % 9223372036854775808)]
  omega

/-- What the first inner loop leaves: twice the rest and a bit; nothing goes beyond. -/
theorem dbl_done {zs zs0 : List Nat} {L c b R M : Nat} (hz : zs.length = L + 1) (hz0 : zs0.length = L + 1) (h : val (zs.take (L + 1)) + pw (L + 1) * c = 2 * val (zs0.take (L + 1)) + b) (hc : c ≤ 1) (hb : b < 2) (hv : val zs0 = R) (hR : R < M) (hM : M < pw L) :
    val zs = 2 * R + b := by
  rw [val_take_all _ (by omega), val_take_all _ (by omega), pw_succ] at h
  have : c = 0 ∨ c = 1 := by omega
  rcases this with rfl | rfl <;> omega

end Go.Proofs.YtdilgmokiclfaaaDoor
namespace Go.Proofs.YtdilgmokiclfaaaDoor
open Go.RowKit
set_option linter.unusedVariables false

/-- A row handed back, as a slice that reads so. -/
def SlPost (L V : Nat) (w : World) (e : Ending) (w' : World) : Prop :=
  ∃ (g c : Nat) (zs : List Nat), e = .returned (.slice (some ⟨g, 0, none⟩) L c) ∧ L ≤ c ∧ c ≤ maxLen ∧ Sl w' .u64 (some ⟨g, 0, none⟩) zs ∧ zs.length = L ∧ Ok zs ∧ val zs = V ∧ Below w.heap.size w w'

/-- A row copied so far. -/
def CpRel (ys : List Nat) (L g : Nat) (w : World) (i : Value) (wr : World) : Prop :=
  ∃ (k : Nat) (zs : List Nat), k ≤ L ∧ i = .int .i64 (k : Int) ∧ zs.length = L + 1 ∧ Ok zs ∧ Own wr g 22 .u64 zs ∧ Below w.heap.size w wr ∧ val zs = val (ys.take k) ∧ ∀ t, k ≤ t → nth zs t = 0
def RRemRel (A M na L : Nat) (w : World) (i o : Value) (wr : World) : Prop :=
  ∃ (k g : Nat) (zs : List Nat), k ≤ 64 * na ∧ i = .int .i64 ((k : Int) - 1) ∧ o = .slice (some ⟨g, 0, none⟩) (L + 1) (L + 1) ∧ zs.length = L + 1 ∧ Ok zs ∧ Own wr g 22 .u64 zs ∧ Below w.heap.size w wr ∧ val zs = A / 2 ^ k % M

end Go.Proofs.YtdilgmokiclfaaaDoor
namespace Go.Proofs.YtdilgmokiclfaaaDoor
open Go.RowKit
set_option linter.unusedVariables false

/-- The cells of a row of limbs, as a list. -/
def u64s (zs : List Nat) : List Value := zs.map fun x : Nat => Value.int .u64 (x : Int)
theorem u64s_append (a b : List Nat) : u64s a ++ u64s b = u64s (a ++ b) := by simp [u64s]
theorem u64s_get {zs : List Nat} {j : Nat} {u : Value} (h : (u64s zs)[j]? = some u) : j < zs.length ∧ u = .int .u64 (nth zs j : Nat) := by
  unfold u64s at h
  rw [List.getElem?_map] at h
  rcases Nat.lt_or_ge j zs.length with hj | hj
  · rw [List.getElem?_eq_getElem hj] at h
    simp at h
    exact ⟨hj, by rw [nth_eq hj]; exact h.symm⟩
  · rw [List.getElem?_eq_none hj] at h
    cases h
theorem u64s_one (zs : List Nat) : ∀ u ∈ u64s zs, u.oneCell' = true := by
  intro u hu
  obtain ⟨x, _, rfl⟩ := List.mem_map.1 hu
  rfl
/-- What a source reads as, in the law's words. -/
theorem sl_news {w : World} {b off : Nat} {xs : List Nat} (h : Sl w .u64 (some ⟨b, off, none⟩) xs) : ∀ j u, (u64s xs)[j]? = some u → w.cell? ((⟨b, off, none⟩ : Addr).add j) = some u := by
  intro j u hu
  obtain ⟨hj, rfl⟩ := u64s_get hu
  obtain ⟨b', off', e, _, hc⟩ := h (by omega)
  cases e
  rw [← hc j hj]
  congr 1
  unfold Addr.add
  split
  · subst j; rfl
  · rfl
theorem own_form {w : World} {base e n : Nat} {v : Value} {zs : List Nat} (h : w.ownsRow base e 1 v n (u64s zs)) (hv : v ≠ .slice none 0 0) :
    ∃ g cap, v = .slice (some ⟨g, 0, none⟩) n cap ∧ base ≤ g ∧ g < w.heap.size ∧ n ≤ cap ∧ cap ≤ maxLen ∧ zs.length = n ∧ Sl w .u64 (some ⟨g, 0, none⟩) zs := by
  have hlen : zs.length = n := by have := h.1; simpa [u64s] using this
  rcases h.2 with ⟨h0, _⟩ | ⟨g, cap, cur, hv', hb, hg, hnc, hcap, hs, ht⟩
  · exact absurd h0 hv
  · subst hv'
    have hlt : g < w.heap.size := (Array.getElem?_eq_some_iff.1 hg).1
    refine ⟨g, cap, rfl, hb, hlt, hnc, hcap, hlen, fun hp => ⟨g, 0, rfl, hlt, fun i hi => ?_⟩⟩
    have := World.ownsRow.cellAt h i (by omega)
    rw [Nat.zero_add, this]
    unfold u64s
    rw [List.getElem?_map, List.getElem?_eq_getElem hi, nth_eq hi]; rfl
theorem own_empty (w : World) (e : TypeId) : (w.alloc (.cells #[] e)).ownsRow w.heap.size e 1 (.slice (some ⟨w.heap.size, 0, none⟩) 0 0) 0 (u64s []) :=
  World.ownsRow_lit w #[] 0 (Nat.le_refl _) (Nat.zero_le _) rfl

/-- What an append to a row of the call's own leaves, in our words. -/
theorem app_form {w' : World} {base e n m : Nat} {v v' : Value} {zs xs : List Nat} (hv : v ≠ .slice none 0 0) (h : w'.ownsRow base e 1 v' (n + m) (u64s zs ++ u64s xs)) (hn : v' = .slice none 0 0 ↔ v = .slice none 0 0 ∧ m = 0) :
    ∃ g cap, v' = .slice (some ⟨g, 0, none⟩) (n + m) cap ∧ base ≤ g ∧ g < w'.heap.size ∧ n + m ≤ cap ∧ cap ≤ maxLen ∧ (zs ++ xs).length = n + m ∧ Sl w' .u64 (some ⟨g, 0, none⟩) (zs ++ xs) := by
  rw [u64s_append] at h
  exact own_form h fun e => hv (hn.1 e).1
theorem app_form0 {w' : World} {base e m : Nat} {v v' : Value} {xs : List Nat} (hv : v ≠ .slice none 0 0) (h : w'.ownsRow base e 1 v' (0 + m) (u64s [] ++ u64s xs)) (hn : v' = .slice none 0 0 ↔ v = .slice none 0 0 ∧ m = 0) :
    ∃ g cap, v' = .slice (some ⟨g, 0, none⟩) m cap ∧ base ≤ g ∧ g < w'.heap.size ∧ m ≤ cap ∧ cap ≤ maxLen ∧ w'.ownsRow base e 1 (.slice (some ⟨g, 0, none⟩) m cap) m (u64s xs) := by
  rw [Nat.zero_add, u64s_append, List.nil_append] at h
  obtain ⟨g, cap, rfl, h1, h2, h3, h4, _⟩ := own_form h fun e => hv (hn.1 e).1
  exact ⟨g, cap, rfl, h1, h2, h3, h4, h⟩
theorem below_own {B base : Nat} {a w w' : World} {v : Value} {e n : Nat} {zs : List Value} (h : Below B a w) (hown : w.ownsRow base e 1 v n zs) (hg : w.grownBy w' v.ownBlock) (hB : B ≤ w.heap.size) (hbase : B ≤ base) : Below B a w' :=
  h.grown hg hB fun k hk => by have := (hown.lt k hk).1; omega
theorem ne_nil (g n c : Nat) : Value.slice (some ⟨g, 0, none⟩) n c ≠ .slice none 0 0 := by intro h; injection h with h; cases h
end Go.Proofs.YtdilgmokiclfaaaDoor
