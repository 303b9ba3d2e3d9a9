import Derived.Test.YtfkpcmjmibbmbaaNatOps
namespace Go.Proofs.Ytfkpcmjmibbmbaa

/-- The number that bytes say, the highest first. -/
def be (l : List Nat) : Nat := l.foldl (fun n b => 256 * n + b) 0
theorem be_nil : be [] = 0 := rfl
theorem be_snoc (l : List Nat) (b : Nat) : be (l ++ [b]) = 256 * be l + b := by simp [be]
theorem foldl_be (m : List Nat) : ∀ n : Nat, m.foldl (fun n b => 256 * n + b) n = 256 ^ m.length * n + be m := by
  induction m with
  | nil => intro n; simp [be]
  | cons b m ih =>
    intro n
    have h0 : be (b :: m) = 256 ^ m.length * b + be m := by rw [be, List.foldl_cons, ih]; simp
    rw [List.foldl_cons, ih, h0, List.length_cons, Nat.pow_succ, Nat.mul_add, Nat.mul_assoc]; omega
theorem be_append (l m : List Nat) : be (l ++ m) = 256 ^ m.length * be l + be m := by
  rw [be, List.foldl_append, foldl_be]; rfl
theorem be_lt {l : List Nat} (h : ∀ b ∈ l, b < 256) : be l < 256 ^ l.length := by
  induction l with
  | nil => decide
  | cons b l ih =>
    have h1 := h b (List.mem_cons_self ..)
    have h2 := ih (fun y hy => h y (List.mem_cons_of_mem _ hy))
    rw [show b :: l = [b] ++ l from rfl, be_append, List.length_append, Nat.pow_add]
    simp only [be, List.foldl_cons, List.foldl_nil, List.length_cons, List.length_nil, Nat.mul_zero, Nat.zero_add, Nat.pow_one]
    have h3 : 256 ^ l.length * b ≤ 256 ^ l.length * 255 := Nat.mul_le_mul_left _ (by omega)
    unfold be at h2
    rw [Nat.mul_comm 256]
    omega

/-- The lower n bytes of a number, the highest first. -/
def toB (N : Nat) : Nat → List Nat
  | 0 => []
  | n + 1 => N / 256 ^ n % 256 :: toB N n
theorem toB_length (N n : Nat) : (toB N n).length = n := by induction n with | zero => rfl | succ n ih => simp [toB, ih]
theorem toB_lt (N n : Nat) : ∀ b ∈ toB N n, b < 256 := by
  induction n with
  | zero => intro b hb; cases hb
  | succ n ih => intro b hb; rcases List.mem_cons.1 hb with rfl | hb; exact Nat.mod_lt _ (by decide); exact ih b hb
theorem be_toB (N n : Nat) : be (toB N n) = N % 256 ^ n := by
  induction n with
  | zero => simp [toB, be, Nat.mod_one]
  | succ n ih =>
    rw [toB, show (N / 256 ^ n % 256 :: toB N n) = [N / 256 ^ n % 256] ++ toB N n from rfl, be_append, ih, toB_length, Nat.pow_succ, Nat.mod_mul]
    simp [be]; omega
theorem be_inj {l m : List Nat} (hl : ∀ b ∈ l, b < 256) (hm : ∀ b ∈ m, b < 256) (hlen : l.length = m.length) (h : be l = be m) : l = m := by
  induction l generalizing m with
  | nil => exact (List.eq_nil_of_length_eq_zero hlen.symm).symm
  | cons x l ih =>
    cases m with
    | nil => simp at hlen
    | cons y m =>
      have hlen' : l.length = m.length := by simpa using hlen
      have h1 := be_lt (fun b hb => hl b (List.mem_cons_of_mem _ hb))
      have h2 := be_lt (fun b hb => hm b (List.mem_cons_of_mem _ hb))
      rw [show x :: l = [x] ++ l from rfl, show y :: m = [y] ++ m from rfl, be_append, be_append, hlen'] at h
      rw [hlen'] at h1
      simp only [be, List.foldl_cons, List.foldl_nil, Nat.mul_zero, Nat.zero_add] at h h1 h2
      have hp : 0 < 256 ^ m.length := Nat.pow_pos (by decide)
      have hx : x = y := by
        have e1 : (256 ^ m.length * x + List.foldl (fun n b => 256 * n + b) 0 l) / 256 ^ m.length = x := by
          rw [Nat.mul_add_div hp, Nat.div_eq_of_lt h1]; rfl
        have e2 : (256 ^ m.length * y + List.foldl (fun n b => 256 * n + b) 0 m) / 256 ^ m.length = y := by
          rw [Nat.mul_add_div hp, Nat.div_eq_of_lt h2]; rfl
        rw [h] at e1; rw [e1] at e2; exact e2
      subst hx
      rw [ih (fun b hb => hl b (List.mem_cons_of_mem _ hb)) (fun b hb => hm b (List.mem_cons_of_mem _ hb)) hlen' (by unfold be; omega)]
theorem toB_be {l : List Nat} (h : ∀ b ∈ l, b < 256) : toB (be l) l.length = l :=
  be_inj (toB_lt _ _) h (toB_length _ _) (by rw [be_toB, Nat.mod_eq_of_lt (be_lt h)])
theorem pw_256 (k : Nat) : pw k = 256 ^ (8 * k) := by
  unfold pw; rw [Nat.pow_mul]
/-- A byte of a limb. -/
theorem byte_limb {l : List Nat} (h : Ok l) (k s : Nat) (hs : s < 8) : nth l k / 2 ^ (8 * s) % 256 = val l / 256 ^ (8 * k + s) % 256 := by
  rw [getD_val h]
  have e : (18446744073709551616 : Nat) = 2 ^ (8 * s) * (256 * 256 ^ (7 - s)) := by
    rw [show (256 : Nat) = 2 ^ 8 from rfl, ← Nat.pow_mul, ← Nat.pow_add, ← Nat.pow_add, show 8 * s + (8 + 8 * (7 - s)) = 64 by omega]
  rw [e, Nat.mod_mul_right_div_self, Nat.mod_mul_right_mod, Nat.div_div_eq_div_mul, pw_256, show (2 ^ (8 * s) : Nat) = 256 ^ s by rw [Nat.pow_mul], ← Nat.pow_add]
/-- Bytes in limb order. -/
theorem toB_add (N n m : Nat) : toB N (n + m) = toB (N / 256 ^ m) n ++ toB N m := by
  induction n with
  | zero => simp [toB]
  | succ n ih => rw [show n + 1 + m = (n + m) + 1 by omega, toB, ih, toB, Nat.div_div_eq_div_mul, ← Nat.pow_add, Nat.add_comm m n]; rfl

end Go.Proofs.Ytfkpcmjmibbmbaa
