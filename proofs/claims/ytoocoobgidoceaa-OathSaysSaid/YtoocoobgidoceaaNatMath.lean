namespace Go.Proofs.Ytoocoobgidoceaa

/-- The number at a place, 0 beyond. -/
def nth (l : List Nat) (i : Nat) : Nat := l.getD i 0
theorem nth_eq {l : List Nat} {i : Nat} (h : i < l.length) : nth l i = l[i] := by simp [nth, List.getD_eq_getElem?_getD, List.getElem?_eq_getElem h]
theorem nth_ge {l : List Nat} {i : Nat} (h : l.length ≤ i) : nth l i = 0 := by simp [nth, List.getD_eq_getElem?_getD, List.getElem?_eq_none h]
theorem nth_cons_succ (x : Nat) (l : List Nat) (i : Nat) : nth (x :: l) (i + 1) = nth l i := rfl
theorem nth_set {l : List Nat} {i j : Nat} (h : i < l.length) (x : Nat) : nth (l.set i x) j = if i = j then x else nth l j := by
  unfold nth
  rw [List.getD_eq_getElem?_getD, List.getD_eq_getElem?_getD, List.getElem?_set]
  by_cases e : i = j
  · subst e; simp [h]
  · simp [e]
theorem nth_take {l : List Nat} {i n : Nat} (h : i < n) : nth (l.take n) i = nth l i := by
  unfold nth; rw [List.getD_eq_getElem?_getD, List.getD_eq_getElem?_getD, List.getElem?_take, if_pos h]
theorem nth_replicate (n i : Nat) : nth (List.replicate n 0) i = 0 := by
  unfold nth; rw [List.getD_eq_getElem?_getD, List.getElem?_replicate]; split <;> rfl
theorem ext_nth {l m : List Nat} (hl : l.length = m.length) (h : ∀ i, i < l.length → nth l i = nth m i) : l = m := by
  apply List.ext_getElem hl
  intro i h1 h2
  have := h i h1
  rwa [nth_eq h1, nth_eq h2] at this

/-- 2^64 to the power of k. -/
def pw (k : Nat) : Nat := 18446744073709551616 ^ k
theorem pw_zero : pw 0 = 1 := rfl
theorem pw_succ (k : Nat) : pw (k + 1) = 18446744073709551616 * pw k := by unfold pw; rw [Nat.pow_succ, Nat.mul_comm]
theorem pw_pos (k : Nat) : 0 < pw k := Nat.pow_pos (by decide)
theorem pw_add (a b : Nat) : pw (a + b) = pw a * pw b := Nat.pow_add _ _ _
theorem pw_two (k : Nat) : pw k = 2 ^ (64 * k) := by unfold pw; rw [Nat.pow_mul]
theorem pw_le {a b : Nat} (h : a ≤ b) : pw a ≤ pw b := Nat.pow_le_pow_right (by decide) h

/-- The number that a row of limbs says, the lowest first. -/
def val : List Nat → Nat
  | [] => 0
  | x :: xs => x + 18446744073709551616 * val xs

/-- Each limb is below 2^64. -/
def Ok (l : List Nat) : Prop := ∀ x ∈ l, x < 18446744073709551616

theorem Ok.nil : Ok [] := fun _ h => by cases h
theorem Ok.cons {x : Nat} {l : List Nat} (hx : x < 18446744073709551616) (h : Ok l) : Ok (x :: l) := by
  intro y hy; rcases List.mem_cons.1 hy with rfl | hy; exact hx; exact h y hy
theorem Ok.head {x : Nat} {l : List Nat} (h : Ok (x :: l)) : x < 18446744073709551616 := h x (List.mem_cons_self ..)
theorem Ok.tail {x : Nat} {l : List Nat} (h : Ok (x :: l)) : Ok l := fun y hy => h y (List.mem_cons_of_mem _ hy)
theorem Ok.take {l : List Nat} (h : Ok l) (k : Nat) : Ok (l.take k) := fun y hy => h y (List.mem_of_mem_take hy)
theorem Ok.drop {l : List Nat} (h : Ok l) (k : Nat) : Ok (l.drop k) := fun y hy => h y (List.mem_of_mem_drop hy)
theorem Ok.append {l m : List Nat} (h : Ok l) (k : Ok m) : Ok (l ++ m) := by
  intro y hy; rcases List.mem_append.1 hy with hy | hy; exact h y hy; exact k y hy
theorem Ok.set {l : List Nat} (h : Ok l) {x : Nat} (hx : x < 18446744073709551616) (k : Nat) : Ok (l.set k x) := by
  intro y hy; rcases List.mem_or_eq_of_mem_set hy with hy | rfl; exact h y hy; exact hx
theorem Ok.replicate (n : Nat) : Ok (List.replicate n 0) := by
  intro y hy; rw [List.eq_of_mem_replicate hy]; decide
theorem Ok.getD {l : List Nat} (h : Ok l) (k : Nat) : nth l k < 18446744073709551616 := by
  unfold nth; rw [List.getD_eq_getElem?_getD]
  rcases Nat.lt_or_ge k l.length with hk | hk
  · rw [List.getElem?_eq_getElem hk]; exact h _ (List.getElem_mem hk)
  · rw [List.getElem?_eq_none hk]; decide

theorem val_nil : val [] = 0 := rfl
theorem val_cons (x : Nat) (l : List Nat) : val (x :: l) = x + 18446744073709551616 * val l := rfl
theorem val_append (l m : List Nat) : val (l ++ m) = val l + pw l.length * val m := by
  induction l with
  | nil => simp [val, pw]
  | cons x l ih =>
    rw [List.cons_append, val_cons, val_cons, ih, List.length_cons, pw_succ, Nat.mul_add, Nat.mul_assoc]; omega
theorem val_replicate (n : Nat) : val (List.replicate n 0) = 0 := by
  induction n with
  | zero => rfl
  | succ n ih => rw [List.replicate_succ, val_cons, ih]
theorem val_lt {l : List Nat} (h : Ok l) : val l < pw l.length := by
  induction l with
  | nil => exact Nat.one_pos
  | cons x l ih =>
    have h1 := h.head; have h2 := ih h.tail
    rw [val_cons, List.length_cons, pw_succ]
    omega
theorem val_inj {l m : List Nat} (hl : Ok l) (hm : Ok m) (hlen : l.length = m.length) (h : val l = val m) : l = m := by
  induction l generalizing m with
  | nil => exact (List.eq_nil_of_length_eq_zero hlen.symm).symm
  | cons x l ih =>
    cases m with
    | nil => simp at hlen
    | cons y m =>
      have h1 := hl.head; have h2 := hm.head
      rw [val_cons, val_cons] at h
      have hx : x = y := by omega
      have hv : val l = val m := by omega
      rw [hx, ih hl.tail hm.tail (by simpa using hlen) hv]
theorem val_take_drop (l : List Nat) (k : Nat) (hk : k ≤ l.length) : val l = val (l.take k) + pw k * val (l.drop k) := by
  have h := val_append (l.take k) (l.drop k)
  rw [List.take_append_drop, List.length_take, Nat.min_eq_left hk] at h
  exact h
theorem val_take_succ (l : List Nat) (k : Nat) : val (l.take (k + 1)) = val (l.take k) + pw k * nth l k := by
  rcases Nat.lt_or_ge k l.length with hk | hk
  · rw [List.take_succ_eq_append_getElem hk, val_append, List.length_take, Nat.min_eq_left (by omega), val_cons, val_nil]
    simp [nth, List.getD_eq_getElem?_getD, List.getElem?_eq_getElem hk]
  · rw [List.take_of_length_le (by omega), List.take_of_length_le (by omega)]
    simp [nth, List.getD_eq_getElem?_getD, List.getElem?_eq_none hk]
theorem val_take_lt {l : List Nat} (h : Ok l) (k : Nat) : val (l.take k) < pw k := by
  have h1 := val_lt (h.take k)
  have h2 : pw (l.take k).length ≤ pw k := pw_le (by rw [List.length_take]; omega)
  omega
theorem val_take_all (l : List Nat) {k : Nat} (h : l.length ≤ k) : val (l.take k) = val l := by rw [List.take_of_length_le h]
/-- The lower k limbs. -/
theorem val_take {l : List Nat} (h : Ok l) (k : Nat) : val (l.take k) = val l % pw k := by
  rcases Nat.lt_or_ge k l.length with hk | hk
  · rw [val_take_drop l k (by omega), Nat.add_mul_mod_self_left, Nat.mod_eq_of_lt (val_take_lt h k)]
  · rw [val_take_all l hk, Nat.mod_eq_of_lt]
    exact Nat.lt_of_lt_of_le (val_lt h) (pw_le hk)
theorem val_drop {l : List Nat} (h : Ok l) (k : Nat) : val (l.drop k) = val l / pw k := by
  rcases Nat.lt_or_ge k l.length with hk | hk
  · rw [val_take_drop l k (by omega), Nat.add_mul_div_left _ _ (pw_pos k), Nat.div_eq_of_lt (val_take_lt h k), Nat.zero_add]
  · rw [List.drop_of_length_le hk, Nat.div_eq_of_lt]; rfl
    exact Nat.lt_of_lt_of_le (val_lt h) (pw_le hk)
/-- One limb. -/
theorem getD_val {l : List Nat} (h : Ok l) (k : Nat) : nth l k = val l / pw k % 18446744073709551616 := by
  rw [← val_drop h k]
  rcases Nat.lt_or_ge k l.length with hk | hk
  · rw [List.drop_eq_getElem_cons hk, val_cons, Nat.add_mul_mod_self_left]
    have := h _ (List.getElem_mem hk)
    simp [nth, List.getD_eq_getElem?_getD, List.getElem?_eq_getElem hk, Nat.mod_eq_of_lt this]
  · rw [List.drop_of_length_le hk]
    simp [nth, List.getD_eq_getElem?_getD, List.getElem?_eq_none hk, val]
theorem val_set {l : List Nat} {k : Nat} (hk : k < l.length) (x : Nat) : val (l.set k x) + pw k * nth l k = val l + pw k * x := by
  induction l generalizing k with
  | nil => simp at hk
  | cons y l ih =>
    cases k with
    | zero => simp [val, pw, nth]; omega
    | succ k =>
      have := ih (k := k) (by simpa using hk)
      simp only [List.set_cons_succ, val_cons, pw_succ, nth_cons_succ]
      have e1 : 18446744073709551616 * pw k * nth l k = 18446744073709551616 * (pw k * nth l k) := Nat.mul_assoc ..
      have e2 : 18446744073709551616 * pw k * x = 18446744073709551616 * (pw k * x) := Nat.mul_assoc ..
      rw [e1, e2]; omega
theorem val_set_take {l : List Nat} {k : Nat} (hk : k < l.length) (x : Nat) : val ((l.set k x).take (k + 1)) = val (l.take k) + pw k * x := by
  rw [val_take_succ, List.take_set_of_le (by omega)]
  simp [nth, List.getD_eq_getElem?_getD, List.getElem?_set_self hk]

/-- Two numbers that are one above a place, and part at it. -/
theorem lt_of_digit {a b p m : Nat} (h : a / (p * m) = b / (p * m)) (hd : a / p % m < b / p % m) : a < b := by
  rw [← Nat.div_div_eq_div_mul, ← Nat.div_div_eq_div_mul] at h
  have h1 := Nat.div_add_mod (a / p) m
  have h2 := Nat.div_add_mod (b / p) m
  rw [h] at h1
  have h3 : a / p < b / p := by omega
  rcases Nat.lt_or_ge a b with hab | hab
  · exact hab
  · have := Nat.div_le_div_right (c := p) hab
    omega
theorem eq_of_digit {a b p m : Nat} (h : a / (p * m) = b / (p * m)) (hd : a / p % m = b / p % m) : a / p = b / p := by
  rw [← Nat.div_div_eq_div_mul, ← Nat.div_div_eq_div_mul] at h
  have h1 := Nat.div_add_mod (a / p) m
  have h2 := Nat.div_add_mod (b / p) m
  rw [h, hd] at h1
  omega
end Go.Proofs.Ytoocoobgidoceaa
