import Derived.Test.YtboaahjpjemfpaaSpRefM
namespace Go.Proofs.Ytboaahjpjemfpaa

/-- The rounds are one-to-one. -/
theorem xor_move {a b u v : Nat} (h : a ^^^ u = b ^^^ v) : a = b ^^^ (u ^^^ v) := by
  apply Nat.eq_of_testBit_eq
  intro j
  have hj : (a ^^^ u).testBit j = (b ^^^ v).testBit j := by rw [h]
  simp only [Nat.testBit_xor] at hj ⊢
  revert hj
  generalize a.testBit j = p
  generalize b.testBit j = q
  generalize u.testBit j = r
  generalize v.testBit j = s
  revert p q r s
  decide
theorem xor_four (p q r s : Nat) : (p ^^^ q) ^^^ (r ^^^ s) = (p ^^^ r) ^^^ (q ^^^ s) := by
  apply Nat.eq_of_testBit_eq
  intro j
  simp only [Nat.testBit_xor]
  generalize p.testBit j = a
  generalize q.testBit j = b
  generalize r.testBit j = c
  generalize s.testBit j = d
  revert a b c d
  decide
theorem xor_five (b0 b1 b2 b3 b4 d : Nat) : (((((0 ^^^ (b0 ^^^ d)) ^^^ (b1 ^^^ d)) ^^^ (b2 ^^^ d)) ^^^ (b3 ^^^ d)) ^^^ (b4 ^^^ d)) = (((((0 ^^^ b0) ^^^ b1) ^^^ b2) ^^^ b3) ^^^ b4) ^^^ d := by
  apply Nat.eq_of_testBit_eq
  intro j
  simp only [Nat.testBit_xor, Nat.zero_testBit]
  generalize b0.testBit j = x0
  generalize b1.testBit j = x1
  generalize b2.testBit j = x2
  generalize b3.testBit j = x3
  generalize b4.testBit j = x4
  generalize d.testBit j = y
  revert x0 x1 x2 x3 x4 y
  decide
theorem xor_cancel_left {p d : Nat} : (p ^^^ d) ^^^ p = d := by rw [Nat.xor_comm (p ^^^ d) p, ← Nat.xor_assoc, Nat.xor_self, Nat.zero_xor]
theorem col_eq {a : List Nat} (h : a.length = 25) {x : Nat} (hx : x < 5) :
    nth (colN a 25) x = (((((0 ^^^ nth a x) ^^^ nth a (x + 5)) ^^^ nth a (x + 10)) ^^^ nth a (x + 15)) ^^^ nth a (x + 20)) := by
  obtain ⟨a0, a1, a2, a3, a4, a5, a6, a7, a8, a9, a10, a11, a12, a13, a14, a15, a16, a17, a18, a19, a20, a21, a22, a23, a24, rfl⟩ := list25 h
  have : x = 0 ∨ x = 1 ∨ x = 2 ∨ x = 3 ∨ x = 4 := by omega
  rcases this with rfl | rfl | rfl | rfl | rfl <;> (clear hx h; show (_ : Nat) = _; kernel_rfl)
theorem dbl {f : Nat → Nat} {s m : Nat} (hf : ∀ i, f i < 18446744073709551616) (h : ∀ i, f (i + s) = f i ^^^ rotl (f (i + 2 * s)) m) :
    ∀ i, f (i + 2 * s) = f i ^^^ rotl (f (i + 2 * (2 * s))) (2 * m) := by
  intro i
  have h1 := h i
  have h2 := h (i + s)
  have h3 := h (i + 2 * s)
  rw [show i + s + s = i + 2 * s by omega, show i + s + 2 * s = i + 2 * s + s by omega] at h2
  rw [show i + 2 * s + 2 * s = i + 2 * (2 * s) by omega] at h3
  rw [h3, rotl_xor (hf _) (rotl_lt (hf _) _), rotl_add, h1, show m + m = 2 * m by omega] at h2
  rw [h2]
  generalize rotl (f (i + 2 * s)) m = p
  generalize rotl (f (i + 2 * (2 * s))) (2 * m) = q
  generalize f i = r
  rw [xor_four, Nat.xor_assoc]
  apply Nat.eq_of_testBit_eq
  intro j
  simp only [Nat.testBit_xor]
  generalize p.testBit j = a
  generalize q.testBit j = b
  generalize r.testBit j = c
  revert a b c
  decide
theorem f_zero {f : Nat → Nat} (hf : ∀ i, f i < 18446744073709551616) (h5 : ∀ i, f (i + 5) = f i) (h : ∀ i, f (i + 1) = f i ^^^ rotl (f (i + 2)) 1) : ∀ i, f i = 0 := by
  have d1 := dbl hf (s := 1) (m := 1) h
  have d2 := dbl hf d1
  have d3 := dbl hf d2
  have d4 := dbl hf d3
  have d5 := dbl hf d4
  have d6 := dbl hf d5
  have p5 : ∀ n i, f (i + 5 * n) = f i := by
    intro n
    induction n with
    | zero => intro i; rfl
    | succ n ih => intro i; rw [show i + 5 * (n + 1) = (i + 5 * n) + 5 by omega, h5, ih]
  have k : ∀ i, f (i + 4) = f i ^^^ f (i + 3) := by
    intro i
    have := d6 i
    rw [rotl_64 (hf _)] at this
    rw [show i + 2 * (2 * (2 * (2 * (2 * (2 * 1))))) = (i + 4) + 5 * 12 by omega, show i + 2 * (2 * (2 * (2 * (2 * (2 * (2 * 1)))))) = (i + 3) + 5 * 25 by omega, p5, p5] at this
    exact this
  -- f (i+2) = f (i+1) + f i
  have k2 : ∀ i, f i = f (i + 1) ^^^ f (i + 4) := by
    intro i
    have := k (i + 1)
    rw [show i + 1 + 4 = i + 5 by omega, h5, show i + 1 + 3 = i + 4 by omega] at this
    exact this
  have k3 : ∀ i, f (i + 1) = f (i + 4) ^^^ f i := by
    intro i
    rw [k2 i]
    generalize f (i + 1) = p
    generalize f (i + 4) = q
    rw [Nat.xor_comm p q, ← Nat.xor_assoc, Nat.xor_self, Nat.zero_xor]
  have k4 : ∀ i, f (i + 2) = f (i + 1) ^^^ f i := by
    intro i
    have h1 := k3 (i + 1)
    rw [show i + 1 + 1 = i + 2 by omega, show i + 1 + 4 = i + 5 by omega, h5] at h1
    rw [h1, Nat.xor_comm]
  have k6 : ∀ i, f (i + 3) = f i := by
    intro i
    have h1 := k4 (i + 1)
    rw [show i + 1 + 2 = i + 3 by omega, show i + 1 + 1 = i + 2 by omega, k4 i] at h1
    rw [h1]
    generalize f (i + 1) = p
    generalize f i = q
    rw [Nat.xor_comm p q, Nat.xor_assoc, Nat.xor_self, Nat.xor_zero]
  have k7 : ∀ i, f (i + 1) = f i := by
    intro i
    have h1 := k6 (i + 3)
    rw [k6 i, show i + 3 + 3 = (i + 1) + 5 by omega, h5] at h1
    exact h1
  intro i
  have h1 := k4 i
  rw [show i + 2 = (i + 1) + 1 by omega, k7, k7, Nat.xor_self] at h1
  exact h1
theorem rotl_zero (n : Nat) : rotl 0 n = 0 := by
  induction n with
  | zero => rfl
  | succ n ih => show r1 (rotl 0 n) = 0; rw [ih]; rfl
theorem list_ext25 {a b : List Nat} (ha : a.length = 25) (hb : b.length = 25) (h : ∀ i, i < 25 → nth a i = nth b i) : a = b := by
  refine List.ext_getElem (by omega) fun j h1 h2 => ?_
  have := h j (by omega)
  rwa [nth_eq h1, nth_eq h2] at this
theorem theta_inj {a b : List Nat} (ha : a.length = 25) (hb : b.length = 25) (oa : Ok a) (ob : Ok b) (h : thetas a = thetas b) : a = b := by
  have key : ∀ i, i < 25 → theta1 a (colN a 25) i = theta1 b (colN b 25) i := fun i hi => by rw [← nth_thetas a hi, ← nth_thetas b hi, h]
  have oC := colN_ok oa 25
  have oD := colN_ok ob 25
  have hcol := fun x (hx : x < 5) => col_eq ha hx
  have hcol' := fun x (hx : x < 5) => col_eq hb hx
  generalize colN a 25 = C at *
  generalize colN b 25 = D at *
  have hc : ∀ x, nth C x ^^^ nth D x < 18446744073709551616 := fun x => xor_lt (oC.getD _) (oD.getD _)
  have h1 : ∀ i, i < 25 → nth a i = nth b i ^^^ ((nth C ((i % 5 + 4) % 5) ^^^ nth D ((i % 5 + 4) % 5)) ^^^ rotl (nth C ((i % 5 + 1) % 5) ^^^ nth D ((i % 5 + 1) % 5)) 1) := by
    intro i hi
    have := xor_move (key i hi)
    rw [this, rotl_xor (oC.getD _) (oD.getD _), xor_four]
  have h3 : ∀ x, x < 5 → nth C x ^^^ nth D x = (nth C ((x + 4) % 5) ^^^ nth D ((x + 4) % 5)) ^^^ rotl (nth C ((x + 1) % 5) ^^^ nth D ((x + 1) % 5)) 1 := by
    intro x hx
    have e0 := h1 x (by omega)
    have e1 := h1 (x + 5) (by omega)
    have e2 := h1 (x + 10) (by omega)
    have e3 := h1 (x + 15) (by omega)
    have e4 := h1 (x + 20) (by omega)
    rw [show x % 5 = x by omega] at e0
    rw [show (x + 5) % 5 = x by omega] at e1
    rw [show (x + 10) % 5 = x by omega] at e2
    rw [show (x + 15) % 5 = x by omega] at e3
    rw [show (x + 20) % 5 = x by omega] at e4
    have hC := hcol x hx
    rw [e0, e1, e2, e3, e4, xor_five, ← hcol' x hx] at hC
    generalize (nth C ((x + 4) % 5) ^^^ nth D ((x + 4) % 5)) ^^^ rotl (nth C ((x + 1) % 5) ^^^ nth D ((x + 1) % 5)) 1 = d at *
    rw [hC, xor_cancel_left]
  have hz := f_zero (f := fun i => nth C (i % 5) ^^^ nth D (i % 5)) (fun i => hc _) (fun i => by show nth C ((i + 5) % 5) ^^^ nth D ((i + 5) % 5) = _; rw [Nat.add_mod_right]) (fun i => by
    have := h3 ((i + 1) % 5) (Nat.mod_lt _ (by decide))
    rw [show ((i + 1) % 5 + 4) % 5 = i % 5 by omega, show ((i + 1) % 5 + 1) % 5 = (i + 2) % 5 by omega] at this
    exact this)
  refine list_ext25 ha hb fun i hi => ?_
  have z1 : nth C ((i % 5 + 4) % 5) ^^^ nth D ((i % 5 + 4) % 5) = 0 := by have := hz (i % 5 + 4); exact this
  have z2 : nth C ((i % 5 + 1) % 5) ^^^ nth D ((i % 5 + 1) % 5) = 0 := by have := hz (i % 5 + 1); exact this
  rw [h1 i hi, z1, z2, rotl_zero, Nat.xor_zero, Nat.xor_zero]

theorem chi_bits : ∀ a b c d e p q r s t : Bool, (a ^^ (!b && c)) = (p ^^ (!q && r)) → (b ^^ (!c && d)) = (q ^^ (!r && s)) → (c ^^ (!d && e)) = (r ^^ (!s && t)) → (d ^^ (!e && a)) = (s ^^ (!t && p)) → (e ^^ (!a && b)) = (t ^^ (!p && q)) →
    a = p ∧ b = q ∧ c = r ∧ d = s ∧ e = t := by decide
def chiV (x y z : Nat) : Nat := x ^^^ ((18446744073709551615 ^^^ y) &&& z)
theorem tb_chiV (x y z j : Nat) (hj : j < 64) : (chiV x y z).testBit j = (x.testBit j ^^ (!y.testBit j && z.testBit j)) := by
  unfold chiV
  have : (18446744073709551615 : Nat) = 2 ^ 64 - 1 := by decide
  rw [this, Nat.testBit_xor, Nat.testBit_and, Nat.testBit_xor, Nat.testBit_two_pow_sub_one]
  simp [hj]
theorem chiV_inj {a b c d e p q r s t : Nat} (la : a < 18446744073709551616) (lb : b < 18446744073709551616) (lc : c < 18446744073709551616) (ld : d < 18446744073709551616) (le : e < 18446744073709551616)
    (lp : p < 18446744073709551616) (lq : q < 18446744073709551616) (lr : r < 18446744073709551616) (ls : s < 18446744073709551616) (lt : t < 18446744073709551616)
    (h1 : chiV a b c = chiV p q r) (h2 : chiV b c d = chiV q r s) (h3 : chiV c d e = chiV r s t) (h4 : chiV d e a = chiV s t p) (h5 : chiV e a b = chiV t p q) : a = p ∧ b = q ∧ c = r ∧ d = s ∧ e = t := by
  have key : ∀ j, a.testBit j = p.testBit j ∧ b.testBit j = q.testBit j ∧ c.testBit j = r.testBit j ∧ d.testBit j = s.testBit j ∧ e.testBit j = t.testBit j := by
    intro j
    by_cases hj : j < 64
    · apply chi_bits
      · rw [← tb_chiV _ _ _ _ hj, ← tb_chiV _ _ _ _ hj, h1]
      · rw [← tb_chiV _ _ _ _ hj, ← tb_chiV _ _ _ _ hj, h2]
      · rw [← tb_chiV _ _ _ _ hj, ← tb_chiV _ _ _ _ hj, h3]
      · rw [← tb_chiV _ _ _ _ hj, ← tb_chiV _ _ _ _ hj, h4]
      · rw [← tb_chiV _ _ _ _ hj, ← tb_chiV _ _ _ _ hj, h5]
    · have big : ∀ x : Nat, x < 18446744073709551616 → x.testBit j = false := fun x hx =>
        Nat.testBit_lt_two_pow (Nat.lt_of_lt_of_le hx (show 2 ^ 64 ≤ 2 ^ j from Nat.pow_le_pow_right (by decide) (by omega)))
      rw [big a la, big b lb, big c lc, big d ld, big e le, big p lp, big q lq, big r lr, big s ls, big t lt]
      exact ⟨rfl, rfl, rfl, rfl, rfl⟩
  exact ⟨Nat.eq_of_testBit_eq fun j => (key j).1, Nat.eq_of_testBit_eq fun j => (key j).2.1, Nat.eq_of_testBit_eq fun j => (key j).2.2.1, Nat.eq_of_testBit_eq fun j => (key j).2.2.2.1, Nat.eq_of_testBit_eq fun j => (key j).2.2.2.2⟩
end Go.Proofs.Ytboaahjpjemfpaa
