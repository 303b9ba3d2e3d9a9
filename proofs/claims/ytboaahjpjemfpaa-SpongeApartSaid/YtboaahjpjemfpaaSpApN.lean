import Derived.Test.YtboaahjpjemfpaaSpApM
namespace Go.Proofs.Ytboaahjpjemfpaa

theorem cases25 {i : Nat} (h : i < 25) : i = 0 ∨ i = 1 ∨ i = 2 ∨ i = 3 ∨ i = 4 ∨ i = 5 ∨ i = 6 ∨ i = 7 ∨ i = 8 ∨ i = 9 ∨ i = 10 ∨ i = 11 ∨ i = 12 ∨ i = 13 ∨ i = 14 ∨ i = 15 ∨ i = 16 ∨ i = 17 ∨ i = 18 ∨ i = 19 ∨ i = 20 ∨ i = 21 ∨ i = 22 ∨ i = 23 ∨ i = 24 := by omega
theorem mov_at {b : List Nat} (h : b.length = 25) {i : Nat} (hi : i < 25) : nth (movV b 25) (dst i) = rotl (nth b i) (trn i) := by
  obtain ⟨a0, a1, a2, a3, a4, a5, a6, a7, a8, a9, a10, a11, a12, a13, a14, a15, a16, a17, a18, a19, a20, a21, a22, a23, a24, rfl⟩ := list25 h
  rcases cases25 hi with rfl | rfl | rfl | rfl | rfl | rfl | rfl | rfl | rfl | rfl | rfl | rfl | rfl | rfl | rfl | rfl | rfl | rfl | rfl | rfl | rfl | rfl | rfl | rfl | rfl <;> (clear hi h; show (_ : Nat) = _; kernel_rfl)
theorem mov_inj {a b : List Nat} (ha : a.length = 25) (hb : b.length = 25) (oa : Ok a) (ob : Ok b) (h : movV a 25 = movV b 25) : a = b := by
  refine list_ext25 ha hb fun i hi => ?_
  have := mov_at ha hi
  rw [h, mov_at hb hi] at this
  exact (rotl_inj (Nat.le_of_lt (trl_lt i)) (ob.getD _) (oa.getD _) this).symm
theorem chi_at {z m : List Nat} (hz : z.length = 25) {i : Nat} (hi : i < 25) : ∀ k, k ≤ 25 → nth (chiN z m k) i = if i < k then chi1 m i else nth z i
  | 0, _ => by simp [chiN]
  | k + 1, hk => by
    rw [chiN, nth_set (by rw [chiN_length, hz]; omega), chi_at hz hi k (by omega)]
    by_cases e : k = i
    · subst e; simp
    · rw [if_neg e]
      by_cases h2 : i < k
      · rw [if_pos h2, if_pos (by omega)]
      · rw [if_neg h2, if_neg (by omega)]
theorem chi_inj {z z' m m' : List Nat} (hz : z.length = 25) (hz' : z'.length = 25) (hm : m.length = 25) (hm' : m'.length = 25) (om : Ok m) (om' : Ok m') (h : chiN z m 25 = chiN z' m' 25) : m = m' := by
  have key : ∀ i, i < 25 → chi1 m i = chi1 m' i := by
    intro i hi
    have h1 := chi_at (m := m) hz hi 25 (Nat.le_refl _)
    have h2 := chi_at (m := m') hz' hi 25 (Nat.le_refl _)
    rw [if_pos hi] at h1 h2
    rw [← h1, ← h2, h]
  have row : ∀ r, r < 5 → nth m (5 * r) = nth m' (5 * r) ∧ nth m (5 * r + 1) = nth m' (5 * r + 1) ∧ nth m (5 * r + 2) = nth m' (5 * r + 2) ∧ nth m (5 * r + 3) = nth m' (5 * r + 3) ∧ nth m (5 * r + 4) = nth m' (5 * r + 4) := by
    intro r hr
    have at_ : ∀ (l : List Nat) (k : Nat), k < 5 → chi1 l (5 * r + k) = chiV (nth l (5 * r + k)) (nth l (5 * r + (k + 1) % 5)) (nth l (5 * r + (k + 2) % 5)) := by
      intro l k hk
      unfold chi1 chiV
      rw [show (5 * r + k) - (5 * r + k) % 5 + ((5 * r + k) % 5 + 1) % 5 = 5 * r + (k + 1) % 5 by omega, show (5 * r + k) - (5 * r + k) % 5 + ((5 * r + k) % 5 + 2) % 5 = 5 * r + (k + 2) % 5 by omega]
    have k0 := key (5 * r + 0) (by omega)
    have k1 := key (5 * r + 1) (by omega)
    have k2 := key (5 * r + 2) (by omega)
    have k3 := key (5 * r + 3) (by omega)
    have k4 := key (5 * r + 4) (by omega)
    rw [at_ _ _ (by omega), at_ _ _ (by omega)] at k0 k1 k2 k3 k4
    exact chiV_inj (om.getD _) (om.getD _) (om.getD _) (om.getD _) (om.getD _) (om'.getD _) (om'.getD _) (om'.getD _) (om'.getD _) (om'.getD _) k0 k1 k2 k3 k4
  refine list_ext25 hm hm' fun i hi => ?_
  have hr := row (i / 5) (by omega)
  have : i % 5 = 0 ∨ i % 5 = 1 ∨ i % 5 = 2 ∨ i % 5 = 3 ∨ i % 5 = 4 := by omega
  rcases this with e | e | e | e | e
  · rw [show i = 5 * (i / 5) by omega]; exact hr.1
  · rw [show i = 5 * (i / 5) + 1 by omega]; exact hr.2.1
  · rw [show i = 5 * (i / 5) + 2 by omega]; exact hr.2.2.1
  · rw [show i = 5 * (i / 5) + 3 by omega]; exact hr.2.2.2.1
  · rw [show i = 5 * (i / 5) + 4 by omega]; exact hr.2.2.2.2
theorem iota_inj {a b : List Nat} (ha : a.length = 25) (hb : b.length = 25) (c : Nat) (h : a.set 0 (nth a 0 ^^^ c) = b.set 0 (nth b 0 ^^^ c)) : a = b := by
  refine list_ext25 ha hb fun i hi => ?_
  have h1 : nth (a.set 0 (nth a 0 ^^^ c)) i = nth (b.set 0 (nth b 0 ^^^ c)) i := by rw [h]
  rw [nth_set (by omega), nth_set (by omega)] at h1
  by_cases e : 0 = i
  · rw [if_pos e, if_pos e] at h1
    subst e
    have := xor_move h1
    rwa [Nat.xor_self, Nat.xor_zero] at this
  · rwa [if_neg e, if_neg e] at h1
theorem thetas_length (a : List Nat) : (thetas a).length = 25 := by simp [thetas]
theorem thetas_ok {a : List Nat} (oa : Ok a) : Ok (thetas a) := by
  intro x hx
  obtain ⟨i, _, rfl⟩ := List.mem_map.1 hx
  exact theta1_lt oa (colN_ok oa 25) i
theorem round_inj {a b : List Nat} (ha : a.length = 25) (hb : b.length = 25) (oa : Ok a) (ob : Ok b) (c : Nat) (h : roundS a c = roundS b c) : a = b := by
  unfold roundS at h
  have h1 := iota_inj (by rw [chiN_length, ha]) (by rw [chiN_length, hb]) c h
  have h2 := chi_inj ha hb (movN_length _ _ _) (movN_length _ _ _) (movN_ok oa (colN_ok oa 25) 25) (movN_ok ob (colN_ok ob 25) 25) h1
  rw [← mov_thetas a 25 (Nat.le_refl _), ← mov_thetas b 25 (Nat.le_refl _)] at h2
  have h3 := mov_inj (thetas_length a) (thetas_length b) (thetas_ok oa) (thetas_ok ob) h2
  exact theta_inj ha hb oa ob h3
theorem permN_succ (a : List Nat) (n : Nat) : permN a (n + 1) = roundS (permN a n) (nth rcs n) := by rw [permN]
theorem perm_inj {a b : List Nat} (ha : a.length = 25) (hb : b.length = 25) (oa : Ok a) (ob : Ok b) (n : Nat) (h : permN a n = permN b n) : a = b := by
  induction n with
  | zero => exact h
  | succ n ih =>
    apply ih
    have l1 : (permN a n).length = 25 := by rw [permN_length, ha]
    have l2 : (permN b n).length = 25 := by rw [permN_length, hb]
    have o1 := permN_ok oa n
    have o2 := permN_ok ob n
    rw [permN_succ, permN_succ] at h
    generalize permN a n = p at *
    generalize permN b n = q at *
    generalize nth rcs n = c at *
    exact round_inj l1 l2 o1 o2 c h
end Go.Proofs.Ytboaahjpjemfpaa
