import Derived.Test.YtdilgmokiclfaaaDoorMontA
import Derived.StillTailTactics
namespace Go.Proofs.YtdilgmokiclfaaaDoor
open Go.RowKit
set_option linter.unusedVariables false

/-! The plain law of one round of the Montgomery product. -/
/-- Inner step: x times a limb, added in. -/
theorem prod_in {V p o c x y R S : Nat} (h : V + p * c = R + x * S) : (V + p * loS x y o c) + (18446744073709551616 * p) * hiS x y o c = (R + p * o) + x * (S + p * y) := by
  have h2 := hi_lo x y o c
  have h3 : p * (loS x y o c + 18446744073709551616 * hiS x y o c) = p * (x * y) + p * o + p * c := by rw [h2, Nat.mul_add, Nat.mul_add]
  rw [Nat.mul_add] at h3
  have h4 : (18446744073709551616 * p) * hiS x y o c = p * (18446744073709551616 * hiS x y o c) := by rw [Nat.mul_comm 18446744073709551616 p, Nat.mul_assoc]
  have h5 : x * (S + p * y) = x * S + p * (x * y) := by rw [Nat.mul_add, Nat.mul_left_comm]
  omega
/-- The limb that makes the lowest one 0. -/
theorem prod_q {r n m0 : Nat} (h : m0 % 2 = 1) (hn : NegIs m0 n) : (r * n % 18446744073709551616 * m0 + r) % 18446744073709551616 = 0 := by
  have h1 := hn.2.2 h
  have e1 : (r * n % 18446744073709551616 * m0 + r) % 18446744073709551616 = (r * (m0 * n) + r) % 18446744073709551616 := by
    rw [Nat.add_mod, Nat.mod_mul_mod, ← Nat.add_mod, Nat.mul_assoc, Nat.mul_comm n m0]
  have e2 : (r * (m0 * n) + r) % 18446744073709551616 = (r * (m0 * n + 1)) % 18446744073709551616 := by rw [Nat.mul_add, Nat.mul_one]
  have e3 : (m0 * n + 1) % 18446744073709551616 = 0 := by omega
  rw [e1, e2, Nat.mul_mod, e3, Nat.mul_zero, Nat.zero_mod]
/-- What is carried out of the lowest limb. -/
theorem prod_c0 {q m0 r : Nat} (hq : q < 18446744073709551616) (hm : m0 < 18446744073709551616) (hr : r < 18446744073709551616) (h : (q * m0 + r) % 18446744073709551616 = 0) :
    18446744073709551616 * (mulHi q m0 + addHi (mulLo q m0) r 0) = q * m0 + r ∧ mulHi q m0 + addHi (mulLo q m0) r 0 < 18446744073709551616 := by
  have h1 := hi1_lt hq hm hr
  unfold mulHi mulLo addHi
  simp only [Nat.add_zero] at *
  omega
/-- The round's end. -/
theorem prod_end {V2 V3 p c rk cc q M T' T X : Nat} (h3 : 18446744073709551616 * (V3 + p * c) = V2 + q * M) (h2 : V2 + 18446744073709551616 * p * rk + 18446744073709551616 * (18446744073709551616 * p) * cc = T + X)
    (h4 : T' = V3 + p * addLo rk c 0 + 18446744073709551616 * p * (cc + addHi rk c 0)) : 18446744073709551616 * T' = T + X + q * M := by
  have e : addLo rk c 0 + 18446744073709551616 * addHi rk c 0 = rk + c := by unfold addLo addHi; omega
  have e2 : p * (addLo rk c 0 + 18446744073709551616 * addHi rk c 0) = p * rk + p * c := by rw [e, Nat.mul_add]
  rw [Nat.mul_add] at e2
  have e3 : p * (18446744073709551616 * addHi rk c 0) = 18446744073709551616 * (p * addHi rk c 0) := Nat.mul_left_comm _ _ _
  rw [Nat.mul_add] at h4
  have e4 : 18446744073709551616 * p * addHi rk c 0 = 18446744073709551616 * (p * addHi rk c 0) := Nat.mul_assoc _ _ _
  have e5 : 18446744073709551616 * p * cc = 18446744073709551616 * (p * cc) := Nat.mul_assoc _ _ _
  have e6 : 18446744073709551616 * p * rk = 18446744073709551616 * (p * rk) := Nat.mul_assoc _ _ _
  have e7 : 18446744073709551616 * (18446744073709551616 * p) * cc = 18446744073709551616 * (18446744073709551616 * (p * cc)) := by rw [Nat.mul_assoc, Nat.mul_assoc]
  rw [e4, e5] at h4
  rw [e6, e7] at h2
  rw [Nat.mul_add] at h3
  rw [h4]
  omega
/-- The bound that a round keeps. -/
theorem prod_bound {T' T x q Bv M : Nat} (h : 18446744073709551616 * T' = T + x * Bv + q * M) (hT : T < Bv + M) (hx : x < 18446744073709551616) (hq : q < 18446744073709551616) : T' < Bv + M := by
  have h1 : x * Bv ≤ 18446744073709551615 * Bv := Nat.mul_le_mul_right _ (by omega)
  have h2 : q * M ≤ 18446744073709551615 * M := Nat.mul_le_mul_right _ (by omega)
  omega
theorem prod_cong {p T T' x q Bv M A Q : Nat} (h : 18446744073709551616 * T' = T + x * Bv + q * M) (hA : p * T = A * Bv + Q * M) : (18446744073709551616 * p) * T' = (A + p * x) * Bv + (Q + p * q) * M := by
  have e1 : (18446744073709551616 * p) * T' = p * (18446744073709551616 * T') := by rw [Nat.mul_comm 18446744073709551616 p, Nat.mul_assoc]
  rw [e1, h, Nat.mul_add, Nat.mul_add, hA, Nat.add_mul, Nat.add_mul, Nat.mul_assoc, Nat.mul_assoc]
  omega
theorem redN_mod {T M : Nat} (h : T < 2 * M) : redN T M < M ∧ redN T M % M = T % M := by
  unfold redN
  split
  · rename_i h1
    exact ⟨by omega, by rw [Nat.mod_eq_sub_mod h1]⟩
  · exact ⟨by omega, rfl⟩

/-- Behind the first inner loop and the two stores. -/
theorem prod_mid {rs r1 ys : List Nat} {j c x : Nat} (hr1 : r1.length = 10) (or1 : Ok r1) (hj : 0 < j) (hj8 : j ≤ 8) (hc : c < 18446744073709551616) (hv : val (r1.take j) + pw j * c = val (rs.take j) + x * val (ys.take j)) (hk : ∀ t, j ≤ t → nth r1 t = nth rs t) (hy : ys.length = j) :
    let r2 := (r1.set j (addLo (nth r1 j) c 0)).set (j + 1) (addHi (nth r1 j) c 0)
    r2.length = 10 ∧ Ok r2 ∧ nth r2 0 = nth r1 0 ∧ nth r2 (j + 1) ≤ 1 ∧ val (r2.take (j + 1)) + pw (j + 1) * nth r2 (j + 1) = val (rs.take (j + 1)) + x * val ys := by
  intro r2
  have hj1 := or1.getD j
  have h1 : addHi (nth r1 j) c 0 ≤ 1 := by unfold addHi; omega
  have e1 : nth r2 (j + 1) = addHi (nth r1 j) c 0 := by
    show nth (List.set _ _ _) _ = _
    rw [nth_set (by rw [List.length_set]; omega), if_pos rfl]
  refine ⟨by show (List.set _ _ _).length = _; simpa using hr1, (or1.set (addLo_lt _ _ _) _).set (by omega) _, ?_, by rw [e1]; exact h1, ?_⟩
  · show nth (List.set _ _ _) _ = _
    rw [nth_set (by rw [List.length_set]; omega), if_neg (by omega), nth_set (by omega), if_neg (by omega)]
  · have e2 : val (r2.take (j + 1)) = val (r1.take j) + pw j * addLo (nth r1 j) c 0 := by
      show val (List.take (j + 1) (List.set _ _ _)) = _
      rw [List.take_set_of_le (Nat.le_refl _), val_set_take (by omega)]
    rw [e1, e2, pw_succ, val_take_succ rs, ← hk j (Nat.le_refl _)]
    rw [val_take_all ys (by omega)] at hv
    have e3 : addLo (nth r1 j) c 0 + 18446744073709551616 * addHi (nth r1 j) c 0 = nth r1 j + c := by unfold addLo addHi; omega
    have e4 : pw j * (addLo (nth r1 j) c 0 + 18446744073709551616 * addHi (nth r1 j) c 0) = pw j * nth r1 j + pw j * c := by rw [e3, Nat.mul_add]
    rw [Nat.mul_add] at e4
    have e5 : 18446744073709551616 * pw j * addHi (nth r1 j) c 0 = pw j * (18446744073709551616 * addHi (nth r1 j) c 0) := by rw [Nat.mul_comm 18446744073709551616, Nat.mul_assoc]
    omega

/-- The rows behind a round. -/
theorem prod_fin {rs r2 r3 ys ms xs : List Nat} {p c q i Q : Nat} (hr3 : r3.length = 10) (or3 : Ok r3) (hp8 : p + 1 ≤ 8) (hc : c < 18446744073709551616) (hq : q < 18446744073709551616) (ox : Ok xs)
    (hm : ms.length = p + 1) (h3 : 18446744073709551616 * (val (r3.take p) + pw p * c) = val (r2.take (p + 1)) + q * val (ms.take (p + 1))) (hk3 : ∀ t, p ≤ t → nth r3 t = nth r2 t)
    (hv2 : val (r2.take (p + 1 + 1)) + pw (p + 1 + 1) * nth r2 (p + 1 + 1) = val (rs.take (p + 1 + 1)) + nth xs i * val ys) (hcc : nth r2 (p + 1 + 1) ≤ 1) (hbd : val (rs.take (p + 1 + 1)) < val ys + val ms)
    (hcg : pw i * val (rs.take (p + 1 + 1)) = val (xs.take i) * val ys + Q * val ms) :
    let r5 := (r3.set p (addLo (nth r3 (p + 1)) c 0)).set (p + 1) (nth r3 (p + 1 + 1) + addHi (nth r3 (p + 1)) c 0)
    r5.length = 10 ∧ Ok r5 ∧ val (r5.take (p + 1 + 1)) < val ys + val ms ∧ pw (i + 1) * val (r5.take (p + 1 + 1)) = val (xs.take (i + 1)) * val ys + (Q + pw i * q) * val ms := by
  intro r5
  have h1 : addHi (nth r3 (p + 1)) c 0 ≤ 1 := by have := or3.getD (p + 1); unfold addHi; omega
  have h2 : nth r3 (p + 1 + 1) ≤ 1 := by rw [hk3 _ (by omega)]; exact hcc
  have e1 : val (r5.take (p + 1 + 1)) = val (r3.take p) + pw p * addLo (nth r3 (p + 1)) c 0 + 18446744073709551616 * pw p * (nth r3 (p + 1 + 1) + addHi (nth r3 (p + 1)) c 0) := by
    show val (List.take (p + 1 + 1) (List.set _ _ _)) = _
    rw [val_set_take (by rw [List.length_set]; omega), val_set_take (by omega), pw_succ]
  rw [val_take_all ms (by omega)] at h3
  rw [val_take_succ r2, pw_succ (p + 1), pw_succ p, ← hk3 (p + 1) (by omega), ← hk3 (p + 1 + 1) (by omega)] at hv2
  have e2 := prod_end h3 hv2 e1
  refine ⟨by show (List.set _ _ _).length = _; simpa using hr3, (or3.set (addLo_lt _ _ _) _).set (by omega) _, prod_bound e2 hbd (ox.getD i) hq, ?_⟩
  rw [pw_succ, val_take_succ xs]
  exact prod_cong e2 hcg
/-- What the whole product comes to. -/
theorem prod_all {rs xs ys ms : List Nat} {k Q : Nat} (hx : xs.length = k) (hlt : val ys < val ms) (hbd : val (rs.take (k + 1)) < val ys + val ms) (hcg : pw k * val (rs.take (k + 1)) = val (xs.take k) * val ys + Q * val ms) :
    redN (val (rs.take (k + 1))) (val ms) < val ms ∧ redN (val (rs.take (k + 1))) (val ms) * pw k % val ms = val xs * val ys % val ms := by
  obtain ⟨h1, h2⟩ := redN_mod (T := val (rs.take (k + 1))) (M := val ms) (by omega)
  refine ⟨h1, ?_⟩
  rw [val_take_all xs (by omega)] at hcg
  rw [Nat.mul_mod, h2, ← Nat.mul_mod, Nat.mul_comm, hcg, Nat.add_mul_mod_self_right]

def ProdPost (go k : Nat) (T : TypeId) (A B M : Nat) (w : World) (e : Ending) (w' : World) : Prop :=
  ∃ zs : List Nat, e = .returned (.tuple #[]) ∧ Own w' go T .u64 zs ∧ zs.length = k ∧ Ok zs ∧ val zs < M ∧ val zs * pw k % M = A * B % M ∧ w.grownBy w' (some go)

end Go.Proofs.YtdilgmokiclfaaaDoor
