import Derived.Test.YtdilgmokiclfaaaDoorFrAll
namespace Go.Proofs.YtdilgmokiclfaaaDoor
open Go.RowKit
set_option linter.unusedVariables false
set_option maxRecDepth 100000

theorem round_hi0 {x y o : Nat} (hx : x < 18446744073709551616) (hy : y < 18446744073709551616) (ho : o < 18446744073709551616) :
    IntKind.u64.wrap ((mulHi x y : Nat) + (addHi (mulLo x y) o 0 : Nat)) = (hiS x y o 0 : Nat) := by
  have h1 := hi1_lt hx hy ho
  have h2 := hi_lt hx hy ho (show (0 : Nat) < 18446744073709551616 by decide)
  have h3 := hi_lo x y o 0
  have h4 := lo_lt x y o 0
  rw [IntKind.wrap_u64]
  unfold hiS loS at *
  unfold mulHi addHi mulLo
  omega
theorem round_lo0 (x y o : Nat) : addLo (mulLo x y) o 0 = loS x y o 0 := by unfold addLo mulLo loS; omega
theorem times_val {x q t0 t1 t2 t3 b0 b1 b2 b3 l0 l1 l2 l3 u0 u1 u2 u3 d0 d1 d2 d3 z0 z1 z2 : Nat}
    (e0 : l0 + 18446744073709551616 * u0 = x * b0 + t0 + 0) (f0 : 0 + 18446744073709551616 * d0 = q * 18446744069414584321 + l0 + 0)
    (e1 : l1 + 18446744073709551616 * u1 = x * b1 + t1 + u0) (f1 : z0 + 18446744073709551616 * d1 = q * 6034159408538082302 + l1 + d0)
    (e2 : l2 + 18446744073709551616 * u2 = x * b2 + t2 + u1) (f2 : z1 + 18446744073709551616 * d2 = q * 3691218898639771653 + l2 + d1)
    (e3 : l3 + 18446744073709551616 * u3 = x * b3 + t3 + u2) (f3 : z2 + 18446744073709551616 * d3 = q * 8353516859464449352 + l3 + d2) :
    18446744073709551616 * val [z0, z1, z2, d3 + u3] = val [t0, t1, t2, t3] + x * val [b0, b1, b2, b3] + q * rN := by
  simp only [val, rN, Nat.mul_add, Nat.mul_zero, Nat.add_zero, Nat.mul_left_comm x] at *
  generalize x * b0 = p0 at *
  generalize x * b1 = p1 at *
  generalize x * b2 = p2 at *
  generalize x * b3 = p3 at *
  omega
theorem times_lt {x q T B V : Nat} (hx : x < 18446744073709551616) (hq : q < 18446744073709551616) (hB : B < rN) (hT : T < B + rN) (h : 18446744073709551616 * V = T + x * B + q * rN) : V < B + rN := by
  have h1 : x * B ≤ 18446744073709551615 * B := Nat.mul_le_mul_right _ (by omega)
  have h2 : q * rN ≤ 18446744073709551615 * rN := Nat.mul_le_mul_right _ (by omega)
  omega
theorem times_top {z0 z1 z2 t B : Nat} (hB : B < rN) (h : val [z0, z1, z2, t] < B + rN) : t < 18446744073709551616 := by
  have h2 := rN_two
  simp only [show pw 4 = 18446744073709551616 * (18446744073709551616 * (18446744073709551616 * 18446744073709551616)) from rfl] at h2
  simp only [val] at h
  omega
theorem times_cong {x q T B V P A : Nat} (h : 18446744073709551616 * V = T + x * B + q * rN) (hT : T * P % rN = A * B % rN) : V * (18446744073709551616 * P) % rN = (A + P * x) * B % rN := by
  have e : V * (18446744073709551616 * P) = T * P + (P * x) * B + rN * (q * P) := by
    rw [← Nat.mul_assoc, Nat.mul_comm V, h, Nat.add_mul, Nat.add_mul]
    congr 1
    · congr 1
      rw [Nat.mul_comm (x * B), Nat.mul_assoc]
    · rw [Nat.mul_comm q, Nat.mul_assoc]
  rw [e, Nat.add_mul_mod_self_left, Nat.add_mod, hT, ← Nat.add_mod, ← Nat.add_mul]
def TmRel (xs ys : List Nat) (W : World) (i c0 c1 c2 c3 : Value) (wr : World) : Prop :=
  ∃ k t0 t1 t2 t3 : Nat, k ≤ 4 ∧ i = .int .i64 (k : Int) ∧ c0 = .int .u64 (t0 : Int) ∧ c1 = .int .u64 (t1 : Int) ∧ c2 = .int .u64 (t2 : Int) ∧ c3 = .int .u64 (t3 : Int) ∧
    Ok [t0, t1, t2, t3] ∧ val [t0, t1, t2, t3] < val ys + rN ∧ val [t0, t1, t2, t3] * pw k % rN = val (xs.take k) * val ys % rN ∧ wr = W

end Go.Proofs.YtdilgmokiclfaaaDoor
