import Derived.Test.YtdilgmokiclfaaaDoorMontB
import Derived.Test.YtdilgmokiclfaaaDoorNatAll
namespace Go.Proofs.YtdilgmokiclfaaaDoor
open Go.RowKit
set_option linter.unusedVariables false

/-- May it be a modulus? An element of one? -/
def IsMod (ms : List Nat) : Prop := 1 ≤ ms.length ∧ ms.length ≤ 8 ∧ nth ms 0 % 2 = 1 ∧ 1 < val ms
def IsEl (xs ms : List Nat) : Prop := xs.length = ms.length ∧ val xs < val ms
instance (ms : List Nat) : Decidable (IsMod ms) := by unfold IsMod; infer_instance
instance (xs ms : List Nat) : Decidable (IsEl xs ms) := by unfold IsEl; infer_instance
def modB (ms : List Nat) : Bool := decide (IsMod ms)
def elB (xs ms : List Nat) : Bool := decide (IsEl xs ms)
theorem modB_yes {ms : List Nat} (h : IsMod ms) : modB ms = true := decide_eq_true h
theorem modB_no {ms : List Nat} (h : ¬ IsMod ms) : modB ms = false := decide_eq_false h
theorem elB_yes {xs ms : List Nat} (h : IsEl xs ms) : elB xs ms = true := decide_eq_true h
theorem elB_no {xs ms : List Nat} (h : ¬ IsEl xs ms) : elB xs ms = false := decide_eq_false h
theorem bitLen_one {n : Nat} : 1 < bitLen n ↔ 1 < n := by
  constructor
  · intro h
    have h0 : n ≠ 0 := by intro e; subst e; simp [bitLen] at h
    have h1 := bitLen_le h0
    have h2 : (2 : Nat) ^ 1 ≤ 2 ^ (bitLen n - 1) := Nat.pow_le_pow_right (by decide) (by omega)
    omega
  · intro h
    have h1 := bitLen_lt n
    rcases Nat.lt_or_ge 1 (bitLen n) with h2 | h2
    · exact h2
    · have : (2 : Nat) ^ bitLen n ≤ 2 ^ 1 := Nat.pow_le_pow_right (by decide) h2
      omega
theorem and1 (x : Nat) (hx : x < 18446744073709551616) : bits .and .u64 (x : Int) 1 = ((x % 2 : Nat) : Int) := by
  have h1 := bits_and_u64_nat x 1 hx (by decide)
  refine h1.trans ?_
  rw [Nat.and_one_is_mod]

end Go.Proofs.YtdilgmokiclfaaaDoor
