import Derived.Test.YtdilgmokiclfaaaDoorProg
import Derived.Test.YtdilgmokiclfaaaDoorNatAll
namespace Go.Proofs.YtdilgmokiclfaaaDoor
open Go.RowKit
set_option linter.unusedVariables false

def NegPost (m : Nat) (w : World) (e : Ending) (w' : World) : Prop := ∃ n : Nat, e = .returned (.int .u64 (n : Int)) ∧ NegIs m n ∧ w = w'

theorem neg_val (m v : Nat) : ∃ y : Nat, y < 18446744073709551616 ∧ IntKind.u64.wrap ((v : Int) * IntKind.u64.wrap (2 - IntKind.u64.wrap ((m : Int) * (v : Int)))) = (y : Int) ∧
    (18446744073709551616 : Int) ∣ (y : Int) - (v : Int) * (2 - (m : Int) * (v : Int)) := by
  obtain ⟨q, hq⟩ : ∃ q : Int, IntKind.u64.wrap (2 - IntKind.u64.wrap ((m : Int) * (v : Int))) = 2 - (m : Int) * (v : Int) + 18446744073709551616 * q := by
    rw [IntKind.wrap_u64, IntKind.wrap_u64]
    generalize (m : Int) * (v : Int) = a
    exact ⟨((2 - a % 18446744073709551616) % 18446744073709551616 - (2 - a)) / 18446744073709551616, by omega⟩
  rw [hq, IntKind.wrap_u64, Int.mul_add, Int.mul_left_comm]
  generalize (v : Int) * (2 - (m : Int) * (v : Int)) = z
  generalize (v : Int) * q = u
  exact ⟨((z + 18446744073709551616 * u) % 18446744073709551616).toNat, by omega, by omega, by omega⟩
theorem wrap_add2 (n P : Nat) (h : n + P < 18446744073709551616) : IntKind.u64.wrap ((n : Int) + IntKind.u64.wrap (P : Int)) = ((n + P : Nat) : Int) := by
  rw [IntWalk.u64_in (P : Int) (by omega), IntWalk.u64_in _ (by omega)]; rfl
theorem neg_fin (v : Nat) : ∃ n : Nat, n < 18446744073709551616 ∧ IntKind.u64.wrap (-(v : Int)) = (n : Int) ∧ (18446744073709551616 : Int) ∣ (n : Int) + v := by
  rw [IntKind.wrap_u64]
  exact ⟨((-(v : Int)) % 18446744073709551616).toNat, by omega, by omega, by omega⟩

end Go.Proofs.YtdilgmokiclfaaaDoor
