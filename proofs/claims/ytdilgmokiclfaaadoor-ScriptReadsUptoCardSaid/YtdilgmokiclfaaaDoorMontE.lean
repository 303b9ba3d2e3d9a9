import Derived.Test.YtdilgmokiclfaaaDoorMontD
namespace Go.Proofs.YtdilgmokiclfaaaDoor
open Go.RowKit
set_option linter.unusedVariables false

theorem val_one (k : Nat) (hk : 0 < k) : val ((List.replicate k 0).set 0 1) = 1 := by
  obtain ⟨j, rfl⟩ : ∃ j, k = j + 1 := ⟨k - 1, by omega⟩
  rw [List.replicate_succ, List.set_cons_zero, val_cons, val_replicate]

end Go.Proofs.YtdilgmokiclfaaaDoor
