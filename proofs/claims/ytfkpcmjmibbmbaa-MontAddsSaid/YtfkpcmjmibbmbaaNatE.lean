import Derived.Test.YtfkpcmjmibbmbaaNatD
namespace Go.Proofs.Ytfkpcmjmibbmbaa
open Go.RowKit
set_option linter.unusedVariables false

theorem sl_new (w : World) (T : TypeId) (k : IntKind) (zs : List Nat) : Sl (w.alloc (.cells (lim k zs) T)) k (some ⟨w.heap.size, 0, none⟩) zs := Sl.of_own (Own.new w T k zs)

end Go.Proofs.Ytfkpcmjmibbmbaa
