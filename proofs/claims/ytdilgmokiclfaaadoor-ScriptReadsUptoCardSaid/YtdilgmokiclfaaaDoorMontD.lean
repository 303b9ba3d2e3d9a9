import Derived.Test.YtdilgmokiclfaaaDoorMontC
namespace Go.Proofs.YtdilgmokiclfaaaDoor
open Go.RowKit
set_option linter.unusedVariables false

/-- An element handed back, with OK: a row of k limbs that is below the modulus and meets R. -/
def ElPost (k : Nat) (R : Nat → Prop) (w : World) (e : Ending) (w' : World) : Prop :=
  ∃ (g : Nat) (zs : List Nat), e = .returned (.tuple #[.slice (some ⟨g, 0, none⟩) k k, .int .i64 0]) ∧ Sl w' .u64 (some ⟨g, 0, none⟩) zs ∧ zs.length = k ∧ Ok zs ∧ R (val zs) ∧ Below w.heap.size w w'
def ErrPost (w : World) (e : Ending) (w' : World) : Prop := e = .returned (.tuple #[.slice none 0 0, .int .i64 1]) ∧ Below w.heap.size w w'

/-- What a Montgomery product is. -/
def MulR (A B M k : Nat) (v : Nat) : Prop := v < M ∧ v * pw k % M = A * B % M

theorem below_grown_own {a w w' : World} {g : Nat} (h : Below a.heap.size a w) (hg : w.grownBy w' (some g)) (hge : a.heap.size ≤ g) : Below a.heap.size a w' :=
  h.grown hg h.size fun k hk => by injection hk with hk; omega

end Go.Proofs.YtdilgmokiclfaaaDoor
