import Derived.Test.YtfkpcmjmibbmbaaNatJ
namespace Go.Proofs.Ytfkpcmjmibbmbaa
open Go.RowKit
set_option linter.unusedVariables false

/-- A row handed back, as a slice that reads so. -/
def SlPost (L V : Nat) (w : World) (e : Ending) (w' : World) : Prop :=
  ∃ (g c : Nat) (zs : List Nat), e = .returned (.slice (some ⟨g, 0, none⟩) L c) ∧ L ≤ c ∧ c ≤ maxLen ∧ Sl w' .u64 (some ⟨g, 0, none⟩) zs ∧ zs.length = L ∧ Ok zs ∧ val zs = V ∧ Below w.heap.size w w'

/-- A row copied so far. -/
def CpRel (ys : List Nat) (L g : Nat) (w : World) (i : Value) (wr : World) : Prop :=
  ∃ (k : Nat) (zs : List Nat), k ≤ L ∧ i = .int .i64 (k : Int) ∧ zs.length = L + 1 ∧ Ok zs ∧ Own wr g 22 .u64 zs ∧ Below w.heap.size w wr ∧ val zs = val (ys.take k) ∧ ∀ t, k ≤ t → nth zs t = 0
def RRemRel (A M na L : Nat) (w : World) (i o : Value) (wr : World) : Prop :=
  ∃ (k g : Nat) (zs : List Nat), k ≤ 64 * na ∧ i = .int .i64 ((k : Int) - 1) ∧ o = .slice (some ⟨g, 0, none⟩) (L + 1) (L + 1) ∧ zs.length = L + 1 ∧ Ok zs ∧ Own wr g 22 .u64 zs ∧ Below w.heap.size w wr ∧ val zs = A / 2 ^ k % M

end Go.Proofs.Ytfkpcmjmibbmbaa
