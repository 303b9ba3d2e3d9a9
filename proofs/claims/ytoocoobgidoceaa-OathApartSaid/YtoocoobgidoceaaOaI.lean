import Derived.Test.YtoocoobgidoceaaOaH
import Derived.Test.YtoocoobgidoceaaFrAll
namespace Go.Proofs.Ytoocoobgidoceaa
open Go.RowKit
set_option linter.unusedVariables false

theorem rask_any (A : Option Addr) (n c : Nat) (asked : Int) (bs : List Nat) (label : ByteArray) (w : World) (hb : bs.length = n) (ob : Byt bs) (sb : Sl w .u8 A bs) (hn : n ≤ maxLen) (hl : label.size ≤ maxLen) :
    Calls Try.prog 14 #[.agg #[.slice A n c, .int .i64 asked], .string label] w (AskPost (askR bs asked label) w) := by
  unfold askR
  subst hb
  by_cases h : MaySay bs.length label (oneB asked)
  · rw [if_pos h]
    exact rask_ok A _ c asked bs label w rfl ob sb h
  · rw [if_neg h]
    exact rask_no A _ c asked label w hn hl h
theorem byt_four {d : ByteArray} {a : Int} {v : Nat} {e : Int} : Byt (bytesN d, a, v, e).1 := bytesN_bytO d
theorem byt_nil {a : Int} {v : Nat} {e : Int} : Byt (([] : List Nat), a, v, e).1 := fun x hx => by cases hx
theorem askR_byt (bs : List Nat) (asked : Int) (label : ByteArray) : Byt (askR bs asked label).1 := by
  unfold askR
  generalize askD bs asked label = d
  generalize hN (bytesN d) % rN = v
  generalize IntKind.i64.wrap (asked + 1) = a
  by_cases h : MaySay bs.length label (oneB asked)
  · rw [if_pos h]
    exact byt_four
  · rw [if_neg h]
    exact byt_nil
def AskE (r : List Nat × Int × Nat × Int) (f0 f1 f2 f3 : Nat) (w : World) (e : Ending) (w' : World) : Prop :=
  ∃ A c, e = .returned (.tuple #[.agg #[.slice A r.1.length c, .int .i64 r.2.1], .agg #[.int .u64 (f0 : Nat), .int .u64 (f1 : Nat), .int .u64 (f2 : Nat), .int .u64 (f3 : Nat)], .int .i64 r.2.2.2]) ∧ r.1.length ≤ c ∧ c ≤ maxLen ∧ Sl w' .u8 A r.1 ∧ (∀ a, A = some a → w.heap.size ≤ a.block) ∧ Below w.heap.size w w'
theorem AskPost.e {r : List Nat × Int × Nat × Int} {f0 f1 f2 f3 : Nat} (hf : fl r.2.2.1 = [f0, f1, f2, f3]) {w w' : World} {e : Ending} (h : AskPost r w e w') : AskE r f0 f1 f2 f3 w e w' := by
  unfold AskPost at h
  rw [hf] at h
  exact h
/-- What OathAsks cuts. -/
def cutO (bs : List Nat) : List Nat := if 500 < bs.length ∧ bs.length < 60000 then bs.take 500 else bs
end Go.Proofs.Ytoocoobgidoceaa
