import Derived.Test.YtoocoobgidoceaaSpH
import Derived.Test.YtoocoobgidoceaaSpRow
namespace Go.Proofs.Ytoocoobgidoceaa
open Go.RowKit
set_option linter.unusedVariables false

theorem strB_size (l : List Nat) : (strB l).size = l.length := by
  unfold strB strOfNums
  simp [ByteArray.size]
theorem digN_length (bs : List Nat) : (digN bs).length = 32 := sqzN_length _ _
theorem dig_size (bs : List Nat) : (strB (digN bs)).size = 32 := by rw [strB_size, digN_length]
theorem walk_shape (s : ByteArray) (w : World) (hs : s.size ≤ 65536) :
    ∃ d : ByteArray, d.size = 32 ∧ ∀ W : World, Calls Try.prog 21 #[.string s] W fun e w' => e = .returned (.tuple #[.string d, .int .i64 0]) ∧ Below W.heap.size W w' :=
  ⟨_, dig_size (bytesN s), fun W => hash_any s W hs⟩
theorem extract_size (s : ByteArray) (n : Nat) (h : n ≤ s.size) : (s.extract 0 n).size = n := by
  rw [ByteArray.size_extract]; omega
end Go.Proofs.Ytoocoobgidoceaa
