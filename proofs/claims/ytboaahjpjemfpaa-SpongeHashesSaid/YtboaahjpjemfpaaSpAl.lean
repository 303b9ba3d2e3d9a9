import Derived.Test.YtboaahjpjemfpaaSpH
import Derived.Test.YtboaahjpjemfpaaSpRow
namespace Go.Proofs.Ytboaahjpjemfpaa
open Go.RowKit
set_option linter.unusedVariables false

theorem strB_size (l : List Nat) : (strB l).size = l.length := by
  unfold strB strOfNums
  simp [ByteArray.size]
theorem digN_length (bs : List Nat) : (digN bs).length = 32 := sqzN_length _ _
theorem dig_size (bs : List Nat) : (strB (digN bs)).size = 32 := by rw [strB_size, digN_length]
/-- chirographlaw13.alive -/
theorem alive_any (w : World) :
    Calls Try.prog 8 #[] w fun e w' => e = .returned (.bool true) ∧ Below w.heap.size w w' := by
  go_enter Try.func8, Try.ntmps8
  go_wp2_with fail
  refine (hash_any ⟨#[]⟩ w (by decide)).mono ?_
  rintro e w1 ⟨rfl, b1⟩
  have hsz := dig_size (bytesN ⟨#[]⟩)
  generalize strB (digN (bytesN ⟨#[]⟩)) = s at *
  go_wp2_with fail
  go_ret
  exact ⟨rfl, b1⟩

theorem walk_shape (s : ByteArray) (w : World) (hs : s.size ≤ 65536) :
    ∃ d : ByteArray, d.size = 32 ∧ ∀ W : World, Calls Try.prog 11 #[.string s] W fun e w' => e = .returned (.tuple #[.string d, .int .i64 0]) ∧ Below W.heap.size W w' :=
  ⟨_, dig_size (bytesN s), fun W => hash_any s W hs⟩
theorem extract_size (s : ByteArray) (n : Nat) (h : n ≤ s.size) : (s.extract 0 n).size = n := by
  rw [ByteArray.size_extract]; omega
end Go.Proofs.Ytboaahjpjemfpaa
