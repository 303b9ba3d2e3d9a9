import Derived.Test.YtboaahjpjemfpaaSpB
import Derived.Test.YtboaahjpjemfpaaSpRefM
namespace Go.Proofs.Ytboaahjpjemfpaa
open Go.RowKit
set_option linter.unusedVariables false

def LeftRel (x n : Nat) (w : World) (v i : Value) (wr : World) : Prop := ∃ j : Nat, j ≤ n ∧ i = .int .i64 (j : Int) ∧ v = .int .u64 (rotl x j : Nat) ∧ wr = w
/-- ref.left -/
theorem left_any (x n : Nat) (w : World) (hx : x < 18446744073709551616) (hn : n < 9223372036854775808) :
    Calls Try.prog 21 #[.int .u64 (x : Int), .int .i64 (n : Int)] w fun e w' => e = .returned (.int .u64 (rotl x (n % 64) : Nat)) ∧ w' = w := by
  obtain ⟨m, hm⟩ : ∃ m, n % 64 = m := ⟨_, rfl⟩
  have hm' : (n : Int).tmod 64 = (m : Int) := by rw [← hm]; rfl
  have hmr : (n : Int) % 64 = (m : Int) := by omega
  have hm64 : m < 64 := by omega
  go_enter Try.func21, Try.ntmps21
  go_wp2
  go_loopw [0, 5] (LeftRel x m w) (fun _ i _ => m - (intOf i).toNat)
  case atStart => exact ⟨0, by omega, rfl, rfl, rfl⟩
  case round =>
    obtain ⟨j, hj, rfl, rfl, rfl⟩ := hrel
    by_cases hjm : j < m
    · have hlt := rotl_lt hx j
      go_wp2
      refine ⟨⟨j + 1, by omega, rfl, congrArg (Value.int .u64) ?_, rfl⟩, by simp [intOf]; omega⟩
      show _ = ((rotl x j * 2 % 18446744073709551616 + rotl x j / 9223372036854775808 : Nat) : Int)
      simp only [IntKind.wrap_u64]
      omega
    · obtain rfl : j = m := by omega
      go_wp2
      go_ret
      exact ⟨by rw [hm]; rfl, rfl⟩

/-- ref.lane -/
theorem lane_any (x y : Int) (p q l : Nat) (w : World) (hx : x + 5 = (p : Int)) (hy : y + 5 = (q : Int)) (hp : p < 1000) (hq : q < 1000) (hl : laneN p q = l) :
    Calls Try.prog 20 #[.int .i64 x, .int .i64 y] w fun e w' => e = .returned (.int .i64 (l : Int)) ∧ w' = w := by
  obtain ⟨r, hr⟩ : ∃ r, p % 5 = r := ⟨_, rfl⟩
  obtain ⟨s, hs⟩ : ∃ s, q % 5 = s := ⟨_, rfl⟩
  have e1 : IntKind.i64.wrap (x + 5) = (p : Int) := by rw [hx, IntKind.wrap_i64]; omega
  have e2 : IntKind.i64.wrap (y + 5) = (q : Int) := by rw [hy, IntKind.wrap_i64]; omega
  have e3 : (p : Int).tmod 5 = (r : Int) := by rw [← hr]; rfl
  have e4 : (q : Int).tmod 5 = (s : Int) := by rw [← hs]; rfl
  have e5 : (p : Int) % 5 = (r : Int) := by omega
  have e6 : (q : Int) % 5 = (s : Int) := by omega
  go_enter Try.func20, Try.ntmps20
  go_wp2
  go_ret
  refine ⟨congrArg Ending.returned (congrArg (Value.int .i64) ?_), rfl⟩
  unfold laneN at hl
  omega
end Go.Proofs.Ytboaahjpjemfpaa
