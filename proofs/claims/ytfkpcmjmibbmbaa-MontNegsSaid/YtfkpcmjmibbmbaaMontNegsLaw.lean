import Derived.Test.YtfkpcmjmibbmbaaMontNeg
namespace Go.Proofs.Ytfkpcmjmibbmbaa
open Go.RowKit
set_option linter.unusedVariables false

set_option maxHeartbeats 400000 in
theorem montNegs_any (m : Nat) (w : World) (hm : m < 18446744073709551616) :
    Calls Try.prog 3 #[.int .u64 (m : Int)] w fun e w' => e = .returned (.bool true) ∧ w = w' := by
  have H1 := Lib.hid (neg_any m w hm)
  have H2 := Lib.hid (rneg_any m w hm)
  by_cases h0 : m % 2 = 0
  · have ht : (((m : Int) % 2) == 0) = true := by simp; omega
    clear h0
    go_enter Try.func3, Try.ntmps3
    go_wp2_with fail
    refine (alive2_any w).mono ?_
    rintro e w' ⟨rfl, rfl⟩
    go_wp2_with fail
    refine (H1.out).mono ?_
    rintro e w' ⟨n, rfl, hn, rfl⟩
    go_wp2_with fail
    refine (H2.out).mono ?_
    rintro e w' ⟨k, rfl, hk, rfl⟩
    obtain rfl := hn.uniq hk
    go_wp2_with fail
    go_ret
    exact ⟨rfl, rfl⟩
  · have h1 : m % 2 = 1 := by omega
    have ht : (((m : Int) % 2) == 0) = false := by simp; omega
    have Hm := Lib.hid h1
    clear h0 h1
    go_enter Try.func3, Try.ntmps3
    go_wp2_with fail
    refine (alive2_any w).mono ?_
    rintro e w' ⟨rfl, rfl⟩
    go_wp2_with fail
    refine (H1.out).mono ?_
    rintro e w' ⟨n, rfl, hn, rfl⟩
    go_wp2_with fail
    refine (H2.out).mono ?_
    rintro e w' ⟨k, rfl, hk, rfl⟩
    obtain rfl := hn.uniq hk
    go_wp2_with fail
    refine (H1.out).mono ?_
    rintro e w' ⟨k', rfl, hk', rfl⟩
    obtain rfl := hn.uniq hk'
    have he : (IntKind.u64.wrap ((m : Int) * (n : Int)) == 18446744073709551615) = true := by
      have := hn.2.2 Hm.out
      have e : IntKind.u64.wrap ((m : Int) * (n : Int)) = ((m * n % 18446744073709551616 : Nat) : Int) := by rw [IntKind.wrap_u64, ← Int.natCast_mul]; rfl
      rw [e, this]; rfl
    go_wp2_with fail
    go_ret
    exact ⟨rfl, rfl⟩
end Go.Proofs.Ytfkpcmjmibbmbaa
