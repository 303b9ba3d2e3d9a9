import Derived.Test.YtfkpcmjmibbmbaaProg
import Derived.Test.YtfkpcmjmibbmbaaMem
import Derived.Test.YtfkpcmjmibbmbaaMontMath
namespace Go.Proofs.Ytfkpcmjmibbmbaa
open Go.RowKit
set_option linter.unusedVariables false

def NegPost (m : Nat) (w : World) (e : Ending) (w' : World) : Prop := ∃ n : Nat, e = .returned (.int .u64 (n : Int)) ∧ NegIs m n ∧ w = w'

theorem neg_val (m v : Nat) : ∃ y : Nat, y < 18446744073709551616 ∧ IntKind.u64.wrap ((v : Int) * IntKind.u64.wrap (2 - IntKind.u64.wrap ((m : Int) * (v : Int)))) = (y : Int) ∧
    (18446744073709551616 : Int) ∣ (y : Int) - (v : Int) * (2 - (m : Int) * (v : Int)) := by
  obtain ⟨q, hq⟩ : ∃ q : Int, IntKind.u64.wrap (2 - IntKind.u64.wrap ((m : Int) * (v : Int))) = 2 - (m : Int) * (v : Int) + 18446744073709551616 * q := by
    rw [IntKind.wrap_u64, IntKind.wrap_u64]
    generalize (m : Int) * (v : Int) = a
    exact ⟨((2 - a % 18446744073709551616) % 18446744073709551616 - (2 - a)) / 18446744073709551616, by omega⟩
  rw [hq, IntKind.wrap_u64, Int.mul_add, Int.mul_left_comm]
  generalize (v : Int) * (2 - (m : Int) * (v : Int)) = z
  generalize (v : Int) * q = u
  exact ⟨((z + 18446744073709551616 * u) % 18446744073709551616).toNat, by omega, by omega, by omega⟩
theorem wrap_add2 (n P : Nat) (h : n + P < 18446744073709551616) : IntKind.u64.wrap ((n : Int) + IntKind.u64.wrap (P : Int)) = ((n + P : Nat) : Int) := by
  rw [IntWalk.u64_in (P : Int) (by omega), IntWalk.u64_in _ (by omega)]; rfl
theorem neg_fin (v : Nat) : ∃ n : Nat, n < 18446744073709551616 ∧ IntKind.u64.wrap (-(v : Int)) = (n : Int) ∧ (18446744073709551616 : Int) ∣ (n : Int) + v := by
  rw [IntKind.wrap_u64]
  exact ⟨((-(v : Int)) % 18446744073709551616).toNat, by omega, by omega, by omega⟩

set_option maxHeartbeats 400000 in
/-- mont.Neg -/
theorem neg_any (m : Nat) (w : World) (hm : m < 18446744073709551616) :
    Calls Try.prog 10 #[.int .u64 (m : Int)] w (NegPost m w) := by
  have hand : bits .and .u64 (m : Int) 1 = ((m % 2 : Nat) : Int) := by
    have h1 := bits_and_u64_nat m 1 hm (by decide)
    refine h1.trans ?_
    rw [Nat.and_one_is_mod]
  by_cases h0 : m % 2 = 0
  · rw [h0] at hand
    go_enter Try.func10, Try.ntmps10
    go_wp2
    go_ret
    exact ⟨0, rfl, ⟨by decide, fun _ => rfl, fun h => by omega⟩, rfl⟩
  · have h1 : m % 2 = 1 := by omega
    rw [h1] at hand
    have H1 := Lib.hid h1
    clear h0 h1
    go_enter Try.func10, Try.ntmps10
    go_wp2
    clear hand
    go_loop [8, 3] (fun i x => ∃ k v : Nat, k ≤ 5 ∧ i = .int .i64 (k : Int) ∧ x = .int .u64 (v : Int) ∧ v < 18446744073709551616 ∧ Hid ((2 : Int) ^ prec k ∣ (m : Int) * v - 1)) (fun i _ => 5 - (intOf i).toNat)
    case atStart => exact ⟨0, m, by decide, rfl, rfl, hm, Lib.hid (neg_start H1.out)⟩
    case round =>
      obtain ⟨k, v, hk, rfl, rfl, hv, Hd⟩ := hrel
      by_cases hlt : k < 5
      · obtain ⟨y, hy, ey, dy⟩ := neg_val m v
        have Dy := Lib.hid dy
        clear dy
        go_wp2
        exact ⟨⟨k + 1, y, by omega, rfl, rfl, hy, Lib.hid (neg_round hlt Hd.out Dy.out)⟩, by simp [intOf]; omega⟩
      · obtain rfl : k = 5 := by omega
        obtain ⟨n, hn, en, dn⟩ := neg_fin v
        have Dn := Lib.hid dn
        clear dn
        go_wp2
        go_ret
        exact ⟨n, rfl, neg_done H1.out Hd.out hn Dn.out, rfl⟩

set_option maxHeartbeats 400000 in
/-- chirographref02.Neg -/
theorem rneg_any (m : Nat) (w : World) (hm : m < 18446744073709551616) :
    Calls Try.prog 11 #[.int .u64 (m : Int)] w (NegPost m w) := by
  by_cases h0 : m % 2 = 0
  · have ht : (((m : Int) % 2) == 0) = true := by simp; omega
    go_enter Try.func11, Try.ntmps11
    go_wp2
    go_ret
    exact ⟨0, rfl, ⟨by decide, fun _ => rfl, fun h => by omega⟩, rfl⟩
  · have h1 : m % 2 = 1 := by omega
    have ht : (((m : Int) % 2) == 0) = false := by simp; omega
    have H1 := Lib.hid h1
    clear h0 h1
    go_enter Try.func11, Try.ntmps11
    go_wp2
    clear ht
    go_loop [4, 3] (fun i x => ∃ k n : Nat, k ≤ 64 ∧ i = .int .i64 (k : Int) ∧ x = .int .u64 (n : Int) ∧ Hid (n < 2 ^ k) ∧ Hid (m * n % 2 ^ k = 2 ^ k - 1)) (fun i _ => 64 - (intOf i).toNat)
    case atStart => exact ⟨0, 0, by decide, rfl, rfl, Lib.hid (by decide), Lib.hid (by simp)⟩
    case round =>
      obtain ⟨k, n, hk, rfl, rfl, Hn, Hd⟩ := hrel
      by_cases hlt : k < 64
      · have hp : 2 ^ k ≤ 9223372036854775808 := Nat.pow_le_pow_right (n := 2) (by decide) (show k ≤ 63 by omega)
        have hn := Hn.out
        have hn2 : n + 2 ^ k < 18446744073709551616 := by omega
        obtain ⟨b, hb⟩ : ∃ b : Nat, m * n / 2 ^ k % 2 = b := ⟨_, rfl⟩
        have hbl : b < 2 := by omega
        have hv : (IntKind.u64.wrap ((m : Int) * (n : Int)) / 2 ^ k).tmod 2 = (b : Int) := by
          have e1 : IntKind.u64.wrap ((m : Int) * (n : Int)) = ((m * n % 18446744073709551616 : Nat) : Int) := by
            rw [IntKind.wrap_u64, ← Int.natCast_mul]; rfl
          have e2 : ((m * n % 18446744073709551616 : Nat) : Int) / 2 ^ k = ((m * n % 18446744073709551616 / 2 ^ k : Nat) : Int) := by simp
          rw [e1, e2, Int.tmod_eq_emod_of_nonneg (Int.natCast_nonneg _)]
          have := rneg_test (m * n) hlt
          omega
        have Hb := Lib.hid hb
        clear hb hn
        by_cases hz : b = 0
        · subst hz
          have ew : IntKind.u64.wrap ((n : Int) + IntKind.u64.wrap (2 ^ k)) = ((n + 2 ^ k : Nat) : Int) := by
            have e2 : (2 : Int) ^ k = ((2 ^ k : Nat) : Int) := by simp
            rw [e2]
            exact wrap_add2 n (2 ^ k) hn2
          have Ew := Lib.hid ew
          have Hlt := Lib.hid (show n + 2 ^ k < 2 ^ (k + 1) by have := Hn.out; rw [Nat.pow_succ]; omega)
          clear ew hn2 hp
          go_wp2
          exact ⟨⟨k + 1, n + 2 ^ k, by omega, rfl, congrArg _ Ew.out, Hlt, Lib.hid (rneg_set H1.out Hd.out Hb.out)⟩, by simp [intOf]; omega⟩
        · obtain rfl : b = 1 := by omega
          have Hlt := Lib.hid (show n < 2 ^ (k + 1) by have := Hn.out; rw [Nat.pow_succ]; omega)
          clear hn2 hp
          go_wp2
          exact ⟨⟨k + 1, n, by omega, rfl, rfl, Hlt, Lib.hid (rneg_bit Hd.out Hb.out)⟩, by simp [intOf]; omega⟩
      · obtain rfl : k = 64 := by omega
        go_wp2
        go_ret
        exact ⟨n, rfl, ⟨Hn.out, fun h => by have := H1.out; omega, fun _ => Hd.out⟩, rfl⟩

set_option maxHeartbeats 400000 in
/-- chirographlaw02.alive -/
theorem alive2_any (w : World) : Calls Try.prog 9 #[] w fun e w' => e = .returned (.bool true) ∧ w = w' := by
  have H := Lib.hid (neg_any 1 w (by decide))
  go_enter Try.func9, Try.ntmps9
  go_wp2_with fail
  refine (H.out).mono ?_
  rintro e w' ⟨n, rfl, ⟨hn, _, h1⟩, rfl⟩
  obtain rfl : n = 18446744073709551615 := by have := h1 rfl; omega
  clear h1 hn
  go_wp2_with fail
  go_ret
  exact ⟨rfl, rfl⟩
end Go.Proofs.Ytfkpcmjmibbmbaa
