import Derived.Test.YtfkpcmjmibbmbaaProg
import Derived.Test.YtfkpcmjmibbmbaaMem
import Derived.Test.YtfkpcmjmibbmbaaNatRemM
namespace Go.Proofs.Ytfkpcmjmibbmbaa
open Go.RowKit

theorem ret_congr {a b : Value} (h : a = b) : Ending.returned a = .returned b := by rw [h]

/-- nat.cut -/
theorem cut_any (A : Option Addr) (n c : Nat) (w : World) (hn : n ≤ c) (hc : c ≤ maxLen) :
    Calls Try.prog 34 #[.slice A n c] w fun e w' => e = .returned (.slice A (min n 16) (min n 16)) ∧ w = w' := by
  unfold maxLen at hc
  by_cases h : n ≤ 16
  · have e : min n 16 = n := Nat.min_eq_left h
    rw [e]; clear e
    have h' : ¬ (16 : Int) < (n : Int) := by omega
    go_enter Try.func34, Try.ntmps34
    go_wp2
    go_ret
    exact ⟨rfl, rfl⟩
  · have e : min n 16 = 16 := Nat.min_eq_right (by omega)
    rw [e]; clear e
    have h' : (16 : Int) < (n : Int) := by omega
    go_enter Try.func34, Try.ntmps34
    go_wp2
    go_ret
    exact ⟨rfl, rfl⟩

theorem limb_any (A : Option Addr) (n c : Nat) (xs : List Nat) (i : Int) (w : World) (h0 : 0 ≤ i) (hx : xs.length = n) (hs : Sl w .u64 A xs) :
    Calls Try.prog 38 #[.slice A n c, .int .i64 i] w fun e w' => e = .returned (.int .u64 (nth xs i.toNat : Nat)) ∧ w = w' := by
  obtain ⟨k, rfl⟩ := Int.eq_ofNat_of_zero_le h0
  rw [Int.toNat_natCast]
  by_cases hk : k < n
  · obtain ⟨b, off, rfl, hb, hcell⟩ := hs (by omega)
    have hcl := hcell k (by omega)
    clear hcell
    go_enter Try.func38, Try.ntmps38
    go_wp2
    go_ret
    exact ⟨rfl, rfl⟩
  · have e : nth xs k = 0 := nth_ge (by omega)
    rw [e]; clear e
    go_enter Try.func38, Try.ntmps38
    go_wp2
    go_ret
    exact ⟨rfl, rfl⟩
end Go.Proofs.Ytfkpcmjmibbmbaa
