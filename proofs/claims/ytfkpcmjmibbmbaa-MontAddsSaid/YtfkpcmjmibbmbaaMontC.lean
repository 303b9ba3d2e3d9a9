import Derived.Test.YtfkpcmjmibbmbaaMontB
import Derived.Test.YtfkpcmjmibbmbaaNatApp
namespace Go.Proofs.Ytfkpcmjmibbmbaa
open Go.RowKit
set_option linter.unusedVariables false

/-- May it be a modulus? An element of one? -/
def IsMod (ms : List Nat) : Prop := 1 ≤ ms.length ∧ ms.length ≤ 8 ∧ nth ms 0 % 2 = 1 ∧ 1 < val ms
def IsEl (xs ms : List Nat) : Prop := xs.length = ms.length ∧ val xs < val ms
instance (ms : List Nat) : Decidable (IsMod ms) := by unfold IsMod; infer_instance
instance (xs ms : List Nat) : Decidable (IsEl xs ms) := by unfold IsEl; infer_instance
def modB (ms : List Nat) : Bool := decide (IsMod ms)
def elB (xs ms : List Nat) : Bool := decide (IsEl xs ms)
theorem modB_yes {ms : List Nat} (h : IsMod ms) : modB ms = true := decide_eq_true h
theorem modB_no {ms : List Nat} (h : ¬ IsMod ms) : modB ms = false := decide_eq_false h
theorem elB_yes {xs ms : List Nat} (h : IsEl xs ms) : elB xs ms = true := decide_eq_true h
theorem elB_no {xs ms : List Nat} (h : ¬ IsEl xs ms) : elB xs ms = false := decide_eq_false h
theorem bitLen_one {n : Nat} : 1 < bitLen n ↔ 1 < n := by
  constructor
  · intro h
    have h0 : n ≠ 0 := by intro e; subst e; simp [bitLen] at h
    have h1 := bitLen_le h0
    have h2 : (2 : Nat) ^ 1 ≤ 2 ^ (bitLen n - 1) := Nat.pow_le_pow_right (by decide) (by omega)
    omega
  · intro h
    have h1 := bitLen_lt n
    rcases Nat.lt_or_ge 1 (bitLen n) with h2 | h2
    · exact h2
    · have : (2 : Nat) ^ bitLen n ≤ 2 ^ 1 := Nat.pow_le_pow_right (by decide) h2
      omega
theorem and1 (x : Nat) (hx : x < 18446744073709551616) : bits .and .u64 (x : Int) 1 = ((x % 2 : Nat) : Int) := by
  have h1 := bits_and_u64_nat x 1 hx (by decide)
  refine h1.trans ?_
  rw [Nat.and_one_is_mod]

set_option maxHeartbeats 800000 in
/-- mont.modulus -/
theorem modulus_any (M : Option Addr) (k c : Nat) (ms : List Nat) (w : World) (hk : k ≤ c) (hc : c ≤ maxLen) (hm : ms.length = k) (om : Ok ms) (sm : Sl w .u64 M ms) :
    Calls Try.prog 25 #[.slice M k c] w fun e w' => e = .returned (.bool (modB ms)) ∧ w = w' := by
  have hc' := hc
  unfold maxLen at hc'
  by_cases h1 : 1 ≤ k
  · by_cases h8 : k ≤ 8
    · obtain ⟨b, off, rfl, hlb, hcb⟩ := sm (by omega)
      have hc0 := hcb 0 (by omega)
      rw [Nat.add_zero] at hc0
      have ha := and1 (nth ms 0) (om.getD 0)
      have H3 := Lib.hid (bits_any (some ⟨b, off, none⟩) k c k ms w hk hc (by omega) hm om sm)
      have hk1 : (1 : Int) ≤ (k : Int) := by omega
      have hk8 : (k : Int) ≤ 8 := by omega
      by_cases ho : nth ms 0 % 2 = 1
      · rw [ho] at ha
        by_cases hv : 1 < val ms
        · rw [modB_yes ⟨by omega, by omega, ho, hv⟩]
          have hb : decide ((1 : Int) < ((bitLen (val ms) : Nat) : Int)) = true := by have := bitLen_one.2 hv; simp; omega
          clear hcb hm ho hv sm
          go_enter Try.func25, Try.ntmps25
          go_wp2_with fail
          refine (H3.out).mono ?_
          rintro e w' ⟨rfl, rfl⟩
          go_wp2_with fail
          go_ret
          exact ⟨ret_bool (by simp), rfl⟩
        · rw [modB_no (fun h => hv h.2.2.2)]
          have hb : ¬ 1 < bitLen (val ms) := fun h => hv (bitLen_one.1 h)
          have Hb := Lib.hid hb
          clear hcb hm ho hv sm hb
          go_enter Try.func25, Try.ntmps25
          go_wp2_with fail
          refine (H3.out).mono ?_
          rintro e w' ⟨rfl, rfl⟩
          go_wp2_with fail
          go_ret
          exact ⟨ret_bool (by have := Hb.out; simp; omega), rfl⟩
      · have ho0 : nth ms 0 % 2 = 0 := by omega
        rw [ho0] at ha
        rw [modB_no (fun h => ho h.2.2.1)]
        clear hcb hm ho sm ho0 H3
        go_enter Try.func25, Try.ntmps25
        go_wp2_with fail
        go_ret
        exact ⟨rfl, rfl⟩
    · rw [modB_no (fun h => h8 (by have := h.2.1; omega))]
      have hk8 : ¬ (k : Int) ≤ 8 := by omega
      have hd8 : decide ((k : Int) ≤ 8) = false := by simp; omega
      have hd1 : decide ((1 : Int) ≤ (k : Int)) = true := by simp; omega
      clear hm sm
      go_enter Try.func25, Try.ntmps25
      go_wp2_with fail
      go_ret
      exact ⟨rfl, rfl⟩
  · rw [modB_no (fun h => h1 (by have := h.1; omega))]
    obtain rfl : k = 0 := by omega
    clear hm sm h1
    go_enter Try.func25, Try.ntmps25
    go_wp2_with fail
    go_ret
    exact ⟨rfl, rfl⟩

set_option maxHeartbeats 400000 in
/-- mont.element -/
theorem element_any (A M : Option Addr) (n k ca c : Nat) (xs ms : List Nat) (w : World) (hn : n ≤ ca) (hca : ca ≤ maxLen) (hk : k ≤ c) (hc : c ≤ maxLen) (hx : xs.length = n) (hm : ms.length = k) (hk8 : k ≤ 8) (ox : Ok xs) (om : Ok ms) (sx : Sl w .u64 A xs) (sm : Sl w .u64 M ms) :
    Calls Try.prog 26 #[.slice A n ca, .slice M k c] w fun e w' => e = .returned (.bool (elB xs ms)) ∧ w = w' := by
  have hca' := hca
  unfold maxLen at hca'
  by_cases h : n = k
  · subst h
    have H := Lib.hid (cmp_any A M n ca n c xs ms w hn hca hk hc (by omega) (by omega) ox om sx sm)
    have he : ((n : Int) == (n : Int)) = true := by simp
    by_cases hlt : val xs < val ms
    · rw [elB_yes ⟨by omega, hlt⟩]
      have H' := Lib.hid (cmpN_lt hlt ▸ H.out)
      clear hx hm hlt H
      go_enter Try.func26, Try.ntmps26
      go_wp2_with fail
      refine (H'.out).mono ?_
      rintro e w' ⟨rfl, rfl⟩
      go_wp2_with fail
      go_ret
      exact ⟨rfl, rfl⟩
    · rw [elB_no (fun h => hlt h.2)]
      have hge : ¬ cmpN (val xs) (val ms) < 0 := by unfold cmpN; split; omega; split <;> decide
      generalize cmpN (val xs) (val ms) = q at *
      have hq : decide (q < 0) = false := by simpa using hge
      clear hx hm hlt
      go_enter Try.func26, Try.ntmps26
      go_wp2_with fail
      refine (H.out).mono ?_
      rintro e w' ⟨rfl, rfl⟩
      go_wp2_with fail
      go_ret
      exact ⟨ret_bool (by simp), rfl⟩
  · rw [elB_no (fun h' => h (by have := h'.1; omega))]
    have he : ((n : Int) == (k : Int)) = false := by simp; omega
    clear hx hm h
    go_enter Try.func26, Try.ntmps26
    go_wp2_with fail
    go_ret
    exact ⟨rfl, rfl⟩
end Go.Proofs.Ytfkpcmjmibbmbaa
