/- Chapter 24: the reference's small. -/
import Derived.Test.YtdilgmokiclfaaaDoorScRa
namespace Go.Proofs.YtdilgmokiclfaaaDoor
open Go.RowKit
set_option linter.unusedVariables false
set_option maxRecDepth 100000

theorem dec_dig (u : Nat) : ∀ x ∈ Lib.decDigits u, 48 ≤ x.toNat ∧ x.toNat ≤ 57 := by
  induction u using Nat.strongRecOn with
  | ind u ih =>
    rw [Lib.decDigits]
    by_cases h : u < 10
    · rw [dif_pos h]
      intro x hx
      rw [List.mem_singleton.1 hx]
      simp [UInt8.toNat_ofNat]; omega
    · rw [dif_neg h]
      intro x hx
      rcases List.mem_append.1 hx with hx | hx
      · exact ih (u / 10) (by omega) x hx
      · rw [List.mem_singleton.1 hx]
        simp [UInt8.toNat_ofNat]; omega
theorem dec_len : ∀ (k u : Nat), 1 ≤ k → u < 10 ^ k → (Lib.decDigits u).length ≤ k
  | 0, u, h, _ => by omega
  | k + 1, u, _, h => by
    rw [Lib.decDigits]
    by_cases hu : u < 10
    · rw [dif_pos hu]; simp
    · rw [dif_neg hu, List.length_append, List.length_singleton]
      have h1 : 1 ≤ k := by
        rcases Nat.eq_zero_or_pos k with rfl | h1
        · simp at h; omega
        · exact h1
      have := dec_len k (u / 10) h1 (by rw [Nat.pow_succ] at h; exact Nat.div_lt_of_lt_mul (by rw [Nat.mul_comm]; exact h))
      omega
theorem small_some {s : ByteArray} {z : Int} (h : smallB s = some z) : (∀ x ∈ s.data.toList, 48 ≤ x.toNat ∧ x.toNat ≤ 57) ∧ 1 ≤ s.size ∧ s.size ≤ 7 := by
  obtain ⟨h1, h2⟩ := itB_smallB h
  obtain ⟨h3, h4⟩ := inB_iff.1 h2
  have e : s.data.toList = Lib.decDigits z.toNat := by
    rw [← h1]
    unfold itB Lib.itoa
    rw [if_neg (by omega)]
  refine ⟨by rw [e]; exact dec_dig _, ?_, ?_⟩
  · obtain ⟨c, r, h5, _⟩ := dec_head z.toNat
    have : s.data.toList.length = s.size := by rw [Array.length_toList]; rfl
    rw [← this, e, h5]; simp
  · have : s.data.toList.length = s.size := by rw [Array.length_toList]; rfl
    rw [← this, e]
    exact dec_len 7 _ (by decide) (by omega)
theorem parse_dig {m : Nat} {c : UInt8} (h : 48 ≤ c.toNat ∧ c.toNat ≤ 57) (hm : m < 1000000000) : Lib.parseUint10 m [c] = .ok (m * 10 + (c.toNat - 48)) := by
  simp only [Lib.parseUint10]
  rw [if_pos h, if_neg (by omega), if_neg (by omega)]
theorem atoi_digits {s : ByteArray} {n : Nat} (h1 : 1 ≤ s.size) (hd : ∀ x ∈ s.data.toList, 48 ≤ x.toNat ∧ x.toNat ≤ 57) (hp : Lib.parseUint10 0 s.data.toList = .ok n) (hn : n < 10000000) : Lib.atoiAll s.data.toList = .ok (n : Int) := by
  have hl : s.data.toList.length = s.size := by rw [Array.length_toList]; rfl
  cases hs : s.data.toList with
  | nil => rw [hs] at hl; simp at hl; omega
  | cons c r =>
    rw [hs] at hd hp
    have hc := hd c (List.mem_cons_self ..)
    have hm : Lib.parseMag (c :: r) = .ok n := by unfold Lib.parseMag; rw [if_neg (by simp)]; exact hp
    unfold Lib.atoiAll
    simp only
    rw [if_neg (by omega), hm]
    simp only
    rw [if_neg (by omega), if_neg (by omega), if_neg (by omega)]
def SmRel (s : ByteArray) (w : World) (v i : Value) (wr : World) : Prop :=
  ∃ k n : Nat, k ≤ s.size ∧ i = .int .i64 (k : Int) ∧ v = .int .i64 (n : Int) ∧ Lib.parseUint10 0 (s.data.toList.take k) = .ok n ∧ n < 10 ^ k ∧ (∀ x ∈ s.data.toList.take k, 48 ≤ x.toNat ∧ x.toNat ≤ 57) ∧ wr = w
set_option maxHeartbeats 4000000 in
/-- ref.small -/
theorem rsmall_any (s : ByteArray) (w : World) (hp : Pow w) (hs : s.size ≤ 100000000) :
    Calls Tryd.prog 66 #[.string s] w fun e w' => ∃ v : Int, e = .returned (.tuple #[.int .i64 v, .bool (smallB s).isSome]) ∧ (∀ z, smallB s = some z → v = z) ∧ Below w.heap.size w w' := by
  have hix : ∀ j, j < s.size → ∀ w, (Instr.index 9 (.string s) (.int .i64 (j : Int))).run Tryd.prog w = .ok (.int .u8 (nth (bytesN s) j : Nat)) w := fun j hj w => run_index_s s j w hj
  have HIX := Lib.hid hix
  have HP := Lib.hid hp
  obtain ⟨R, hR⟩ : ∃ x, x = smallB s := ⟨_, rfl⟩
  rw [← hR]
  have HR := Lib.hid hR
  clear hix hp hR
  obtain ⟨n, hn⟩ : ∃ n, s.size = n := ⟨_, rfl⟩
  have hsn : (s.size : Int) = (n : Int) := by rw [hn]
  have HN := Lib.hid hn
  have hno : n = 0 ∨ 7 < n → R = none := fun h => by
    rw [HR.out]
    cases hz : smallB s with
    | none => rfl
    | some z => have := small_some hz; omega
  have HNO := Lib.hid hno
  rw [hn] at hs
  clear hno hn
  go_enter Tryd.func66, Tryd.ntmps66
  by_cases h0 : n = 0
  · have hq0 : ((n : Int) == 0) = true := by simp [h0]
    have hRx := Lib.hid (HNO.out (.inl h0))
    clear h0
    go_wp2_with fail
    go_ret2
    exact ⟨0, by rw [hRx.out]; rfl, fun z hz => (by rw [hRx.out] at hz; cases hz), Below.refl _ _⟩
  have hq0 : ((n : Int) == 0) = false := beq_eq_false_iff_ne.2 (by omega)
  by_cases h7 : (7 : Int) < (n : Int)
  · have hRx := Lib.hid (HNO.out (.inr (by omega)))
    go_wp2_with fail
    go_ret2
    exact ⟨0, by rw [hRx.out]; rfl, fun z hz => (by rw [hRx.out] at hz; cases hz), Below.refl _ _⟩
  have HQ0 := Lib.hid h0
  have H7 := Lib.hid h7
  go_wp2_with fail
  go_loopw [4, 5] (SmRel s w) (fun _ i _ => n - (intOf i).toNat)
  case atStart => exact ⟨0, 0, Nat.zero_le _, rfl, rfl, rfl, by decide, by simp, rfl⟩
  case round =>
    obtain ⟨k, m, hk, rfl, rfl, hpm, hm, hdg, rfl⟩ := hrel
    have HPM := Lib.hid hpm
    have HDG := Lib.hid hdg
    have HM := Lib.hid hm
    clear hpm hdg
    have hN := HN.out
    rw [hN] at hk
    rcases Nat.lt_or_ge k n with hlt | hge
    · have hkn : (k : Int) < (n : Int) := by omega
      have hx := HIX.out k (by omega)
      obtain ⟨d, hd1, hd2⟩ := nth_data (s := s) (k := k) (by omega)
      rw [hd2] at hx
      have hd8 := d.toNat_lt
      obtain ⟨dn, hdn⟩ : ∃ x, x = d.toNat := ⟨_, rfl⟩
      rw [← hdn] at hx hd8
      have HD := Lib.hid hd1
      have HDN := Lib.hid hdn
      have hm6 : m < 1000000 := Nat.lt_of_lt_of_le hm (by
        have := Nat.pow_le_pow_right (n := 10) (by decide) (show k ≤ 6 by omega)
        simpa using this)
      clear hd1 hd2 hdn hm
      have hbad : ¬ (48 ≤ dn ∧ dn ≤ 57) → R = none := fun h => by
        rw [HR.out]
        cases hz : smallB s with
        | none => rfl
        | some z =>
          have := (small_some hz).1 d (List.mem_of_getElem? HD.out)
          rw [← HDN.out] at this
          exact absurd this h
      have HBAD := Lib.hid hbad
      clear hbad
      by_cases h48 : (dn : Int) < 48
      · have hRx := Lib.hid (HBAD.out (by omega))
        go_wp2_with fail
        go_ret2
        exact ⟨0, by rw [hRx.out]; rfl, fun z hz => (by rw [hRx.out] at hz; cases hz), Below.refl _ _⟩
      · by_cases h57 : (57 : Int) < (dn : Int)
        · have hRx := Lib.hid (HBAD.out (by omega))
          go_wp2_with fail
          go_ret2
          exact ⟨0, by rw [hRx.out]; rfl, fun z hz => (by rw [hRx.out] at hz; cases hz), Below.refl _ _⟩
        · go_wp2_with fail
          refine ⟨⟨k + 1, m * 10 + (dn - 48), by omega, int_eq (by omega), int_eq (by omega), ?_, ?_, fun x hx => ?_, rfl⟩, by simp [intOf]; omega⟩
          · rw [take_next HD.out, parse_append _ _ 0 m HPM.out, parse_dig (by rw [← HDN.out]; omega) (by omega), HDN.out]
          · rw [Nat.pow_succ]; have := HM.out; omega
          · rw [take_next HD.out] at hx
            rcases List.mem_append.1 hx with hx | hx
            · exact HDG.out x hx
            · rw [List.mem_singleton.1 hx, ← HDN.out]; omega
    · obtain rfl : k = n := by omega
      have hkn : ¬ (k : Int) < (k : Int) := by omega
      have hall : s.data.toList.take k = s.data.toList := List.take_of_length_le (by rw [Array.length_toList]; show s.size ≤ k; omega)
      have hpm := HPM.out
      have hdg := HDG.out
      rw [hall] at hpm hdg
      have hm7 : m < 10000000 := Nat.lt_of_lt_of_le hm (by
        have := Nat.pow_le_pow_right (n := 10) (by decide) (show k ≤ 7 by omega)
        simpa using this)
      have hat := atoi_digits (by omega) hdg hpm hm7
      have hR2 : R = if inB (m : Int) && decide (itB (m : Int) = s) then some (m : Int) else none := by
        rw [HR.out]; unfold smallB; rw [hat]
      have HR2 := Lib.hid hR2
      clear hpm hdg hat hR2 hall hm
      go_wp2_with fail
      refine (rin_any (m : Int) _).mono ?_
      rintro e w1 ⟨rfl, rfl⟩
      cases hin : inB (m : Int) with
      | false =>
        have HIN := Lib.hid hin
        clear hin
        go_wp2_with fail
        go_ret2
        have hRx : R = none := by rw [HR2.out, HIN.out]; rfl
        exact ⟨m, by rw [hRx]; rfl, fun z hz => (by rw [hRx] at hz; cases hz), Below.refl _ _⟩
      | true =>
        have HIN := Lib.hid hin
        clear hin
        have hse := str_beq (itB (m : Int)) s
        obtain ⟨q, hq⟩ : ∃ q, q = decide (itB (m : Int) = s) := ⟨_, rfl⟩
        rw [← hq] at hse
        have HQ := Lib.hid hq
        clear hq
        go_wp2_with fail
        refine (itoa_any (m : Int) _ HP.out HIN.out).mono ?_
        rintro e w2 ⟨rfl, b2⟩
        go_wp2_with fail
        go_ret2
        cases q with
        | true =>
          have hRx : R = some (m : Int) := by rw [HR2.out, HIN.out, ← HQ.out]; rfl
          exact ⟨m, by rw [hRx]; rfl, fun z hz => (by rw [hRx] at hz; exact Option.some.inj hz), b2⟩
        | false =>
          have hRx : R = none := by rw [HR2.out, HIN.out, ← HQ.out]; rfl
          exact ⟨m, by rw [hRx]; rfl, fun z hz => (by rw [hRx] at hz; cases hz), b2⟩
end Go.Proofs.YtdilgmokiclfaaaDoor
