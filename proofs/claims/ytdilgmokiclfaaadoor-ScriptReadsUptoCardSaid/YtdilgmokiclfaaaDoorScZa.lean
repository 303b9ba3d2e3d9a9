/- Chapter 24: plain laws: numbers and words are read as they are written. -/
import Derived.Test.YtdilgmokiclfaaaDoorScW
import Derived.Test.YtdilgmokiclfaaaDoorScM
import Derived.Test.YtdilgmokiclfaaaDoorScN
import Derived.Lib.SplitLaws
namespace Go.Proofs.YtdilgmokiclfaaaDoor
open Go.RowKit
set_option linter.unusedVariables false
set_option maxRecDepth 100000

/-- The lowest k digits of sixteen, as letters, the highest first. -/
def digs (v : Nat) : Nat → List Nat
  | 0 => []
  | k + 1 => digC (hexD v k) :: digs v k
theorem digs_len (v : Nat) : ∀ k, (digs v k).length = k
  | 0 => rfl
  | k + 1 => by rw [digs, List.length_cons, digs_len v k]
theorem digs_at (v : Nat) : ∀ {k i : Nat}, i < k → nth (digs v k) (k - 1 - i) = digC (hexD v i)
  | 0, i, h => by omega
  | k + 1, i, h => by
    rcases Nat.lt_or_ge i k with hi | hi
    · rw [digs, show k + 1 - 1 - i = (k - 1 - i) + 1 by omega]
      exact digs_at v hi
    · obtain rfl : i = k := by omega
      rw [digs, show i + 1 - 1 - i = 0 by omega]
      rfl
theorem hexN_tail (v : Nat) : ∀ (n j : Nat), j + n = 64 → hexN v j ≠ [] → hexN v 64 = hexN v j ++ digs v n
  | 0, j, h, hne => by rw [show j = 64 by omega]; simp [digs]
  | n + 1, j, h, hne => by
    have e := hexN_yes (v := v) (j := j) (Or.inl (Or.inl hne))
    rw [hexN_tail v n (j + 1) (by omega) (by rw [e]; simp), e, show 63 - j = n by omega, digs]
    simp
theorem hexN_head (v : Nat) : ∀ (n j : Nat), j + n = 64 → 1 ≤ n → hexN v j = [] → (∀ i, n ≤ i → i < 64 → hexD v i = 0) →
    ∃ k, 1 ≤ k ∧ k ≤ n ∧ hexN v 64 = digs v k ∧ (∀ i, k ≤ i → i < 64 → hexD v i = 0) ∧ (k = 1 ∨ hexD v (k - 1) ≠ 0)
  | 0, j, h, h1, _, _ => by omega
  | n + 1, j, h, h1, he, hz => by
    by_cases hc : 0 < hexD v (63 - j) ∨ j = 63
    · have e := hexN_yes (v := v) (j := j) (hc.elim (fun h => Or.inl (Or.inr h)) Or.inr)
      refine ⟨n + 1, by omega, Nat.le_refl _, ?_, hz, ?_⟩
      · rw [hexN_tail v n (j + 1) (by omega) (by rw [e]; simp), e, he, show 63 - j = n by omega, digs]; simp
      · rcases hc with hc | hc
        · right; rw [show n + 1 - 1 = 63 - j by omega]; omega
        · left; omega
    · have e := hexN_no (v := v) (j := j) (fun h => by
        rcases h with (h | h) | h
        · exact h he
        · exact hc (Or.inl h)
        · exact hc (Or.inr h))
      have hj : j ≠ 63 := fun h => hc (Or.inr h)
      have hz0 : hexD v (63 - j) = 0 := by
        rcases Nat.eq_zero_or_pos (hexD v (63 - j)) with h | h
        · exact h
        · exact absurd (Or.inl h) hc
      obtain ⟨k, k1, k2, k3, k4, k5⟩ := hexN_head v n (j + 1) (by omega) (by omega) (e.trans he) (fun i h1 h2 => by
        rcases Nat.lt_or_ge i (n + 1) with h3 | h3
        · rw [show i = 63 - j by omega]; exact hz0
        · exact hz i h3 h2)
      exact ⟨k, k1, by omega, k3, k4, k5⟩
/-- A number's text: its digits, none ahead of the first that is not nought. -/
theorem hexN_digs (v : Nat) : ∃ k, 1 ≤ k ∧ k ≤ 64 ∧ hexN v 64 = digs v k ∧ (∀ i, k ≤ i → i < 64 → hexD v i = 0) ∧ (k = 1 ∨ hexD v (k - 1) ≠ 0) :=
  hexN_head v 64 0 rfl (by decide) rfl (fun i h1 h2 => by omega)
theorem hexD_lt (v i : Nat) : hexD v i < 16 := Nat.mod_lt _ (by decide)
theorem hexD_eq {v i : Nat} (hi : i < 64) : hexD v i = v / 16 ^ i % 16 := by
  obtain ⟨q, r, hq, hr, rfl⟩ : ∃ q r, q < 4 ∧ r < 16 ∧ i = 16 * q + r := ⟨i / 16, i % 16, by omega, by omega, by omega⟩
  have e1 : (16 * q + r) / 16 = q := by omega
  have e2 : (16 * q + r) % 16 = r := by omega
  have e3 : (16 : Nat) ^ (16 * q + r) = 2 ^ (64 * q) * 2 ^ (4 * r) := by
    rw [← Nat.pow_add, show (16 : Nat) = 2 ^ 4 from rfl, ← Nat.pow_mul]; congr 1; omega
  unfold hexD
  rw [e1, e2, e3, ← Nat.div_div_eq_div_mul]
  have e4 : nth (fl v) q = v / 2 ^ (64 * q) % 2 ^ 64 := by
    have : q = 0 ∨ q = 1 ∨ q = 2 ∨ q = 3 := by omega
    rcases this with rfl | rfl | rfl | rfl <;> simp only [fl, nth, List.getD_cons_zero, List.getD_cons_succ, pw] <;> omega
  rw [e4]
  generalize v / 2 ^ (64 * q) = y
  have e5 : (2 : Nat) ^ 64 = 2 ^ (4 * r) * 2 ^ (64 - 4 * r) := by rw [← Nat.pow_add]; congr 1; omega
  have e6 : (2 : Nat) ^ (64 - 4 * r) = 16 * 2 ^ (60 - 4 * r) := by rw [show (16 : Nat) = 2 ^ 4 from rfl, ← Nat.pow_add]; congr 1; omega
  rw [e5, Nat.mod_mul_right_div_self, e6, Nat.mod_mul_right_mod]
theorem digC_ok {y : Nat} (h : y < 16) : hexOk (digC y) = true ∧ hexV (digC y) = y ∧ (digC y = 48 ↔ y = 0) := by
  have : ∀ y : Fin 16, hexOk (digC y.val) = true ∧ hexV (digC y.val) = y.val ∧ (digC y.val = 48 ↔ y.val = 0) := by decide
  exact this ⟨y, h⟩
theorem hexV_ok {c : Nat} (h : hexOk c = true) : digC (hexV c) = c := by
  have h := of_decide_eq_true h
  unfold digC hexV
  split <;> split <;> omega
/-- The value of the lowest k digits. -/
theorem hv_digs {v : Nat} : ∀ {bs : List Nat} (k : Nat), k ≤ 64 → (∀ i, i < k → nth bs (bs.length - 1 - i) = digC (hexD v i)) → hv bs k = v % 16 ^ k
  | bs, 0, _, _ => by rw [hv, Nat.pow_zero, Nat.mod_one]
  | bs, k + 1, hk, h => by
    rw [hv, hv_digs k (by omega) (fun i hi => h i (by omega)), h k (by omega), (digC_ok (hexD_lt v k)).2.1, hexD_eq (by omega), Nat.pow_succ, Nat.mod_mul, Nat.mul_comm]
theorem mod_small {v k : Nat} : ∀ (n : Nat), k + n = 64 → v < 16 ^ 64 → (∀ i, k ≤ i → i < 64 → hexD v i = 0) → v % 16 ^ k = v
  | 0, h, hv, hz => by rw [show k = 64 by omega]; exact Nat.mod_eq_of_lt hv
  | n + 1, h, hv, hz => by
    have ih := mod_small (v := v) (k := k + 1) n (by omega) hv (fun i h1 h2 => hz i (by omega) h2)
    have h0 := hz k (Nat.le_refl _) (by omega)
    rw [hexD_eq (by omega)] at h0
    rw [Nat.pow_succ, Nat.mod_mul, h0] at ih
    simpa using ih
theorem ltB_iff {a b : Nat} : ltB a b = true ↔ a < b := by unfold ltB; simp
theorem rN_lt16 : rN < 16 ^ 64 := by decide +kernel
theorem bytesN_strN2 {l : List Nat} (h : Byt l) : bytesN (strN l) = l := by
  unfold bytesN strN
  simp only [List.map_map]
  conv => rhs; rw [← List.map_id l]
  refine List.map_congr_left fun x hx => ?_
  have := h x hx
  simp
  omega
theorem strN_bytesN2 (s : ByteArray) : strN (bytesN s) = s := by
  unfold bytesN strN
  cases s with
  | mk d => simp [List.map_map, Function.comp_def]
/-- What is written is read. -/
theorem numB_hexB {v : Nat} (h : ltB v rN = true) : numB (hexB v) = some v := by
  obtain ⟨k, k1, k2, k3, k4, k5⟩ := hexN_digs v
  have hb : bytesN (hexB v) = digs v k := by unfold hexB; rw [bytesN_strN2 (hexN_byt v 64), k3]
  have hsz : (hexB v).size = k := by rw [← bytesN_length, hb, digs_len]
  have hv64 : v < 16 ^ 64 := Nat.lt_trans (ltB_iff.1 h) rN_lt16
  have hd : ∀ i, i < k → nth (digs v k) ((digs v k).length - 1 - i) = digC (hexD v i) := fun i hi => by rw [digs_len]; exact digs_at v hi
  have hval : hv (digs v k) k = v := by
    rw [hv_digs k k2 hd]
    exact mod_small (64 - k) (by omega) hv64 k4
  unfold numB
  rw [hsz, hb, hval, if_neg, if_pos, if_pos h]
  · rw [List.all_eq_true]
    intro x hx
    obtain ⟨j, hj, rfl⟩ := List.getElem_of_mem hx
    have hj' : j < k := by rw [digs_len] at hj; exact hj
    have := digs_at v (k := k) (i := k - 1 - j) (by omega)
    rw [show k - 1 - (k - 1 - j) = j by omega, nth_eq hj] at this
    rw [this]
    exact (digC_ok (hexD_lt v _)).1
  · rintro (h0 | h0 | ⟨h0, h1⟩)
    · omega
    · omega
    · have := digs_at v (k := k) (i := k - 1) (by omega)
      rw [Nat.sub_self, h1] at this
      rcases k5 with k5 | k5
      · omega
      · exact k5 ((digC_ok (hexD_lt v (k - 1))).2.2.1 this.symm)
theorem hv_digit (bs : List Nat) : ∀ {n i : Nat}, i < n → (∀ j, j < n → hexOk (nth bs (bs.length - 1 - j)) = true) → hv bs n / 16 ^ i % 16 = hexV (nth bs (bs.length - 1 - i))
  | 0, i, h, _ => by omega
  | n + 1, i, h, hok => by
    have hlt := hv_lt bs n (fun j hj => hok j (by omega))
    have hc := hexV_lt (hok n (by omega))
    rcases Nat.lt_or_ge i n with hi | hi
    · rw [hv, ← hv_digit bs hi (fun j hj => hok j (by omega))]
      obtain ⟨d, rfl⟩ : ∃ d, n = i + 1 + d := ⟨n - i - 1, by omega⟩
      rw [Nat.pow_add, Nat.pow_succ]
      generalize hexV _ = c
      generalize hv bs (i + 1 + d) = y
      have e : y + c * (16 ^ i * 16 * 16 ^ d) = y + 16 ^ i * (16 * (c * 16 ^ d)) := by
        congr 1
        simp only [Nat.mul_assoc, Nat.mul_comm, Nat.mul_left_comm]
      rw [e, Nat.add_mul_div_left _ _ (Nat.pow_pos (by decide)), Nat.add_mul_mod_self_left]
    · obtain rfl : i = n := by omega
      rw [hv, Nat.add_mul_div_right _ _ (Nat.pow_pos (by decide)), Nat.div_eq_of_lt hlt, Nat.zero_add, Nat.mod_eq_of_lt hc]
/-- What is read is as it is written. -/
theorem hexB_numB {s : ByteArray} {v : Nat} (h : numB s = some v) : hexB v = s ∧ ltB v rN = true := by
  unfold numB at h
  split at h
  · cases h
  rename_i hbad
  split at h
  case isFalse => cases h
  rename_i hall
  split at h
  case isFalse => cases h
  rename_i hlt
  have hv : hv (bytesN s) s.size = v := Option.some.inj h
  rw [hv] at hlt
  refine ⟨?_, hlt⟩
  have h1 : 1 ≤ s.size ∧ s.size ≤ 64 := by omega
  have hlen := bytesN_length s
  have hok : ∀ j, j < s.size → hexOk (nth (bytesN s) ((bytesN s).length - 1 - j)) = true := fun j hj => by
    have hl : (bytesN s).length - 1 - j < (bytesN s).length := by omega
    rw [nth_eq hl]
    exact List.all_eq_true.1 hall _ (List.getElem_mem hl)
  have hvlt := hv_lt (bytesN s) s.size hok
  rw [hv] at hvlt
  have hdig : ∀ i, i < s.size → hexD v i = hexV (nth (bytesN s) ((bytesN s).length - 1 - i)) := fun i hi => by
    rw [hexD_eq (by omega), ← hv]; exact hv_digit (bytesN s) hi hok
  have hzero : ∀ i, s.size ≤ i → i < 64 → hexD v i = 0 := fun i h2 h3 => by
    rw [hexD_eq h3, Nat.div_eq_of_lt (Nat.lt_of_lt_of_le hvlt (Nat.pow_le_pow_right (by decide) h2))]
  obtain ⟨k, k1, k2, k3, k4, k5⟩ := hexN_digs v
  have htop : 1 < s.size → hexD v (s.size - 1) ≠ 0 := fun h2 h3 => by
    rw [hdig _ (by omega), hlen, show s.size - 1 - (s.size - 1) = 0 by omega] at h3
    have h4 := hok (s.size - 1) (by omega)
    rw [hlen, show s.size - 1 - (s.size - 1) = 0 by omega] at h4
    have h5 := hexV_ok h4
    rw [h3] at h5
    exact hbad (Or.inr (Or.inr ⟨h2, h5.symm⟩))
  have hk : k = s.size := by
    rcases Nat.lt_trichotomy k s.size with h2 | h2 | h2
    · exact absurd (k4 (s.size - 1) (by omega) (by omega)) (htop (by omega))
    · exact h2
    · rcases k5 with k5 | k5
      · omega
      · exact absurd (hzero (k - 1) (by omega) (by omega)) k5
  unfold hexB
  rw [k3, ← strN_bytesN2 s]
  congr 1
  refine List.ext_getElem (by rw [digs_len, hlen, hk]) fun j h2 h3 => ?_
  have h4 : j < k := by rw [digs_len] at h2; exact h2
  have e1 := digs_at v (k := k) (i := k - 1 - j) (by omega)
  rw [show k - 1 - (k - 1 - j) = j by omega, nth_eq h2] at e1
  rw [e1, hdig _ (by omega)]
  have h5 := hok (k - 1 - j) (by omega)
  have e2 : (bytesN s).length - 1 - (k - 1 - j) = j := by omega
  rw [e2] at h5 ⊢
  rw [nth_eq h3] at h5 ⊢
  exact hexV_ok h5
theorem parse_append : ∀ (l r : List UInt8) (acc m : Nat), Lib.parseUint10 acc l = .ok m → Lib.parseUint10 acc (l ++ r) = Lib.parseUint10 m r
  | [], r, acc, m, h => by
    simp only [Lib.parseUint10] at h
    injection h with h
    rw [h]; rfl
  | c :: l, r, acc, m, h => by
    rw [List.cons_append]
    simp only [Lib.parseUint10] at h ⊢
    split at h
    · rename_i hc
      rw [if_pos hc]
      split at h
      · cases h
      · rename_i h1
        rw [if_neg h1]
        split at h
        · cases h
        · rename_i h2
          rw [if_neg h2]
          exact parse_append l r _ m h
    · cases h
theorem parse_one {m d : Nat} (hd : d < 10) (hm : m < 1000000000) : Lib.parseUint10 m [UInt8.ofNat (48 + d)] = .ok (m * 10 + d) := by
  have e : (UInt8.ofNat (48 + d)).toNat = 48 + d := by simp [UInt8.toNat_ofNat]; omega
  simp only [Lib.parseUint10, e]
  rw [if_pos (by omega), if_neg (by omega), if_neg (by omega)]
  simp
theorem parse_dec : ∀ (u : Nat), u < 1000000000 → Lib.parseUint10 0 (Lib.decDigits u) = .ok u := fun u => by
  induction u using Nat.strongRecOn with
  | ind u ih =>
    intro hu
    rw [Lib.decDigits]
    by_cases h : u < 10
    · rw [dif_pos h]
      have := parse_one (m := 0) h (by decide)
      simpa using this
    · rw [dif_neg h, parse_append _ _ 0 (u / 10) (ih (u / 10) (by omega) (by omega)), parse_one (by omega) (by omega)]
      congr 1; omega
theorem dec_head (u : Nat) : ∃ c r, Lib.decDigits u = c :: r ∧ 48 ≤ c.toNat ∧ c.toNat ≤ 57 := by
  induction u using Nat.strongRecOn with
  | ind u ih =>
    rw [Lib.decDigits]
    by_cases h : u < 10
    · rw [dif_pos h]
      exact ⟨_, _, rfl, by simp [UInt8.toNat_ofNat]; omega, by simp [UInt8.toNat_ofNat]; omega⟩
    · rw [dif_neg h]
      obtain ⟨c, r, h1, h2⟩ := ih (u / 10) (by omega)
      rw [h1]
      exact ⟨c, _, rfl, h2⟩
theorem inB_iff {z : Int} : inB z = true ↔ 0 ≤ z ∧ z ≤ 1000000 := by unfold inB; simp
theorem atoi_itoa {z : Int} (h : inB z = true) : Lib.atoiAll (Lib.itoa z) = .ok z := by
  obtain ⟨h0, h1⟩ := inB_iff.1 h
  have e : Lib.itoa z = Lib.decDigits z.toNat := by unfold Lib.itoa; rw [if_neg (by omega)]
  rw [e]
  have hp := parse_dec z.toNat (by omega)
  obtain ⟨c, r, hcr, hc1, hc2⟩ := dec_head z.toNat
  rw [hcr] at hp ⊢
  have hm : Lib.parseMag (c :: r) = .ok z.toNat := by unfold Lib.parseMag; rw [if_neg (by simp)]; exact hp
  unfold Lib.atoiAll
  simp only
  rw [if_neg (by omega), hm]
  simp only
  rw [if_neg (by omega), if_neg (by omega), if_neg (by omega)]
  congr 1; omega
theorem smallB_itB {z : Int} (h : inB z = true) : smallB (itB z) = some z := by
  unfold smallB
  have e : (itB z).data.toList = Lib.itoa z := by unfold itB; simp
  rw [e, atoi_itoa h]
  simp [h]
theorem itB_smallB {s : ByteArray} {z : Int} (h : smallB s = some z) : itB z = s ∧ inB z = true := by
  unfold smallB at h
  split at h
  · split at h
    · rename_i h2
      obtain rfl := Option.some.inj h
      rw [Bool.and_eq_true] at h2
      exact ⟨of_decide_eq_true h2.2, h2.1⟩
    · cases h
  · cases h
end Go.Proofs.YtdilgmokiclfaaaDoor
