import Derived.Test.YtfkpcmjmibbmbaaMontH
namespace Go.Proofs.Ytfkpcmjmibbmbaa
open Go.RowKit
set_option linter.unusedVariables false

/-- A row of k limbs handed back, whose number meets R. -/
def MvPost (k : Nat) (R : Nat → Prop) (w : World) (e : Ending) (w' : World) : Prop :=
  ∃ (A : Option Addr) (c : Nat) (zs : List Nat), e = .returned (.slice A k c) ∧ k ≤ c ∧ c ≤ maxLen ∧ Sl w' .u64 A zs ∧ zs.length = k ∧ Ok zs ∧ R (val zs) ∧ Below w.heap.size w w'

/-- The row under way after i rounds. -/
def MvRel (R : Nat → Nat → Prop) (k : Nat) (w : World) (i a : Value) (wr : World) : Prop :=
  ∃ (j : Nat) (A : Option Addr) (c : Nat) (zs : List Nat), j ≤ 64 * k ∧ i = .int .i64 (j : Int) ∧ a = .slice A k c ∧ k ≤ c ∧ c ≤ maxLen ∧ Sl wr .u64 A zs ∧ zs.length = k ∧ Ok zs ∧ R j (val zs) ∧ Below w.heap.size w wr

theorem MulR.uniq {A B M k u v : Nat} (hM : M % 2 = 1) (hu : MulR A B M k u) (hv : MulR A B M k v) : u = v := by
  have h := mul_cancel_mod hM (64 * k) (x := u) (y := v) (by rw [← pw_two, hu.2, hv.2])
  rwa [Nat.mod_eq_of_lt hu.1, Nat.mod_eq_of_lt hv.1] at h

theorem half_more {M X v u j : Nat} (h : v * 2 ^ j % M = X % M) (hu : 2 * u % M = v % M) : u * 2 ^ (j + 1) % M = X % M := by
  rw [← h, Nat.pow_succ, Nat.mul_comm (2 ^ j) 2, ← Nat.mul_assoc, Nat.mul_comm u 2, Nat.mul_mod, hu, ← Nat.mul_mod]
theorem twice_more {M X v j : Nat} (h : v = X * 2 ^ j % M) : 2 * v % M = X * 2 ^ (j + 1) % M := by
  rw [h, Nat.mul_mod, Nat.mod_mod, ← Nat.mul_mod, Nat.pow_succ]
  rw [show 2 * (X * 2 ^ j) = X * (2 ^ j * 2) by rw [Nat.mul_left_comm, Nat.mul_comm 2]]

set_option maxHeartbeats 1000000 in
/-- chirographref02.From -/
theorem rfrom_any (A M : Option Addr) (k ca cm : Nat) (xs ms : List Nat) (w : World) (hca : k ≤ ca) (hca' : ca ≤ maxLen) (hcm : k ≤ cm) (hcm' : cm ≤ maxLen)
    (hm : ms.length = k) (ox : Ok xs) (om : Ok ms) (sx : Sl w .u64 A xs) (sm : Sl w .u64 M ms) (hM : IsMod ms) (hX : IsEl xs ms) :
    Calls Try.prog 19 #[.slice A k ca, .slice M k cm] w (MvPost k (MulR (val xs) 1 (val ms) k) w) := by
  have hk0 : 0 < k := by have := hM.1; omega
  have hk8 : k ≤ 8 := by have := hM.2.1; omega
  have hx : xs.length = k := by rw [hX.1, hm]
  have HM := Lib.hid hM
  have HX := Lib.hid hX
  have Hm := Lib.hid hm
  have Hx := Lib.hid hx
  clear hM hX hm hx
  go_enter Try.func19, Try.ntmps19
  go_wp2
  go_loopw [5, 0] (MvRel (fun j v => v < val ms ∧ v * 2 ^ j % val ms = val xs % val ms) k w) (fun i _ _ => (64 * k : Nat) - (intOf i).toNat)
  case atStart => exact ⟨0, A, ca, xs, Nat.zero_le _, rfl, rfl, hca, hca', sx, Hx.out, ox, ⟨HX.out.2, by rw [Nat.pow_zero, Nat.mul_one]⟩, Below.refl _ _⟩
  case round =>
    obtain ⟨j, A1, c1, zs, hj, rfl, rfl, hc1, hc1', s1, l1, o1, ⟨hlt, hr⟩, hb⟩ := hrel
    have L1 := Lib.hid l1
    have R1 := Lib.hid hr
    have HL := Lib.hid hlt
    clear l1 hr hlt
    by_cases hjk : j < 64 * k
    · have D := Lib.hid (half_any A1 M k c1 cm zs ms wr hk0 hk8 hc1 hc1' hcm hcm' L1.out Hm.out o1 om s1 (sm.bel hb) HL.out HM.out.2.2.1)
      go_wp2_with fail
      refine (D.out).mono ?_
      rintro e w1 ⟨g, us, rfl, ou, lu, ku, ⟨hu, hv⟩, b1⟩
      have LU := Lib.hid lu
      have HU := Lib.hid (show _ ∧ _ from ⟨hu, half_more R1.out hv⟩)
      have b2 := hb.trans (b1.mono hb.size)
      clear lu hu hv
      go_wp2_with fail
      exact ⟨⟨j + 1, some ⟨g, 0, none⟩, k, us, by omega, int_eq (by omega), rfl, Nat.le_refl _, by unfold maxLen; omega, Sl.of_own ou, LU.out, ku, HU.out, b2⟩, by simp [intOf]; omega⟩
    · obtain rfl : j = 64 * k := by omega
      go_wp2
      go_ret
      exact ⟨A1, c1, zs, rfl, hc1, hc1', s1, L1.out, o1, ⟨HL.out, by rw [pw_two, R1.out, Nat.mul_one]⟩, hb⟩

set_option maxHeartbeats 1000000 in
/-- chirographref02.Into -/
theorem rinto_any (A M : Option Addr) (k ca cm : Nat) (xs ms : List Nat) (w : World) (hca : k ≤ ca) (hca' : ca ≤ maxLen) (hcm : k ≤ cm) (hcm' : cm ≤ maxLen)
    (hm : ms.length = k) (ox : Ok xs) (om : Ok ms) (sx : Sl w .u64 A xs) (sm : Sl w .u64 M ms) (hM : IsMod ms) (hX : IsEl xs ms) :
    Calls Try.prog 18 #[.slice A k ca, .slice M k cm] w (MvPost k (fun v => v = val xs * pw k % val ms) w) := by
  have hk0 : 0 < k := by have := hM.1; omega
  have hk8 : k ≤ 8 := by have := hM.2.1; omega
  have hx : xs.length = k := by rw [hX.1, hm]
  have HM := Lib.hid hM
  have HX := Lib.hid hX
  have Hm := Lib.hid hm
  have Hx := Lib.hid hx
  clear hM hX hm hx
  go_enter Try.func18, Try.ntmps18
  go_wp2
  go_loopw [5, 0] (MvRel (fun j v => v = val xs * 2 ^ j % val ms) k w) (fun i _ _ => (64 * k : Nat) - (intOf i).toNat)
  case atStart => exact ⟨0, A, ca, xs, Nat.zero_le _, rfl, rfl, hca, hca', sx, Hx.out, ox, by show val xs = val xs * 2 ^ 0 % val ms; rw [Nat.pow_zero, Nat.mul_one, Nat.mod_eq_of_lt HX.out.2], Below.refl _ _⟩
  case round =>
    obtain ⟨j, A1, c1, zs, hj, rfl, rfl, hc1, hc1', s1, l1, o1, hr, hb⟩ := hrel
    have L1 := Lib.hid l1
    have R1 := Lib.hid hr
    clear l1 hr
    by_cases hjk : j < 64 * k
    · have D := Lib.hid (twice_any A1 M k c1 cm zs ms wr hk8 hcm hcm' L1.out Hm.out o1 om s1 (sm.bel hb) (by rw [R1.out]; exact Nat.mod_lt _ (by have := HM.out.2.2.2; omega)))
      go_wp2_with fail
      refine (D.out).mono ?_
      rintro e w1 ⟨g, us, rfl, ou, lu, ku, hu, b1⟩
      have LU := Lib.hid lu
      have HU := Lib.hid (hu.trans (twice_more R1.out))
      have b2 := hb.trans (b1.mono hb.size)
      clear lu hu
      go_wp2_with fail
      exact ⟨⟨j + 1, some ⟨g, 0, none⟩, k, us, by omega, int_eq (by omega), rfl, Nat.le_refl _, by unfold maxLen; omega, Sl.of_own ou, LU.out, ku, HU.out, b2⟩, by simp [intOf]; omega⟩
    · obtain rfl : j = 64 * k := by omega
      go_wp2
      go_ret
      exact ⟨A1, c1, zs, rfl, hc1, hc1', s1, L1.out, o1, by rw [pw_two]; exact R1.out, hb⟩

set_option maxHeartbeats 1000000 in
/-- chirographref02.Mul -/
theorem rmmul_any (A B M : Option Addr) (k ca cb cm : Nat) (xs ys ms : List Nat) (w : World) (hca : k ≤ ca) (hca' : ca ≤ maxLen) (hcb : k ≤ cb) (hcb' : cb ≤ maxLen) (hcm : k ≤ cm) (hcm' : cm ≤ maxLen)
    (hm : ms.length = k) (ox : Ok xs) (oy : Ok ys) (om : Ok ms) (sx : Sl w .u64 A xs) (sy : Sl w .u64 B ys) (sm : Sl w .u64 M ms) (hM : IsMod ms) (hX : IsEl xs ms) (hY : IsEl ys ms) :
    Calls Try.prog 15 #[.slice A k ca, .slice B k cb, .slice M k cm] w (MvPost k (MulR (val xs) (val ys) (val ms) k) w) := by
  have hk8 : k ≤ 8 := by have := hM.2.1; omega
  have hx : xs.length = k := by rw [hX.1, hm]
  have hy : ys.length = k := by rw [hY.1, hm]
  have HM := Lib.hid hM
  have Hm := Lib.hid hm
  have D1 := Lib.hid (mulmod_any A B M k ca cb cm xs ys ms w hk8 hca hca' hcb hcb' hcm hcm' hx hy hm ox oy om sx sy sm hY.2)
  clear hM hX hY hm hx hy
  go_enter Try.func15, Try.ntmps15
  go_wp2_with fail
  refine (D1.out).mono ?_
  rintro e w1 ⟨g, us, rfl, ou, lu, ku, vu, b1⟩
  have HU : Hid (IsEl us ms) := Lib.hid ⟨by rw [lu, Hm.out], by rw [vu]; exact Nat.mod_lt _ (by have := HM.out.2.2.2; omega)⟩
  have VU := Lib.hid vu
  clear lu vu
  go_wp2_with fail
  refine (rfrom_any _ M k k cm us ms w1 (Nat.le_refl _) (by unfold maxLen; omega) hcm hcm' Hm.out ku om (Sl.of_own ou) (sm.bel b1) HM.out HU.out).mono ?_
  rintro e w2 ⟨A2, c2, vs, rfl, hc2, hc2', s2, l2, o2, hr, b2⟩
  have L2 := Lib.hid l2
  have R2 : Hid (MulR (val xs) (val ys) (val ms) k (val vs)) := Lib.hid ⟨hr.1, by rw [hr.2, VU.out, Nat.mul_one, Nat.mod_mod]⟩
  clear l2 hr
  go_wp2_with fail
  go_ret
  exact ⟨A2, c2, vs, rfl, hc2, hc2', s2, L2.out, o2, R2.out, b1.trans (b2.mono b1.size)⟩
end Go.Proofs.Ytfkpcmjmibbmbaa
