import Derived.Test.YtfkpcmjmibbmbaaMontI
namespace Go.Proofs.Ytfkpcmjmibbmbaa
open Go.RowKit
set_option linter.unusedVariables false

theorem mod_mul_in (a b M : Nat) : a % M * b % M = a * b % M := by rw [Nat.mul_mod, Nat.mod_mod, ← Nat.mul_mod]
theorem cancel_pw {M k x y : Nat} (h : M % 2 = 1) (e : x * pw k % M = y * pw k % M) : x % M = y % M := by
  rw [pw_two] at e; exact mul_cancel_mod h (64 * k) e
theorem back_mul {A B M k x y p q : Nat} (h : M % 2 = 1) (hx : x = A * pw k % M) (hy : y = B * pw k % M) (hp : MulR x y M k p) (hq : MulR p 1 M k q) : q = A * B % M := by
  have h1 : q * pw k % M = p % M := by rw [hq.2, Nat.mul_one]
  have h2 : q * pw k * pw k % M = A * B * pw k * pw k % M := by
    rw [← mod_mul_in, h1, mod_mul_in, hp.2, hx, hy, ← Nat.mul_mod]
    congr 1
    rw [Nat.mul_mul_mul_comm, Nat.mul_assoc (A * B)]
  rw [← cancel_pw h (cancel_pw h h2), Nat.mod_eq_of_lt hq.1]
theorem back_to {A M k x u : Nat} (h : M % 2 = 1) (hA : A < M) (hx : x = A * pw k % M) (hu : MulR x 1 M k u) : u = A := by
  have h1 : u * pw k % M = A * pw k % M := by rw [hu.2, Nat.mul_one, hx, Nat.mod_mod]
  have h2 := cancel_pw h h1
  rwa [Nat.mod_eq_of_lt hu.1, Nat.mod_eq_of_lt hA] at h2
theorem back_from {A M k v w : Nat} (hA : A < M) (hv : MulR A 1 M k v) (hw : w = v * pw k % M) : w = A := by
  rw [hw, hv.2, Nat.mul_one, Nat.mod_eq_of_lt hA]

set_option maxHeartbeats 4000000 in
set_option maxRecDepth 100000 in
theorem montBack_ok (A B M : Option Addr) (k ca cb cm : Nat) (xs ys ms : List Nat) (w : World) (hca : k ≤ ca) (hca' : ca ≤ maxLen) (hcb : k ≤ cb) (hcb' : cb ≤ maxLen) (hcm : k ≤ cm) (hcm' : cm ≤ maxLen)
    (hm : ms.length = k) (ox : Ok xs) (oy : Ok ys) (om : Ok ms) (sx : Sl w .u64 A xs) (sy : Sl w .u64 B ys) (sm : Sl w .u64 M ms) (hM : IsMod ms) (hX : IsEl xs ms) (hY : IsEl ys ms) :
    Calls Try.prog 6 #[.slice A k ca, .slice B k cb, .slice M k cm] w fun e w' => e = .returned (.bool true) ∧ Below w.heap.size w w' := by
  have hn' : k ≤ 9223372036854775807 := by unfold maxLen at hca'; omega
  have hx : xs.length = k := by rw [hX.1, hm]
  have hy : ys.length = k := by rw [hY.1, hm]
  have hk8 : k ≤ 8 := by have := hM.2.1; omega
  have hkm : k ≤ maxLen := by unfold maxLen; omega
  have hk16 : min k 16 = k := by omega
  have hk32 : min (k + k) 16 = k + k := by omega
  have hpar : val ms % 2 = 1 := by have h := hM.2.2.1; rw [getD_val om, pw_zero, Nat.div_one] at h; omega
  have D1 := Lib.hid (minto_ok A M k ca cm xs ms w hca hca' hcm hcm' hm ox om sx sm hM hX)
  have HM := Lib.hid hM
  have HX := Lib.hid hX
  have HY := Lib.hid hY
  have Hx := Lib.hid hx
  have Hy := Lib.hid hy
  have Hm := Lib.hid hm
  have Hp := Lib.hid hpar
  clear hx hy hm hX hY hM hpar
  go_enter Try.func6, Try.ntmps6
  go_wp2_with fail
  refine (D1.out).mono ?_
  rintro e w1 ⟨g1, x1, rfl, s1, l1, o1, r1, b1⟩
  have HX1 : Hid (IsEl x1 ms) := Lib.hid ⟨by rw [l1, Hm.out], by rw [r1]; exact Nat.mod_lt _ (by have := HM.out.2.2.2; omega)⟩
  have R1 := Lib.hid r1
  clear l1 r1
  go_wp2_with fail
  refine (minto_ok B M k cb cm ys ms w1 hcb hcb' hcm hcm' Hm.out oy om (sy.bel b1) (sm.bel b1) HM.out HY.out).mono ?_
  rintro e w2 ⟨g2, x2, rfl, s2, l2, o2, r2, b2⟩
  have HX2 : Hid (IsEl x2 ms) := Lib.hid ⟨by rw [l2, Hm.out], by rw [r2]; exact Nat.mod_lt _ (by have := HM.out.2.2.2; omega)⟩
  have R2 := Lib.hid r2
  have c2 := b1.trans (b2.mono b1.size)
  have s1 := s1.bel b2
  clear l2 r2
  go_wp2_with fail
  refine (mmul_ok _ _ M k k k cm x1 x2 ms w2 (Nat.le_refl _) hkm (Nat.le_refl _) hkm hcm hcm' Hm.out o1 o2 om s1 s2 (sm.bel c2) HM.out HX1.out HX2.out).mono ?_
  rintro e w3 ⟨g3, x3, rfl, s3, l3, o3, r3, b3⟩
  have HX3 : Hid (IsEl x3 ms) := Lib.hid ⟨by rw [l3, Hm.out], r3.1⟩
  have R3 := Lib.hid r3
  have c3 := c2.trans (b3.mono c2.size)
  have s1 := s1.bel b3
  clear l3 r3 s2
  go_wp2_with fail
  refine (mfrom_ok _ M k k cm x3 ms w3 (Nat.le_refl _) hkm hcm hcm' Hm.out o3 om s3 (sm.bel c3) HM.out HX3.out).mono ?_
  rintro e w4 ⟨g4, x4, rfl, s4, l4, o4, r4, b4⟩
  have L4 := Lib.hid l4
  have R4 := Lib.hid (back_mul Hp.out R1.out R2.out R3.out r4)
  have c4 := c3.trans (b4.mono c3.size)
  have s1 := s1.bel b4
  clear l4 r4 s3
  go_wp2_with fail
  refine (mul_any A B k ca k cb k k xs ys w4 hca hca' hcb hcb' hk16 hk16 Hx.out Hy.out ox oy (sx.bel c4) (sy.bel c4)).mono ?_
  rintro e w5 ⟨g5, x5, rfl, s5, l5, o5, r5, b5⟩
  have L5 := Lib.hid l5
  have R5 := Lib.hid r5
  have c5 := c4.trans (b5.mono c4.size)
  have s1 := s1.bel b5
  have s4 := s4.bel b5
  clear l5 r5
  go_wp2_with fail
  refine (rem_any _ M (k + k) (k + k) k cm (k + k) k x5 ms w5 (Nat.le_refl _) (by unfold maxLen; omega) hcm hcm' hk32 hk16 L5.out Hm.out o5 om (Sl.of_own s5) (sm.bel c5) (by have := HM.out.2.2.2; omega)).mono ?_
  rintro e w6 ⟨g6, x6, rfl, s6, l6, o6, r6, b6⟩
  have E64 : Hid (x4 = x6) := Lib.hid (val_inj o4 o6 (by rw [l6, L4.out]) (by rw [R4.out, r6, R5.out]))
  have c6 := c5.trans (b6.mono c5.size)
  have s1 := s1.bel b6
  have s4 := s4.bel b6
  clear l6 r6 s5
  go_wp2_with fail
  refine (mfrom_ok _ M k k cm x1 ms w6 (Nat.le_refl _) hkm hcm hcm' Hm.out o1 om s1 (sm.bel c6) HM.out HX1.out).mono ?_
  rintro e w7 ⟨g7, x7, rfl, s7, l7, o7, r7, b7⟩
  have E7 : Hid (x7 = xs) := Lib.hid (val_inj o7 ox (by rw [l7, Hx.out]) (back_to Hp.out HX.out.2 R1.out r7))
  have c7 := c6.trans (b7.mono c6.size)
  have s4 := s4.bel b7
  have s6 := s6.bel b7
  clear l7 r7 s1
  go_wp2_with fail
  refine (mfrom_ok _ M k ca cm xs ms w7 hca hca' hcm hcm' Hm.out ox om (sx.bel c7) (sm.bel c7) HM.out HX.out).mono ?_
  rintro e w8 ⟨g8, x8, rfl, s8, l8, o8, r8, b8⟩
  have HX8 : Hid (IsEl x8 ms) := Lib.hid ⟨by rw [l8, Hm.out], r8.1⟩
  have R8 := Lib.hid r8
  have c8 := c7.trans (b8.mono c7.size)
  have s4 := s4.bel b8
  have s6 := s6.bel b8
  have s7 := s7.bel b8
  clear l8 r8
  go_wp2_with fail
  refine (minto_ok _ M k k cm x8 ms w8 (Nat.le_refl _) hkm hcm hcm' Hm.out o8 om s8 (sm.bel c8) HM.out HX8.out).mono ?_
  rintro e w9 ⟨g9, x9, rfl, s9, l9, o9, r9, b9⟩
  have E9 : Hid (x9 = xs) := Lib.hid (val_inj o9 ox (by rw [l9, Hx.out]) (back_from HX.out.2 R8.out r9))
  have c9 := c8.trans (b9.mono c8.size)
  have s4 := s4.bel b9
  have s6 := s6.bel b9
  have s7 := s7.bel b9
  have F1 := Lib.hid (same_any (some ⟨g4, 0, none⟩) (some ⟨g6, 0, none⟩) k k k x4 w9 hn' L4.out s4 (by rw [E64.out]; exact s6))
  clear l9 r9 s8
  go_wp2_with fail
  refine (alive2_any w9).mono ?_
  rintro e w' ⟨rfl, rfl⟩
  go_wp2_with fail
  refine (F1.out).mono ?_
  rintro e w10 ⟨rfl, b10⟩
  have c10 := c9.trans (b10.mono c9.size)
  go_wp2_with fail
  refine (same_any (some ⟨g7, 0, none⟩) A k k ca xs w10 hn' Hx.out (by rw [← E7.out]; exact s7.bel b10) (sx.bel c10)).mono ?_
  rintro e w11 ⟨rfl, b11⟩
  have c11 := c10.trans (b11.mono c10.size)
  have s9 := (s9.bel b10).bel b11
  go_wp2_with fail
  refine (same_any (some ⟨g9, 0, none⟩) A k k ca xs w11 hn' Hx.out (by rw [← E9.out]; exact s9) (sx.bel c11)).mono ?_
  rintro e w12 ⟨rfl, b12⟩
  have c12 := c11.trans (b12.mono c11.size)
  go_wp2_with fail
  go_ret
  exact ⟨rfl, c12⟩

set_option maxHeartbeats 1600000 in
theorem montBack_any (A B M : Option Addr) (n ca m cb k cm : Nat) (xs ys ms : List Nat) (w : World) (hca : n ≤ ca) (hca' : ca ≤ maxLen) (hcb : m ≤ cb) (hcb' : cb ≤ maxLen) (hcm : k ≤ cm) (hcm' : cm ≤ maxLen)
    (hx : xs.length = n) (hy : ys.length = m) (hm : ms.length = k) (ox : Ok xs) (oy : Ok ys) (om : Ok ms) (sx : Sl w .u64 A xs) (sy : Sl w .u64 B ys) (sm : Sl w .u64 M ms) :
    Calls Try.prog 6 #[.slice A n ca, .slice B m cb, .slice M k cm] w fun e w' => e = .returned (.bool true) ∧ Below w.heap.size w w' := by
  by_cases hX : IsMod ms ∧ IsEl xs ms
  · obtain ⟨hM, hX⟩ := hX
    by_cases hY : IsEl ys ms
    · obtain rfl : n = k := by rw [← hx, hX.1, hm]
      obtain rfl : m = n := by rw [← hy, hY.1, hm]
      exact montBack_ok A B M m ca cb cm xs ys ms w hca hca' hcb hcb' hcm hcm' hm ox oy om sx sy sm hM hX hY
    · obtain rfl : n = k := by rw [← hx, hX.1, hm]
      have hk8 : n ≤ 8 := by have := hM.2.1; omega
      have D1 := Lib.hid (minto_ok A M n ca cm xs ms w hca hca' hcm hcm' hm ox om sx sm hM hX)
      have D2 := Lib.hid (fun w' (b : Below w.heap.size w w') => minto_no B M m n cb cm ys ms w' hcb hcb' hcm hcm' hy hm oy om (sy.bel b) (sm.bel b) (fun h => hY h.2))
      clear hx hy hm hX hY hM
      go_enter Try.func6, Try.ntmps6
      go_wp2_with fail
      refine (D1.out).mono ?_
      rintro e w1 ⟨g1, x1, rfl, s1, l1, o1, r1, b1⟩
      clear l1 r1
      go_wp2_with fail
      refine (D2.out w1 b1).mono ?_
      rintro e w2 ⟨rfl, b2⟩
      have c2 := b1.trans (b2.mono b1.size)
      go_wp2_with fail
      refine (alive2_any w2).mono ?_
      rintro e w' ⟨rfl, rfl⟩
      go_wp2_with fail
      go_ret
      exact ⟨rfl, c2⟩
  · have D1 := Lib.hid (minto_no A M n k ca cm xs ms w hca hca' hcm hcm' hx hm ox om sx sm hX)
    by_cases hY : IsMod ms ∧ IsEl ys ms
    · obtain rfl : m = k := by rw [← hy, hY.2.1, hm]
      have hk8 : m ≤ 8 := by have := hY.1.2.1; omega
      have D2 := Lib.hid (fun w' (b : Below w.heap.size w w') => minto_ok B M m cb cm ys ms w' hcb hcb' hcm hcm' hm oy om (sy.bel b) (sm.bel b) hY.1 hY.2)
      clear hx hy hm hX hY
      go_enter Try.func6, Try.ntmps6
      go_wp2_with fail
      refine (D1.out).mono ?_
      rintro e w1 ⟨rfl, b1⟩
      go_wp2_with fail
      refine (D2.out w1 b1).mono ?_
      rintro e w2 ⟨g1, x1, rfl, s1, l1, o1, r1, b2⟩
      clear l1 r1
      have c2 := b1.trans (b2.mono b1.size)
      go_wp2_with fail
      refine (alive2_any w2).mono ?_
      rintro e w' ⟨rfl, rfl⟩
      go_wp2_with fail
      go_ret
      exact ⟨rfl, c2⟩
    · have D2 := Lib.hid (fun w' (b : Below w.heap.size w w') => minto_no B M m k cb cm ys ms w' hcb hcb' hcm hcm' hy hm oy om (sy.bel b) (sm.bel b) hY)
      clear hx hy hm hX hY
      go_enter Try.func6, Try.ntmps6
      go_wp2_with fail
      refine (D1.out).mono ?_
      rintro e w1 ⟨rfl, b1⟩
      go_wp2_with fail
      refine (D2.out w1 b1).mono ?_
      rintro e w2 ⟨rfl, b2⟩
      have c2 := b1.trans (b2.mono b1.size)
      go_wp2_with fail
      refine (alive2_any w2).mono ?_
      rintro e w' ⟨rfl, rfl⟩
      go_wp2_with fail
      go_ret
      exact ⟨rfl, c2⟩
end Go.Proofs.Ytfkpcmjmibbmbaa
