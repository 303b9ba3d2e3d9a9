import Derived.Test.YtjcbbkkoheedpaaNatE
namespace Go.Proofs.Ytjcbbkkoheedpaa
open Go.RowKit
set_option linter.unusedVariables false

theorem slice_take {n : Nat} {xs : List Nat} (h : xs.length = n) : (xs.take 16).length = min n 16 := by rw [List.length_take, h]; omega

/-- Two answers of a sum with its carry are one. -/
theorem carry_uniq {L S c d : Nat} {zs us : List Nat} (hz : zs.length = L) (oz : Ok zs) (hu : us.length = L) (ou : Ok us) (hv : val zs + pw L * c = S) (hw : val us + pw L * d = S) : zs = us ∧ c = d := by
  have h1 := val_lt oz
  have h2 := val_lt ou
  rw [hz] at h1
  rw [hu] at h2
  have e : val zs = val us := by
    have e1 : (val zs + pw L * c) % pw L = val zs := by rw [Nat.add_mul_mod_self_left, Nat.mod_eq_of_lt h1]
    have e2 : (val us + pw L * d) % pw L = val us := by rw [Nat.add_mul_mod_self_left, Nat.mod_eq_of_lt h2]
    rw [hv] at e1; rw [hw] at e2; omega
  refine ⟨val_inj oz ou (by omega) e, ?_⟩
  have : pw L * c = pw L * d := by omega
  exact Nat.eq_of_mul_eq_mul_left (pw_pos L) this
theorem borrow_uniq {L X Y c d : Nat} {zs us : List Nat} (hz : zs.length = L) (oz : Ok zs) (hu : us.length = L) (ou : Ok us) (hv : val zs + Y = X + pw L * c) (hw : val us + Y = X + pw L * d) : zs = us ∧ c = d := by
  have h1 := val_lt oz
  have h2 := val_lt ou
  rw [hz] at h1
  rw [hu] at h2
  have e : c = d := by
    rcases Nat.lt_trichotomy c d with h | h | h
    · have := Nat.mul_le_mul_left (pw L) h
      rw [Nat.mul_succ] at this
      omega
    · exact h
    · have := Nat.mul_le_mul_left (pw L) h
      rw [Nat.mul_succ] at this
      omega
  subst e
  exact ⟨val_inj oz ou (by omega) (by omega), rfl⟩

set_option maxHeartbeats 800000 in
theorem natAdds_any (A B : Option Addr) (n c m d : Nat) (xs ys : List Nat) (w : World) (hn : n ≤ c) (hc : c ≤ maxLen) (hm : m ≤ d) (hd : d ≤ maxLen)
    (hx : xs.length = n) (hy : ys.length = m) (ox : Ok xs) (oy : Ok ys) (sx : Sl w .u64 A xs) (sy : Sl w .u64 B ys) :
    Calls Try.prog 3 #[.slice A n c, .slice B m d] w fun e w' => e = .returned (.bool true) ∧ Below w.heap.size w w' := by
  have hx' := slice_take hx
  have hy' := slice_take hy
  obtain ⟨L, hL⟩ : ∃ L, max (min n 16) (min m 16) = L := ⟨_, rfl⟩
  have hL1 : L ≤ 16 := by omega
  have C1 := fun w (sx : Sl w .u64 A xs) (sy : Sl w .u64 B ys) => hL ▸ add_any A B n c m d _ _ w hn hc hm hd hx' hy' (ox.take 16) (oy.take 16) (sx.take 16) (sy.take 16)
  have C2 := fun w (sx : Sl w .u64 A xs) (sy : Sl w .u64 B ys) => radd_any A B n c m d _ _ L _ _ w hn hc hm hd rfl rfl hL hx' hy' (ox.take 16) (oy.take 16) (sx.take 16) (sy.take 16)
  have C3 := fun w (sx : Sl w .u64 A xs) (sy : Sl w .u64 B ys) => hL ▸ sub_any A B n c m d _ _ w hn hc hm hd hx' hy' (ox.take 16) (oy.take 16) (sx.take 16) (sy.take 16)
  have C4 := fun w (sx : Sl w .u64 A xs) (sy : Sl w .u64 B ys) => rsub_any A B n c m d _ _ L _ _ w hn hc hm hd rfl rfl hL hx' hy' (ox.take 16) (oy.take 16) (sx.take 16) (sy.take 16)
  generalize xs.take 16 = X at *
  generalize ys.take 16 = Y at *
  have D1 := Lib.hid C1
  have D2 := Lib.hid C2
  have D3 := Lib.hid C3
  have D4 := Lib.hid C4
  clear C1 C2 C3 C4 hx hy hx' hy' hL
  go_enter Try.func3, Try.ntmps3
  go_wp2_with fail
  refine (D1.out w sx sy).mono ?_
  rintro e w1 ⟨g1, z1, c1, rfl, o1, l1, k1, hc1, v1, b1⟩
  have sx1 := sx.bel b1
  have sy1 := sy.bel b1
  have L1 := Lib.hid l1
  have V1 := Lib.hid v1
  clear l1 v1
  go_wp2_with fail
  refine (D2.out w1 sx1 sy1).mono ?_
  rintro e w2 ⟨g2, z2, c2, rfl, o2, l2, k2, hc2, v2, b2⟩
  obtain ⟨rfl, rfl⟩ := carry_uniq L1.out k1 l2 k2 V1.out v2
  clear l2 v2
  have b12 := b1.trans (b2.mono b1.size)
  have sx2 := sx.bel b12
  have sy2 := sy.bel b12
  go_wp2_with fail
  refine (D3.out w2 sx2 sy2).mono ?_
  rintro e w3 ⟨g3, z3, c3, rfl, o3, l3, k3, hc3, v3, b3⟩
  have b13 := b12.trans (b3.mono b12.size)
  have sx3 := sx.bel b13
  have sy3 := sy.bel b13
  have L3 := Lib.hid l3
  have V3 := Lib.hid v3
  clear l3 v3
  go_wp2_with fail
  refine (D4.out w3 sx3 sy3).mono ?_
  rintro e w4 ⟨g4, z4, c4, rfl, o4, l4, k4, hc4, v4, b4⟩
  obtain ⟨rfl, rfl⟩ := borrow_uniq L3.out k3 l4 k4 V3.out v4
  clear l4 v4
  have b14 := b13.trans (b4.mono b13.size)
  have s1 : Sl w4 .u64 _ z1 := (((Sl.of_own o1).bel b2).bel b3).bel b4
  have s2 : Sl w4 .u64 _ z1 := ((Sl.of_own o2).bel b3).bel b4
  have s3 : Sl w4 .u64 _ z3 := (Sl.of_own o3).bel b4
  have s4 : Sl w4 .u64 _ z3 := Sl.of_own o4
  go_wp2_with fail
  refine (alive_any w4).mono ?_
  rintro e w5 ⟨rfl, b5⟩
  go_wp2_with fail
  refine (same_any _ _ L L L z1 w5 (by omega) L1.out (s1.bel b5) (s2.bel b5)).mono ?_
  rintro e w6 ⟨rfl, b6⟩
  go_wp2_with fail
  refine (same_any _ _ L L L z3 w6 (by omega) L3.out ((s3.bel b5).bel b6) ((s4.bel b5).bel b6)).mono ?_
  rintro e w7 ⟨rfl, b7⟩
  have b15 := b14.trans (b5.mono b14.size)
  have b16 := b15.trans (b6.mono b15.size)
  have b17 := b16.trans (b7.mono b16.size)
  go_wp2_with fail
  go_ret
  exact ⟨rfl, b17⟩
end Go.Proofs.Ytjcbbkkoheedpaa
