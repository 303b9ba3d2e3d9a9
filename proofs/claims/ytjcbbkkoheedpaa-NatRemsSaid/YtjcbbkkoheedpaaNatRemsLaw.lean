import Derived.Test.YtjcbbkkoheedpaaNatK
namespace Go.Proofs.Ytjcbbkkoheedpaa
open Go.RowKit
set_option linter.unusedVariables false

theorem take16r {n : Nat} {xs : List Nat} (h : xs.length = n) : (xs.take 16).length = min n 16 := by rw [List.length_take, h]; omega

set_option maxHeartbeats 800000 in
theorem natRems_any (A B : Option Addr) (n c m d : Nat) (xs ys : List Nat) (w : World) (hn : n ≤ c) (hc : c ≤ maxLen) (hm : m ≤ d) (hd : d ≤ maxLen)
    (hx : xs.length = n) (hy : ys.length = m) (ox : Ok xs) (oy : Ok ys) (sx : Sl w .u64 A xs) (sy : Sl w .u64 B ys) :
    Calls Try.prog 7 #[.slice A n c, .slice B m d] w fun e w' => e = .returned (.bool true) ∧ Below w.heap.size w w' := by
  have hx' := take16r hx
  have hy' := take16r hy
  have C4 := fun w (sy : Sl w .u64 B ys) => rbits_any B m d _ _ w hm hd rfl hy' (oy.take 16) (sy.take 16)
  by_cases h0 : val (ys.take 16) = 0
  · have C1 := fun w (sy : Sl w .u64 B ys) => rem_zero A B n c m d _ _ _ w hn hc hm hd rfl rfl hy' (oy.take 16) (sy.take 16) h0
    have hbz : (((bitLen (val (ys.take 16)) : Nat) : Int) == 0) = true := by rw [h0]; rfl
    have D1 := Lib.hid C1
    have D4 := Lib.hid C4
    clear C1 C4 hx hy hx' hy' h0
    go_enter Try.func7, Try.ntmps7
    go_wp2_with fail
    refine (D1.out w sy).mono ?_
    rintro e w' ⟨rfl, rfl⟩
    go_wp2_with fail
    refine (D4.out w sy).mono ?_
    rintro e w' ⟨rfl, rfl⟩
    go_wp2_with fail
    refine (alive_any w).mono ?_
    rintro e w1 ⟨rfl, b1⟩
    go_wp2_with fail
    go_ret
    exact ⟨rfl, b1⟩
  · obtain ⟨L, hL⟩ : ∃ L, min m 16 = L := ⟨_, rfl⟩
    have hL1 : L ≤ 16 := by omega
    rw [hL] at hy'
    have C1 := fun w (sx : Sl w .u64 A xs) (sy : Sl w .u64 B ys) => rem_any A B n c m d _ L _ _ w hn hc hm hd rfl hL hx' hy' (ox.take 16) (oy.take 16) (sx.take 16) (sy.take 16) (Nat.pos_of_ne_zero h0)
    have C2 := fun w (sx : Sl w .u64 A xs) (sy : Sl w .u64 B ys) => rrem_any A B n c m d _ L _ _ w hn hc hm hd rfl hL hx' hy' (ox.take 16) (oy.take 16) (sx.take 16) (sy.take 16) (Nat.pos_of_ne_zero h0)
    have hbz : (((bitLen (val (ys.take 16)) : Nat) : Int) == 0) = false := by have := bitLen_pos h0; simp; omega
    generalize val (xs.take 16) % val (ys.take 16) = V at *
    have D1 := Lib.hid C1
    have D2 := Lib.hid C2
    have D4 := Lib.hid C4
    clear C1 C2 C4 hx hy hx' hy' h0 hL
    go_enter Try.func7, Try.ntmps7
    go_wp2_with fail
    refine (D1.out w sx sy).mono ?_
    rintro e w1 ⟨g1, z1, rfl, s1, l1, k1, v1, b1⟩
    have L1 := Lib.hid l1
    have V1 := Lib.hid v1
    clear l1 v1
    go_wp2_with fail
    refine (D4.out w1 (sy.bel b1)).mono ?_
    rintro e w' ⟨rfl, rfl⟩
    go_wp2_with fail
    refine (alive_any w1).mono ?_
    rintro e w2 ⟨rfl, b2⟩
    have b12 := b1.trans (b2.mono b1.size)
    go_wp2_with fail
    refine (D2.out w2 (sx.bel b12) (sy.bel b12)).mono ?_
    rintro e w3 ⟨g3, c3, z3, rfl, hc3, hc3', s3, l3, k3, v3, b3⟩
    have b13 := b12.trans (b3.mono b12.size)
    obtain rfl : z1 = z3 := val_inj k1 k3 (L1.out.trans l3.symm) (V1.out.trans v3.symm)
    clear l3 v3
    go_wp2_with fail
    refine (same_any _ _ L _ _ z1 w3 (by omega) L1.out ((s1.bel b2).bel b3) s3).mono ?_
    rintro e w4 ⟨rfl, b4⟩
    have b14 := b13.trans (b4.mono b13.size)
    go_wp2_with fail
    go_ret
    exact ⟨rfl, b14⟩
end Go.Proofs.Ytjcbbkkoheedpaa
