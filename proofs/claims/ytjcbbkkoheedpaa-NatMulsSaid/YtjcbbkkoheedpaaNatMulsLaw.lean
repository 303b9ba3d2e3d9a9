import Derived.Test.YtjcbbkkoheedpaaNatG
namespace Go.Proofs.Ytjcbbkkoheedpaa
open Go.RowKit
set_option linter.unusedVariables false

theorem take16 {n : Nat} {xs : List Nat} (h : xs.length = n) : (xs.take 16).length = min n 16 := by rw [List.length_take, h]; omega

set_option maxHeartbeats 800000 in
theorem natMuls_any (A B : Option Addr) (n c m d : Nat) (xs ys : List Nat) (w : World) (hn : n ≤ c) (hc : c ≤ maxLen) (hm : m ≤ d) (hd : d ≤ maxLen)
    (hx : xs.length = n) (hy : ys.length = m) (ox : Ok xs) (oy : Ok ys) (sx : Sl w .u64 A xs) (sy : Sl w .u64 B ys) :
    Calls Try.prog 5 #[.slice A n c, .slice B m d] w fun e w' => e = .returned (.bool true) ∧ Below w.heap.size w w' := by
  have hx' := take16 hx
  have hy' := take16 hy
  obtain ⟨na, hna⟩ : ∃ na, min n 16 = na := ⟨_, rfl⟩
  obtain ⟨ma, hma⟩ : ∃ ma, min m 16 = ma := ⟨_, rfl⟩
  have C1 := fun w (sx : Sl w .u64 A xs) (sy : Sl w .u64 B ys) => mul_any A B n c m d na ma _ _ w hn hc hm hd hna hma (hx'.trans hna) (hy'.trans hma) (ox.take 16) (oy.take 16) (sx.take 16) (sy.take 16)
  have C2 := fun w (sx : Sl w .u64 A xs) (sy : Sl w .u64 B ys) => rmul_any A B n c m d na ma _ _ w hn hc hm hd hna hma (hx'.trans hna) (hy'.trans hma) (ox.take 16) (oy.take 16) (sx.take 16) (sy.take 16)
  have hL : na + ma ≤ 32 := by omega
  generalize xs.take 16 = X at *
  generalize ys.take 16 = Y at *
  have D1 := Lib.hid C1
  have D2 := Lib.hid C2
  clear C1 C2 hx hy hx' hy' hna hma
  go_enter Try.func5, Try.ntmps5
  go_wp2_with fail
  refine (alive_any w).mono ?_
  rintro e w1 ⟨rfl, b1⟩
  have sx1 := sx.bel b1
  have sy1 := sy.bel b1
  go_wp2_with fail
  refine (D1.out w1 sx1 sy1).mono ?_
  rintro e w2 ⟨g2, z2, rfl, o2, l2, k2, v2, b2⟩
  have b12 := b1.trans (b2.mono b1.size)
  have L2 := Lib.hid l2
  have V2 := Lib.hid v2
  clear l2 v2
  go_wp2_with fail
  refine (D2.out w2 (sx.bel b12) (sy.bel b12)).mono ?_
  rintro e w3 ⟨g3, z3, rfl, o3, l3, k3, v3, b3⟩
  have b13 := b12.trans (b3.mono b12.size)
  obtain rfl : z2 = z3 := val_inj k2 k3 (L2.out.trans l3.symm) (V2.out.trans v3.symm)
  clear l3 v3
  go_wp2_with fail
  refine (same_any _ _ (na + ma) (na + ma) (na + ma) z2 w3 (by omega) L2.out ((Sl.of_own o2).bel b3) (Sl.of_own o3)).mono ?_
  rintro e w4 ⟨rfl, b4⟩
  have b14 := b13.trans (b4.mono b13.size)
  go_wp2_with fail
  go_ret
  exact ⟨rfl, b14⟩
end Go.Proofs.Ytjcbbkkoheedpaa
