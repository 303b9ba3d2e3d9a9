import Derived.Test.YtjcbbkkoheedpaaNatH
namespace Go.Proofs.Ytjcbbkkoheedpaa
open Go.RowKit
set_option linter.unusedVariables false

theorem take16c {n : Nat} {xs : List Nat} (h : xs.length = n) : (xs.take 16).length = min n 16 := by rw [List.length_take, h]; omega

set_option maxHeartbeats 800000 in
theorem natCmps_any (A B : Option Addr) (n c m d : Nat) (xs ys : List Nat) (w : World) (hn : n ≤ c) (hc : c ≤ maxLen) (hm : m ≤ d) (hd : d ≤ maxLen)
    (hx : xs.length = n) (hy : ys.length = m) (ox : Ok xs) (oy : Ok ys) (sx : Sl w .u64 A xs) (sy : Sl w .u64 B ys) :
    Calls Try.prog 6 #[.slice A n c, .slice B m d] w fun e w' => e = .returned (.bool true) ∧ Below w.heap.size w w' := by
  have hx' := take16c hx
  have hy' := take16c hy
  have C1 := fun w (sx : Sl w .u64 A xs) (sy : Sl w .u64 B ys) => cmp_any A B n c m d _ _ w hn hc hm hd hx' hy' (ox.take 16) (oy.take 16) (sx.take 16) (sy.take 16)
  have C2 := fun w (sx : Sl w .u64 A xs) (sy : Sl w .u64 B ys) => rcmp_any A B n c m d _ _ _ _ _ w hn hc hm hd rfl rfl rfl hx' hy' (ox.take 16) (oy.take 16) (sx.take 16) (sy.take 16)
  have C3 := fun w (sx : Sl w .u64 A xs) => bits_any A n c _ _ w hn hc rfl hx' (ox.take 16) (sx.take 16)
  have C4 := fun w (sx : Sl w .u64 A xs) => rbits_any A n c _ _ w hn hc rfl hx' (ox.take 16) (sx.take 16)
  generalize xs.take 16 = X at *
  generalize ys.take 16 = Y at *
  generalize cmpN (val X) (val Y) = q at *
  generalize bitLen (val X) = r at *
  have D1 := Lib.hid C1
  have D2 := Lib.hid C2
  have D3 := Lib.hid C3
  have D4 := Lib.hid C4
  clear C1 C2 C3 C4 hx hy hx' hy'
  go_enter Try.func6, Try.ntmps6
  go_wp2_with fail
  refine (alive_any w).mono ?_
  rintro e w1 ⟨rfl, b1⟩
  have sx1 := sx.bel b1
  have sy1 := sy.bel b1
  go_wp2_with fail
  refine (D1.out w1 sx1 sy1).mono ?_
  rintro e w' ⟨rfl, rfl⟩
  go_wp2_with fail
  refine (D2.out w1 sx1 sy1).mono ?_
  rintro e w' ⟨rfl, rfl⟩
  go_wp2_with fail
  refine (D3.out w1 sx1).mono ?_
  rintro e w' ⟨rfl, rfl⟩
  go_wp2_with fail
  refine (D4.out w1 sx1).mono ?_
  rintro e w' ⟨rfl, rfl⟩
  go_wp2_with fail
  go_ret
  exact ⟨rfl, b1⟩
end Go.Proofs.Ytjcbbkkoheedpaa
