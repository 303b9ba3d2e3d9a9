import Derived.Test.YtjcbbkkoheedpaaNatPutF
namespace Go.Proofs.Ytjcbbkkoheedpaa
open Go.RowKit
set_option linter.unusedVariables false

set_option maxHeartbeats 1000000 in
theorem natBytes_any (A : Option Addr) (n c : Nat) (xs : List Nat) (s : ByteArray) (w : World) (hn : n ≤ c) (hc : c ≤ maxLen) (hx : xs.length = n) (ox : Ok xs) (sx : Sl w .u64 A xs) (hs : s.size ≤ maxLen) :
    Calls Try.prog 4 #[.slice A n c, .string s] w fun e w' => e = .returned (.bool true) ∧ Below w.heap.size w w' := by
  have hx' : (xs.take 16).length = min n 16 := by rw [List.length_take, hx, Nat.min_comm]
  obtain ⟨na, hna⟩ : ∃ na, min n 16 = na := ⟨_, rfl⟩
  rw [hna] at hx'
  have C1 := fun w (sx : Sl w .u64 A xs) => put_any A n c na (xs.take 16) w hn hc hna hx' (ox.take 16) (sx.take 16)
  have C2 := fun w (sx : Sl w .u64 A xs) => rput_any A n c na (xs.take 16) w hn hc hna hx' (ox.take 16) (sx.take 16)
  generalize xs.take 16 = X at *
  have D1 := Lib.hid C1
  have D2 := Lib.hid C2
  clear C1 C2 hx hx' hna
  by_cases hg : s.size % 8 = 0 ∧ s.size ≤ 128
  · obtain ⟨k, hk⟩ : ∃ k, s.size / 8 = k := ⟨_, rfl⟩
    have hl : s.size = 8 * k := by omega
    have E1 := Lib.hid (fun W => get_any s k W hl (by omega))
    have E2 := Lib.hid (fun W => rget_any s k W hl (by omega))
    have lG := GL_length (bytesN s) k (8 * k)
    have hk16 : k ≤ 16 := by omega
    clear hg hs hk hl
    generalize GL (bytesN s) k (8 * k) = G at *
    go_enter Try.func4, Try.ntmps4
    go_wp2_with fail
    refine (E1.out _).mono ?_
    rintro e w1 ⟨g1, rfl, o1, b1⟩
    go_wp2_with fail
    refine (E2.out _).mono ?_
    rintro e w2 ⟨g2, rfl, o2, b2⟩
    have bb := b1.trans (b2.mono b1.size)
    have s1 : Sl w2 .u64 _ G := (Sl.of_own o1).bel b2
    have s2 : Sl w2 .u64 _ G := Sl.of_own o2
    have sxa := sx.bel bb
    go_wp2_with fail
    refine (alive_any _).mono ?_
    rintro e w3 ⟨rfl, b3⟩
    have bb3 := bb.trans (b3.mono bb.size)
    go_wp2_with fail
    refine (D1.out _ (sx.bel bb3)).mono ?_
    rintro e w4 ⟨rfl, b4⟩
    have bb4 := bb3.trans (b4.mono bb3.size)
    go_wp2_with fail
    refine (D2.out _ (sx.bel bb4)).mono ?_
    rintro e w5 ⟨rfl, b5⟩
    have bb5 := bb4.trans (b5.mono bb4.size)
    generalize strN (PL X na (8 * na)) = t at *
    have b345 := b3.trans ((b4.trans (b5.mono b4.size)).mono b3.size)
    go_wp2_with fail
    refine (same_any _ _ k k k G _ (by omega) lG (s1.bel b345) (s2.bel b345)).mono ?_
    rintro e w6 ⟨rfl, b6⟩
    go_wp2_with fail
    go_ret
    exact ⟨rfl, bb5.trans (b6.mono bb5.size)⟩
  · have E1 := Lib.hid (fun W => get_no s W (by omega) hs)
    have E2 := Lib.hid (fun W => rget_no s W (by omega) hs)
    clear hg hs
    go_enter Try.func4, Try.ntmps4
    go_wp2_with fail
    refine (E1.out _).mono ?_
    rintro e w1 ⟨rfl, rfl⟩
    go_wp2_with fail
    refine (E2.out _).mono ?_
    rintro e w2 ⟨rfl, rfl⟩
    have bb := Below.refl w2.heap.size w2
    have sxa := sx.bel bb
    go_wp2_with fail
    refine (alive_any _).mono ?_
    rintro e w3 ⟨rfl, b3⟩
    have bb3 := bb.trans (b3.mono bb.size)
    go_wp2_with fail
    refine (D1.out _ (sx.bel bb3)).mono ?_
    rintro e w4 ⟨rfl, b4⟩
    have bb4 := bb3.trans (b4.mono bb3.size)
    go_wp2_with fail
    refine (D2.out _ (sx.bel bb4)).mono ?_
    rintro e w5 ⟨rfl, b5⟩
    have bb5 := bb4.trans (b5.mono bb4.size)
    generalize strN (PL X na (8 * na)) = t at *
    have b345 := b3.trans ((b4.trans (b5.mono b4.size)).mono b3.size)
    go_wp2_with fail
    refine (same_any _ _ 0 0 0 [] _ (by omega) rfl (Sl.nil _ _ _) (Sl.nil _ _ _)).mono ?_
    rintro e w6 ⟨rfl, b6⟩
    go_wp2_with fail
    go_ret
    exact ⟨rfl, bb5.trans (b6.mono bb5.size)⟩
end Go.Proofs.Ytjcbbkkoheedpaa
