import Derived.Test.YtfkpcmjmibbmbaaMontI
namespace Go.Proofs.Ytfkpcmjmibbmbaa
open Go.RowKit
set_option linter.unusedVariables false

set_option maxHeartbeats 1000000 in
theorem montMuls_any (A B M : Option Addr) (n ca m cb k cm : Nat) (xs ys ms : List Nat) (w : World) (hca : n ≤ ca) (hca' : ca ≤ maxLen) (hcb : m ≤ cb) (hcb' : cb ≤ maxLen) (hcm : k ≤ cm) (hcm' : cm ≤ maxLen)
    (hx : xs.length = n) (hy : ys.length = m) (hm : ms.length = k) (ox : Ok xs) (oy : Ok ys) (om : Ok ms) (sx : Sl w .u64 A xs) (sy : Sl w .u64 B ys) (sm : Sl w .u64 M ms) :
    Calls Try.prog 4 #[.slice A n ca, .slice B m cb, .slice M k cm] w fun e w' => e = .returned (.bool true) ∧ Below w.heap.size w w' := by
  have hn' : n ≤ 9223372036854775807 := by unfold maxLen at hca'; omega
  have hm' : m ≤ 9223372036854775807 := by unfold maxLen at hcb'; omega
  by_cases hh : IsMod ms ∧ IsEl xs ms ∧ IsEl ys ms
  · obtain ⟨hM, hX, hY⟩ := hh
    obtain rfl : n = k := by rw [← hx, hX.1, hm]
    obtain rfl : m = n := by rw [← hy, hY.1, hm]
    have hpar : val ms % 2 = 1 := by have h := hM.2.2.1; rw [getD_val om, pw_zero, Nat.div_one] at h; omega
    have D1 := Lib.hid (mmul_ok A B M m ca cb cm xs ys ms w hca hca' hcb hcb' hcm hcm' hm ox oy om sx sy sm hM hX hY)
    have HM := Lib.hid hM
    have HX := Lib.hid hX
    have HY := Lib.hid hY
    have Hx := Lib.hid hx
    have Hy := Lib.hid hy
    have Hm := Lib.hid hm
    have Hp := Lib.hid hpar
    clear hx hy hm hX hY hM hpar
    go_enter Try.func4, Try.ntmps4
    go_wp2_with fail
    refine (D1.out).mono ?_
    rintro e w1 ⟨g, zs, rfl, s1, l1, o1, r1, b1⟩
    have L1 := Lib.hid l1
    have R1 := Lib.hid r1
    clear l1 r1
    go_wp2_with fail
    refine (check_ok A B M m m m ca cb cm xs ys ms w1 hn' hm' hcm hcm' Hx.out Hy.out Hm.out ox oy om (sx.bel b1) (sy.bel b1) (sm.bel b1) HM.out HX.out HY.out).mono ?_
    rintro e w2 ⟨rfl, b2⟩
    have b12 := b1.trans (b2.mono b1.size)
    go_wp2_with fail
    refine (alive2_any w2).mono ?_
    rintro e w' ⟨rfl, rfl⟩
    go_wp2_with fail
    refine (rmmul_any A B M m ca cb cm xs ys ms w2 hca hca' hcb hcb' hcm hcm' Hm.out ox oy om (sx.bel b12) (sy.bel b12) (sm.bel b12) HM.out HX.out HY.out).mono ?_
    rintro e w3 ⟨A3, c3, vs, rfl, hc3, hc3', s3, l3, o3, r3, b3⟩
    have b13 := b12.trans (b3.mono b12.size)
    have s1' := s1.bel (b2.trans (b3.mono b2.size))
    obtain rfl : vs = zs := val_inj o3 o1 (by rw [l3, L1.out]) (r3.uniq Hp.out R1.out)
    have D2 := Lib.hid (lsame_ok (some ⟨g, 0, none⟩) A3 m m c3 vs w3 hm' l3 s1' s3)
    clear l3 r3
    go_wp2_with fail
    refine (D2.out).mono ?_
    rintro e w4 ⟨rfl, b4⟩
    have b14 := b13.trans (b4.mono b13.size)
    go_wp2_with fail
    go_ret
    exact ⟨rfl, b14⟩
  · have D1 := Lib.hid (mmul_no A B M n m k ca cb cm xs ys ms w hca hca' hcb hcb' hcm hcm' hx hy hm ox oy om sx sy sm hh)
    have D2 := Lib.hid (fun w' (b : Below w.heap.size w w') => check_no A B M n m k ca cb cm xs ys ms w' hn' hm' hcm hcm' hx hy hm ox oy om (sx.bel b) (sy.bel b) (sm.bel b) hh)
    clear hx hy hm hh
    go_enter Try.func4, Try.ntmps4
    go_wp2_with fail
    refine (D1.out).mono ?_
    rintro e w1 ⟨rfl, b1⟩
    go_wp2_with fail
    refine (D2.out w1 b1).mono ?_
    rintro e w2 ⟨rfl, b2⟩
    have b12 := b1.trans (b2.mono b1.size)
    go_wp2_with fail
    refine (alive2_any w2).mono ?_
    rintro e w' ⟨rfl, rfl⟩
    go_wp2_with fail
    refine (lsame_no none 0 0 w2).mono ?_
    rintro e w' ⟨rfl, rfl⟩
    go_wp2_with fail
    go_ret
    exact ⟨rfl, b12⟩
end Go.Proofs.Ytfkpcmjmibbmbaa
