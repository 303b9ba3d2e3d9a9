import Derived.Test.YtfkpcmjmibbmbaaMontI
namespace Go.Proofs.Ytfkpcmjmibbmbaa
open Go.RowKit
set_option linter.unusedVariables false

set_option maxHeartbeats 1600000 in
theorem montMoves_any (A M : Option Addr) (n ca k cm : Nat) (xs ms : List Nat) (w : World) (hca : n ≤ ca) (hca' : ca ≤ maxLen) (hcm : k ≤ cm) (hcm' : cm ≤ maxLen)
    (hx : xs.length = n) (hm : ms.length = k) (ox : Ok xs) (om : Ok ms) (sx : Sl w .u64 A xs) (sm : Sl w .u64 M ms) :
    Calls Try.prog 5 #[.slice A n ca, .slice M k cm] w fun e w' => e = .returned (.bool true) ∧ Below w.heap.size w w' := by
  have hn' : n ≤ 9223372036854775807 := by unfold maxLen at hca'; omega
  by_cases hh : IsMod ms ∧ IsEl xs ms
  · obtain ⟨hM, hX⟩ := hh
    obtain rfl : n = k := by rw [← hx, hX.1, hm]
    have hpar : val ms % 2 = 1 := by have h := hM.2.2.1; rw [getD_val om, pw_zero, Nat.div_one] at h; omega
    have D1 := Lib.hid (minto_ok A M n ca cm xs ms w hca hca' hcm hcm' hm ox om sx sm hM hX)
    have HM := Lib.hid hM
    have HX := Lib.hid hX
    have Hx := Lib.hid hx
    have Hm := Lib.hid hm
    have Hp := Lib.hid hpar
    clear hx hm hX hM hpar
    go_enter Try.func5, Try.ntmps5
    go_wp2_with fail
    refine (D1.out).mono ?_
    rintro e w1 ⟨g, zs, rfl, s1, l1, o1, r1, b1⟩
    have L1 := Lib.hid l1
    have R1 := Lib.hid r1
    clear l1 r1
    go_wp2_with fail
    refine (mfrom_ok A M n ca cm xs ms w1 hca hca' hcm hcm' Hm.out ox om (sx.bel b1) (sm.bel b1) HM.out HX.out).mono ?_
    rintro e w2 ⟨g2, us, rfl, s2, l2, o2, r2, b2⟩
    have L2 := Lib.hid l2
    have R2 := Lib.hid r2
    have b12 := b1.trans (b2.mono b1.size)
    clear l2 r2
    go_wp2_with fail
    refine (check_ok A A M n n n ca ca cm xs xs ms w2 hn' hn' hcm hcm' Hx.out Hx.out Hm.out ox ox om (sx.bel b12) (sx.bel b12) (sm.bel b12) HM.out HX.out HX.out).mono ?_
    rintro e w3 ⟨rfl, b3⟩
    have b13 := b12.trans (b3.mono b12.size)
    have s13 := s1.bel (b2.trans (b3.mono b2.size))
    have s23 := s2.bel b3
    clear s1 s2
    go_wp2_with fail
    refine (alive2_any w3).mono ?_
    rintro e w' ⟨rfl, rfl⟩
    go_wp2_with fail
    refine (rinto_any A M n ca cm xs ms w3 hca hca' hcm hcm' Hm.out ox om (sx.bel b13) (sm.bel b13) HM.out HX.out).mono ?_
    rintro e w4 ⟨A4, c4, vs, rfl, hc4, hc4', s4, l4, o4, r4, b4⟩
    have b14 := b13.trans (b4.mono b13.size)
    have s14 := s13.bel b4
    have s24 := s23.bel b4
    obtain rfl : vs = zs := val_inj o4 o1 (by rw [l4, L1.out]) (r4.trans R1.out.symm)
    have D2 := Lib.hid (lsame_ok (some ⟨g, 0, none⟩) A4 n n c4 vs w4 hn' l4 s14 s4)
    clear l4 r4 s13 s23
    go_wp2_with fail
    refine (D2.out).mono ?_
    rintro e w5 ⟨rfl, b5⟩
    have b15 := b14.trans (b5.mono b14.size)
    have s25 := s24.bel b5
    clear s24 s14 s4
    go_wp2_with fail
    refine (rfrom_any A M n ca cm xs ms w5 hca hca' hcm hcm' Hm.out ox om (sx.bel b15) (sm.bel b15) HM.out HX.out).mono ?_
    rintro e w6 ⟨A6, c6, ts, rfl, hc6, hc6', s6, l6, o6, r6, b6⟩
    have b16 := b15.trans (b6.mono b15.size)
    have s26 := s25.bel b6
    obtain rfl : ts = us := val_inj o6 o2 (by rw [l6, L2.out]) (r6.uniq Hp.out R2.out)
    have D3 := Lib.hid (lsame_ok (some ⟨g2, 0, none⟩) A6 n n c6 ts w6 hn' l6 s26 s6)
    clear l6 r6 s25
    go_wp2_with fail
    refine (D3.out).mono ?_
    rintro e w7 ⟨rfl, b7⟩
    have b17 := b16.trans (b7.mono b16.size)
    go_wp2_with fail
    go_ret
    exact ⟨rfl, b17⟩
  · have D1 := Lib.hid (minto_no A M n k ca cm xs ms w hca hca' hcm hcm' hx hm ox om sx sm hh)
    have D2 := Lib.hid (fun w' (b : Below w.heap.size w w') => mfrom_no A M n k ca cm xs ms w' hca hca' hcm hcm' hx hm ox om (sx.bel b) (sm.bel b) hh)
    have D3 := Lib.hid (fun w' (b : Below w.heap.size w w') => check_no A A M n n k ca ca cm xs xs ms w' hn' hn' hcm hcm' hx hx hm ox ox om (sx.bel b) (sx.bel b) (sm.bel b) (fun h => hh ⟨h.1, h.2.1⟩))
    clear hx hm hh
    go_enter Try.func5, Try.ntmps5
    go_wp2_with fail
    refine (D1.out).mono ?_
    rintro e w1 ⟨rfl, b1⟩
    go_wp2_with fail
    refine (D2.out w1 b1).mono ?_
    rintro e w2 ⟨rfl, b2⟩
    have b12 := b1.trans (b2.mono b1.size)
    go_wp2_with fail
    refine (D3.out w2 b12).mono ?_
    rintro e w3 ⟨rfl, b3⟩
    have b13 := b12.trans (b3.mono b12.size)
    go_wp2_with fail
    refine (alive2_any w3).mono ?_
    rintro e w' ⟨rfl, rfl⟩
    go_wp2_with fail
    refine (lsame_no none 0 0 w3).mono ?_
    rintro e w' ⟨rfl, rfl⟩
    go_wp2_with fail
    refine (lsame_no none 0 0 w3).mono ?_
    rintro e w' ⟨rfl, rfl⟩
    go_wp2_with fail
    go_ret
    exact ⟨rfl, b13⟩
end Go.Proofs.Ytfkpcmjmibbmbaa
