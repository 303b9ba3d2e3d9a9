import Derived.Test.YtfkpcmjmibbmbaaMontPowN
namespace Go.Proofs.Ytfkpcmjmibbmbaa
open Go.RowKit Go.Shelf
set_option linter.unusedVariables false

theorem adds_pow {X S T M x y : Nat} (hx : x = X ^ S % M) (hy : y = X ^ T % M) : x * y % M = X ^ (S + T) % M := by
  rw [hx, hy, ← Nat.mul_mod, ← Nat.pow_add]
theorem muls_pow {X Y S M x u ab v : Nat} (hx : x = X ^ S % M) (hu : u = Y ^ S % M) (hab : ab = X * Y % M) (hv : v = ab ^ S % M) : v = x * u % M := by
  rw [hx, hu, ← Nat.mul_mod, hv, hab, ← Nat.mul_pow, ← Nat.pow_mod]
theorem own1 (W : World) (S : Nat) : Own (W.alloc (.cells #[.int .u64 (S : Int)] 22)) W.heap.size 22 .u64 [S] := Own.new W 22 .u64 [S]
theorem pow1_ok (A M : Option Addr) (S k ca cm : Nat) (xs ms : List Nat) (W : World) (hS : S < 18446744073709551616) (hca : k ≤ ca) (hca' : ca ≤ maxLen) (hcm : k ≤ cm) (hcm' : cm ≤ maxLen)
    (hm : ms.length = k) (ox : Ok xs) (om : Ok ms) (sx : Sl W .u64 A xs) (sm : Sl W .u64 M ms) (hM : IsMod ms) (hX : IsEl xs ms) :
    Calls Try.prog 23 #[.slice A k ca, .slice (some ⟨W.heap.size, 0, none⟩) 1 1, .slice M k cm] (W.alloc (.cells #[.int .u64 (S : Int)] 22)) (ElPost k (fun v => v = val xs ^ S % val ms) W) := by
  have hb := (Below.refl W.heap.size W).alloc (Nat.le_refl _) (.cells #[.int .u64 (S : Int)] 22)
  refine (mpow_ok A (some ⟨W.heap.size, 0, none⟩) M k 1 ca 1 cm xs [S] ms _ hca hca' (Nat.le_refl _) (by unfold maxLen; omega) hcm hcm' (by omega) hm rfl ox (Ok.cons hS Ok.nil) om (sx.bel hb) (Sl.of_own (own1 W S)) (sm.bel hb) hM hX).mono ?_
  rintro e w' ⟨g, zs, rfl, s, l, o, r, b⟩
  refine ⟨g, zs, rfl, s, l, o, ?_, hb.trans (b.mono hb.size)⟩
  rw [r]; simp [val]
theorem pow1_no (A M : Option Addr) (S n k ca cm : Nat) (xs ms : List Nat) (W : World) (hca : n ≤ ca) (hca' : ca ≤ maxLen) (hcm : k ≤ cm) (hcm' : cm ≤ maxLen)
    (hx : xs.length = n) (hm : ms.length = k) (ox : Ok xs) (om : Ok ms) (sx : Sl W .u64 A xs) (sm : Sl W .u64 M ms) (hno : ¬ (IsMod ms ∧ IsEl xs ms)) :
    Calls Try.prog 23 #[.slice A n ca, .slice (some ⟨W.heap.size, 0, none⟩) 1 1, .slice M k cm] (W.alloc (.cells #[.int .u64 (S : Int)] 22)) (ErrPost W) := by
  have hb := (Below.refl W.heap.size W).alloc (Nat.le_refl _) (.cells #[.int .u64 (S : Int)] 22)
  refine (mpow_no A (some ⟨W.heap.size, 0, none⟩) M n 1 k ca 1 cm xs ms _ hca hca' hcm hcm' hx hm ox om (sx.bel hb) (sm.bel hb) (fun h => hno ⟨h.1, h.2.1⟩)).mono ?_
  rintro e w' ⟨rfl, b⟩
  exact ⟨rfl, hb.trans (b.mono hb.size)⟩

set_option maxHeartbeats 4000000 in
set_option maxRecDepth 100000 in
theorem montAdds_ok (A B M : Option Addr) (k ca p cb cm s0 t0 : Nat) (xs ys ms : List Nat) (w : World) (hca : k ≤ ca) (hca' : ca ≤ maxLen) (hcb : p ≤ cb) (hcb' : cb ≤ maxLen) (hcm : k ≤ cm) (hcm' : cm ≤ maxLen)
    (hs0 : s0 < 18446744073709551616) (ht0 : t0 < 18446744073709551616) (hm : ms.length = k) (hy : ys.length = p) (ox : Ok xs) (oy : Ok ys) (om : Ok ms) (sx : Sl w .u64 A xs) (sy : Sl w .u64 B ys) (sm : Sl w .u64 M ms) (hM : IsMod ms) (hX : IsEl xs ms) :
    Calls Try.prog 8 #[.slice A k ca, .slice B p cb, .slice M k cm, .int .u64 (s0 : Int), .int .u64 (t0 : Int)] w fun e w' => e = .returned (.bool true) ∧ Below w.heap.size w w' := by
  have hn' : k ≤ 9223372036854775807 := by unfold maxLen at hca'; omega
  have hp' : p ≤ 9223372036854775807 := by unfold maxLen at hcb'; omega
  have hx : xs.length = k := by rw [hX.1, hm]
  have hk8 : k ≤ 8 := by have := hM.2.1; omega
  have hkm : k ≤ maxLen := by unfold maxLen; omega
  have hk16 : min k 16 = k := by omega
  have hk32 : min (k + k) 16 = k + k := by omega
  have hpos : 0 < val ms := by have := hM.2.2.2; omega
  obtain ⟨S, hS⟩ : ∃ S, s0 / 2 = S := ⟨_, rfl⟩
  obtain ⟨T, hT⟩ : ∃ T, t0 / 2 = T := ⟨_, rfl⟩
  have e1 : (s0 : Int) / 2 ^ 1 = (S : Int) := by omega
  have e1' : (s0 : Int) / 2 = (S : Int) := by omega
  have e2 : (t0 : Int) / 2 ^ 1 = (T : Int) := by omega
  have e2' : (t0 : Int) / 2 = (T : Int) := by omega
  have hSl : S < 9223372036854775808 := by omega
  have hTl : T < 9223372036854775808 := by omega
  obtain ⟨U, hU⟩ : ∃ U, S + T = U := ⟨_, rfl⟩
  have e3 : IntKind.u64.wrap ((S : Int) + (T : Int)) = (U : Int) := by rw [IntKind.wrap_u64]; omega
  have D1 := Lib.hid (pow1_ok A M S k ca cm xs ms w (by omega) hca hca' hcm hcm' hm ox om sx sm hM hX)
  have HM := Lib.hid hM
  have HX := Lib.hid hX
  have Hx := Lib.hid hx
  have Hm := Lib.hid hm
  have Hy := Lib.hid hy
  have HU := Lib.hid hU
  have HST := Lib.hid (And.intro hSl hTl)
  clear hx hy hm hX hM hU hS hT hSl hTl hs0 ht0
  go_enter Try.func8, Try.ntmps8
  go_wp2_with fail
  refine (D1.out).mono ?_
  rintro e w1 ⟨g1, x1, rfl, s1, l1, o1, r1, b1⟩
  have L1 := Lib.hid l1
  have R1 := Lib.hid r1
  clear l1 r1 D1
  go_wp2_with fail
  refine (pow1_ok A M T k ca cm xs ms w1 (by have := HST.out.2; omega) hca hca' hcm hcm' Hm.out ox om (sx.bel b1) (sm.bel b1) HM.out HX.out).mono ?_
  rintro e w2 ⟨g2, x2, rfl, s2, l2, o2, r2, b2⟩
  have c2 := b1.trans (b2.mono b1.size)
  have s1 := s1.bel b2
  have L2 := Lib.hid l2
  have R2 := Lib.hid r2
  clear l2 r2
  go_wp2_with fail
  refine (pow1_ok A M U k ca cm xs ms w2 (by have := HST.out; have := HU.out; omega) hca hca' hcm hcm' Hm.out ox om (sx.bel c2) (sm.bel c2) HM.out HX.out).mono ?_
  rintro e w3 ⟨g3, x3, rfl, s3, l3, o3, r3, b3⟩
  have c3 := c2.trans (b3.mono c2.size)
  have s1 := s1.bel b3
  have s2 := s2.bel b3
  have L3 := Lib.hid l3
  have R3 := Lib.hid r3
  clear l3 r3
  go_wp2_with fail
  refine (mul_any _ _ k k k k k k x1 x2 w3 (Nat.le_refl _) hkm (Nat.le_refl _) hkm hk16 hk16 L1.out L2.out o1 o2 s1 s2).mono ?_
  rintro e w4 ⟨g4, x4, rfl, s4, l4, o4, r4, b4⟩
  have c4 := c3.trans (b4.mono c3.size)
  have s1 := s1.bel b4
  have s3 := s3.bel b4
  have L4 := Lib.hid l4
  have R4 := Lib.hid r4
  clear l4 r4 s2
  go_wp2_with fail
  refine (rem_any _ M (k + k) (k + k) k cm (k + k) k x4 ms w4 (Nat.le_refl _) (by unfold maxLen; omega) hcm hcm' hk32 hk16 L4.out Hm.out o4 om (Sl.of_own s4) (sm.bel c4) hpos).mono ?_
  rintro e w5 ⟨g5, x5, rfl, s5, l5, o5, r5, b5⟩
  have E53 : Hid (x5 = x3) := Lib.hid (val_inj o5 o3 (by rw [l5, L3.out]) (by rw [r5, R4.out, R3.out, ← HU.out]; exact adds_pow R1.out R2.out))
  have c5 := c4.trans (b5.mono c4.size)
  have s1 := s1.bel b5
  have s3 := s3.bel b5
  have L5 := Lib.hid l5
  have F1 := Lib.hid (same_any (some ⟨g5, 0, none⟩) (some ⟨g3, 0, none⟩) k k k x5 w5 hn' L5.out s5 (by rw [E53.out]; exact s3))
  clear l5 r5 s4 s5 s3
  go_wp2_with fail
  refine (F1.out).mono ?_
  rintro e w6 ⟨rfl, b6⟩
  have c6 := c5.trans (b6.mono c5.size)
  have s1 := s1.bel b6
  clear F1
  by_cases hY : IsEl ys ms
  · obtain rfl : p = k := by rw [← Hy.out, hY.1, Hm.out]
    have HY := Lib.hid hY
    clear hY
    go_wp2_with fail
    refine (pow1_ok B M S p cb cm ys ms w6 (by have := HST.out.1; omega) hcb hcb' hcm hcm' Hm.out oy om (sy.bel c6) (sm.bel c6) HM.out HY.out).mono ?_
    rintro e w7 ⟨g7, x7, rfl, s7, l7, o7, r7, b7⟩
    have c7 := c6.trans (b7.mono c6.size)
    have s1 := s1.bel b7
    have L7 := Lib.hid l7
    have R7 := Lib.hid r7
    clear l7 r7
    go_wp2_with fail
    refine (mul_any A B p ca p cb p p xs ys w7 hca hca' hcb hcb' hk16 hk16 Hx.out Hy.out ox oy (sx.bel c7) (sy.bel c7)).mono ?_
    rintro e w8 ⟨g8, x8, rfl, s8, l8, o8, r8, b8⟩
    have c8 := c7.trans (b8.mono c7.size)
    have s1 := s1.bel b8
    have s7 := s7.bel b8
    have L8 := Lib.hid l8
    have R8 := Lib.hid r8
    clear l8 r8
    go_wp2_with fail
    refine (rem_any _ M (p + p) (p + p) p cm (p + p) p x8 ms w8 (Nat.le_refl _) (by unfold maxLen; omega) hcm hcm' hk32 hk16 L8.out Hm.out o8 om (Sl.of_own s8) (sm.bel c8) hpos).mono ?_
    rintro e w9 ⟨g9, x9, rfl, s9, l9, o9, r9, b9⟩
    have c9 := c8.trans (b9.mono c8.size)
    have s1 := s1.bel b9
    have s7 := s7.bel b9
    have R9 := Lib.hid (r9.trans (by rw [R8.out]))
    have HX9 : Hid (IsEl x9 ms) := Lib.hid ⟨by rw [l9, Hm.out], by rw [r9]; exact Nat.mod_lt _ hpos⟩
    have L9 := Lib.hid l9
    clear l9 r9 s8
    go_wp2_with fail
    refine (pow1_ok _ M S p p cm x9 ms w9 (by have := HST.out.1; omega) (Nat.le_refl _) hkm hcm hcm' Hm.out o9 om s9 (sm.bel c9) HM.out HX9.out).mono ?_
    rintro e w10 ⟨g10, x10, rfl, s10, l10, o10, r10, b10⟩
    have c10 := c9.trans (b10.mono c9.size)
    have s1 := s1.bel b10
    have s7 := s7.bel b10
    have L10 := Lib.hid l10
    have R10 := Lib.hid r10
    clear l10 r10 s9
    go_wp2_with fail
    refine (mul_any _ _ p p p p p p x1 x7 w10 (Nat.le_refl _) hkm (Nat.le_refl _) hkm hk16 hk16 L1.out L7.out o1 o7 s1 s7).mono ?_
    rintro e w11 ⟨g11, x11, rfl, s11, l11, o11, r11, b11⟩
    have c11 := c10.trans (b11.mono c10.size)
    have s10 := s10.bel b11
    have L11 := Lib.hid l11
    have R11 := Lib.hid r11
    clear l11 r11 s1 s7
    go_wp2_with fail
    refine (rem_any _ M (p + p) (p + p) p cm (p + p) p x11 ms w11 (Nat.le_refl _) (by unfold maxLen; omega) hcm hcm' hk32 hk16 L11.out Hm.out o11 om (Sl.of_own s11) (sm.bel c11) hpos).mono ?_
    rintro e w12 ⟨g12, x12, rfl, s12, l12, o12, r12, b12⟩
    have c12 := c11.trans (b12.mono c11.size)
    have s10 := s10.bel b12
    have E12 : Hid (x10 = x12) := Lib.hid (val_inj o10 o12 (by rw [l12, L10.out]) (by rw [r12, R11.out]; exact muls_pow R1.out R7.out R9.out R10.out))
    have F1 := Lib.hid (same_any (some ⟨g10, 0, none⟩) (some ⟨g12, 0, none⟩) p p p x10 w12 hn' L10.out s10 (by rw [E12.out]; exact s12))
    clear l12 r12 s11 s12 s10
    go_wp2_with fail
    refine (alive2_any w12).mono ?_
    rintro e w' ⟨rfl, rfl⟩
    go_wp2_with fail
    refine (F1.out).mono ?_
    rintro e w13 ⟨rfl, b13⟩
    have c13 := c12.trans (b13.mono c12.size)
    go_wp2_with fail
    go_ret
    exact ⟨rfl, c13⟩
  · have D2 := Lib.hid (pow1_no B M S p k cb cm ys ms w6 hcb hcb' hcm hcm' Hy.out Hm.out oy om (sy.bel c6) (sm.bel c6) (fun h => hY h.2))
    have D3 := Lib.hid (fun w' (b : Below w.heap.size w w') => check_no B B M p p k cb cb cm ys ys ms w' hp' hp' hcm hcm' Hy.out Hy.out Hm.out oy oy om (sy.bel b) (sy.bel b) (sm.bel b) (fun h => hY h.2.1))
    clear hY
    go_wp2_with fail
    refine (D2.out).mono ?_
    rintro e w7 ⟨rfl, b7⟩
    have c7 := c6.trans (b7.mono c6.size)
    go_wp2_with fail
    refine (alive2_any w7).mono ?_
    rintro e w' ⟨rfl, rfl⟩
    go_wp2_with fail
    refine (D3.out w7 c7).mono ?_
    rintro e w8 ⟨rfl, b8⟩
    have c8 := c7.trans (b8.mono c7.size)
    go_wp2_with fail
    go_ret
    exact ⟨rfl, c8⟩

set_option maxHeartbeats 1600000 in
theorem montAdds_no (A B M : Option Addr) (n k ca p cb cm s0 t0 : Nat) (xs ys ms : List Nat) (w : World) (hca : n ≤ ca) (hca' : ca ≤ maxLen) (hcb : p ≤ cb) (hcb' : cb ≤ maxLen) (hcm : k ≤ cm) (hcm' : cm ≤ maxLen)
    (hs0 : s0 < 18446744073709551616) (ht0 : t0 < 18446744073709551616) (hx : xs.length = n) (hm : ms.length = k) (hy : ys.length = p) (ox : Ok xs) (oy : Ok ys) (om : Ok ms) (sx : Sl w .u64 A xs) (sy : Sl w .u64 B ys) (sm : Sl w .u64 M ms) (hno : ¬ (IsMod ms ∧ IsEl xs ms)) :
    Calls Try.prog 8 #[.slice A n ca, .slice B p cb, .slice M k cm, .int .u64 (s0 : Int), .int .u64 (t0 : Int)] w fun e w' => e = .returned (.bool true) ∧ Below w.heap.size w w' := by
  obtain ⟨S, hS⟩ : ∃ S, s0 / 2 = S := ⟨_, rfl⟩
  obtain ⟨T, hT⟩ : ∃ T, t0 / 2 = T := ⟨_, rfl⟩
  have e1 : (s0 : Int) / 2 ^ 1 = (S : Int) := by omega
  have e1' : (s0 : Int) / 2 = (S : Int) := by omega
  have e2 : (t0 : Int) / 2 ^ 1 = (T : Int) := by omega
  have e2' : (t0 : Int) / 2 = (T : Int) := by omega
  obtain ⟨U, hU⟩ : ∃ U, S + T = U := ⟨_, rfl⟩
  have e3 : IntKind.u64.wrap ((S : Int) + (T : Int)) = (U : Int) := by rw [IntKind.wrap_u64]; omega
  have D1 := Lib.hid (fun (V : Nat) w' (b : Below w.heap.size w w') => pow1_no A M V n k ca cm xs ms w' hca hca' hcm hcm' hx hm ox om (sx.bel b) (sm.bel b) hno)
  clear hx hy hm hno hU hS hT hs0 ht0
  go_enter Try.func8, Try.ntmps8
  go_wp2_with fail
  refine (D1.out S w (Below.refl _ _)).mono ?_
  rintro e w1 ⟨rfl, b1⟩
  go_wp2_with fail
  refine (D1.out T w1 b1).mono ?_
  rintro e w2 ⟨rfl, b2⟩
  have c2 := b1.trans (b2.mono b1.size)
  go_wp2_with fail
  refine (D1.out U w2 c2).mono ?_
  rintro e w3 ⟨rfl, b3⟩
  have c3 := c2.trans (b3.mono c2.size)
  go_wp2_with fail
  refine (alive2_any w3).mono ?_
  rintro e w' ⟨rfl, rfl⟩
  go_wp2_with fail
  go_ret
  exact ⟨rfl, c3⟩
theorem montAdds_any (A B M : Option Addr) (n ca p cb k cm s0 t0 : Nat) (xs ys ms : List Nat) (w : World) (hca : n ≤ ca) (hca' : ca ≤ maxLen) (hcb : p ≤ cb) (hcb' : cb ≤ maxLen) (hcm : k ≤ cm) (hcm' : cm ≤ maxLen)
    (hs0 : s0 < 18446744073709551616) (ht0 : t0 < 18446744073709551616) (hx : xs.length = n) (hy : ys.length = p) (hm : ms.length = k) (ox : Ok xs) (oy : Ok ys) (om : Ok ms) (sx : Sl w .u64 A xs) (sy : Sl w .u64 B ys) (sm : Sl w .u64 M ms) :
    Calls Try.prog 8 #[.slice A n ca, .slice B p cb, .slice M k cm, .int .u64 (s0 : Int), .int .u64 (t0 : Int)] w fun e w' => e = .returned (.bool true) ∧ Below w.heap.size w w' := by
  by_cases hh : IsMod ms ∧ IsEl xs ms
  · obtain rfl : n = k := by rw [← hx, hh.2.1, hm]
    exact montAdds_ok A B M n ca p cb cm s0 t0 xs ys ms w hca hca' hcb hcb' hcm hcm' hs0 ht0 hm hy ox oy om sx sy sm hh.1 hh.2
  · exact montAdds_no A B M n k ca p cb cm s0 t0 xs ys ms w hca hca' hcb hcb' hcm hcm' hs0 ht0 hx hm hy ox oy om sx sy sm hh
end Go.Proofs.Ytfkpcmjmibbmbaa
