import Derived.Test.YtjcbbkkoheedpaaNatApp
namespace Go.Proofs.Ytjcbbkkoheedpaa
open Go.RowKit
set_option linter.unusedVariables false

set_option maxHeartbeats 1600000 in
theorem natRest_any (A B : Option Addr) (n c m d : Nat) (xs0 ys0 : List Nat) (w : World) (hn : n ≤ c) (hc : c ≤ maxLen) (hm : m ≤ d) (hd : d ≤ maxLen)
    (hx0 : xs0.length = n) (hy0 : ys0.length = m) (ox0 : Ok xs0) (oy0 : Ok ys0) (sx0 : Sl w .u64 A xs0) (sy0 : Sl w .u64 B ys0) :
    Calls Try.prog 10 #[.slice A n c, .slice B m d] w fun e w' => e = .returned (.bool true) ∧ Below w.heap.size w w' := by
  obtain ⟨p, hp⟩ : ∃ p, min n 7 = p := ⟨_, rfl⟩
  obtain ⟨q, hq⟩ : ∃ q, min m 7 = q := ⟨_, rfl⟩
  have hp7 : p ≤ 7 := by omega
  have hq7 : q ≤ 7 := by omega
  have hpc : p ≤ c := by omega
  have hqd : q ≤ d := by omega
  have hx : (xs0.take 7).length = p := by rw [List.length_take, hx0]; omega
  have hy : (ys0.take 7).length = q := by rw [List.length_take, hy0]; omega
  have ox := ox0.take 7
  have oy := oy0.take 7
  have sx := sx0.take 7
  have sy := sy0.take 7
  generalize xs0.take 7 = xs at *
  generalize ys0.take 7 = ys at *
  have K1 := Lib.hid (lcut_any A n c p 7 w hn hc (by decide) (by decide) (by simpa using hp))
  have K2 := Lib.hid (lcut_any B m d q 7 w hm hd (by decide) (by decide) (by simpa using hq))
  have Hx := Lib.hid hx
  have Hy := Lib.hid hy
  clear hx hy hx0 hy0 hp hq sx0 sy0 ox0 oy0
  by_cases h0 : val ys = 0
  · have C1 := Lib.hid (rem_zero A B p c q d p q ys w hpc hc hqd hd (by omega) (by omega) Hy.out oy sy h0)
    have hbz : (((bitLen (val ys) : Nat) : Int) == 0) = true := by rw [h0]; rfl
    clear h0
    go_enter Try.func10, Try.ntmps10
    go_wp2_with fail
    refine (K1.out).mono ?_
    rintro e w' ⟨rfl, rfl⟩
    go_wp2_with fail
    refine (K2.out).mono ?_
    rintro e w' ⟨rfl, rfl⟩
    go_wp2_with fail
    refine (C1.out).mono ?_
    rintro e w' ⟨rfl, rfl⟩
    go_wp2_with fail
    refine (alive_any w).mono ?_
    rintro e w1 ⟨rfl, b1⟩
    go_wp2_with fail
    refine (bits_any B q d q ys w1 hqd hd (by omega) Hy.out oy (sy.bel b1)).mono ?_
    rintro e w' ⟨rfl, rfl⟩
    go_wp2_with fail
    go_ret
    exact ⟨rfl, b1⟩
  · have hpos : 0 < val ys := by omega
    have hM := Nat.mod_lt (val xs) hpos
    have hML : val ys < pw q := by have := val_lt oy; rwa [Hy.out] at this
    have HM := Lib.hid hM
    have HML := Lib.hid hML
    clear h0 hM hML
    go_enter Try.func10, Try.ntmps10
    go_wp2_with fail
    refine (K1.out).mono ?_
    rintro e w' ⟨rfl, rfl⟩
    go_wp2_with fail
    refine (K2.out).mono ?_
    rintro e w' ⟨rfl, rfl⟩
    go_wp2_with fail
    refine (rem_any A B p c q d p q xs ys w hpc hc hqd hd (by omega) (by omega) Hx.out Hy.out ox oy sx sy hpos).mono ?_
    rintro e w1 ⟨g1, z1, rfl, s1, l1, k1, v1, b1⟩
    have L1 := Lib.hid l1
    have V1 := Lib.hid v1
    clear l1 v1
    go_wp2_with fail
    refine (add_any A B p c q d xs ys w1 hpc hc hqd hd (by rw [Hx.out]; omega) (by rw [Hy.out]; omega) ox oy (sx.bel b1) (sy.bel b1)).mono ?_
    rintro e w2 ⟨g2, z2, c2, rfl, o2, l2, k2, hc2, v2, b2⟩
    obtain ⟨t, ht⟩ : ∃ t, max (min p 16) (min q 16) = t := ⟨_, rfl⟩
    rw [ht] at l2 v2 ⊢
    have ht7 : t ≤ 7 := by omega
    have L2 := Lib.hid l2
    have V2 := Lib.hid v2
    have b12 := b1.trans (b2.mono b1.size)
    clear l2 v2 ht
    obtain ⟨i0, hi, hz0, hz1, hz2⟩ := info_parts info_u64
    have S2 : Sl (w2.alloc (.cells #[] 23)) .u64 (some ⟨g2, 0, none⟩) z2 := (Sl.of_own o2).bel ((Below.refl _ _).alloc (Nat.le_refl _) _)
    go_wp2_with (first | (at_builtin; refine wpList_append_own _ rfl (.tmp 42) (.tmp 43) 22 rfl w2.heap.size 23 i0 (.int .u64 0) 1 8 Try.underlying22 hi hz0 hz1 hz2 rfl (by decide) _ 0 (u64s []) rfl (own_empty _ _) ⟨g2, 0, none⟩ t t (u64s z2) rfl (by simp only [u64s, List.length_map, L2.out, Nat.mul_one]) (sl_news S2) (u64s_one _) (by unfold maxLen; omega) (by omega) (by simp) ?_; intro v3 w3 hown3 hgr3 hnil3; have b3 := below_own ((Below.refl w2.heap.size w2).alloc (Nat.le_refl _) (.cells #[] 23)) (own_empty w2 23) hgr3 (by simp) (Nat.le_refl _); obtain ⟨g3, cap3, rfl, hg3, hg3', hcap3, hcap3', own3⟩ := app_form0 (ne_nil _ _ _) hown3 hnil3; clear hnil3 hgr3 hown3) | (at_builtin; refine wpList_append_own _ rfl (.tmp 44) (.tmp 46) 22 rfl w2.heap.size 23 i0 (.int .u64 0) 1 8 Try.underlying22 hi hz0 hz1 hz2 rfl (by decide) _ t (u64s z2) rfl (own3.alloc _) ⟨w3.heap.size, 0, none⟩ 1 1 (u64s [c2]) rfl rfl (sl_news (sl_new w3 23 .u64 [c2])) (u64s_one _) (by unfold maxLen; omega) (by omega) (by have := b3.size; simp; omega) ?_; intro v4 w4 hown4 hgr4 hnil4; have b4 := below_own (b3.alloc b3.size (.cells #[.int .u64 (c2 : Int)] 23)) (own3.alloc _) hgr4 (by have := b3.size; simp; omega) (Nat.le_refl _); obtain ⟨g4, cap4, rfl, hg4, hg4', hcap4, hcap4', l4, s4⟩ := app_form (ne_nil _ _ _) hown4 hnil4; clear hnil4 hgr4 hown4))
    have hb24 : Below w.heap.size w w4 := b12.trans (b4.mono b12.size)
    have ok4 : Ok (z2 ++ [c2]) := k2.append (Ok.cons (by omega) Ok.nil)
    have hv4 : val (z2 ++ [c2]) = val xs + val ys := by
      have := V2.out
      rw [val_append, L2.out, val_cons, val_nil, Nat.mul_zero, Nat.add_zero]; exact this
    have L4 := Lib.hid l4
    have V4 := Lib.hid hv4
    have S1 : Hid (Sl w4 .u64 (some ⟨g1, 0, none⟩) z1) := Lib.hid ((s1.bel b2).bel b4)
    clear l4 hv4 i0 hi hz0 hz1 hz2 own3 S2 hcap3 b3 o2 hg3 hg4 hg3' hcap3' s1
    generalize z2 ++ [c2] = z4 at *
    refine (rem_any _ B (t + 1) cap4 q d (t + 1) q z4 ys w4 (by omega) hcap4' hqd hd (by omega) (by omega) L4.out Hy.out ok4 oy s4 (sy.bel hb24) hpos).mono ?_
    rintro e w5 ⟨g5, z5, rfl, s5, l5, k5, v5, b5⟩
    rw [V4.out, Nat.add_mod_right] at v5
    have L5 := Lib.hid l5
    have V5 := Lib.hid v5
    have hb05 := hb24.trans (b5.mono hb24.size)
    clear l5 v5
    go_wp2_with fail
    refine (mul_any A B p c q d p q xs ys w5 hpc hc hqd hd (by omega) (by omega) Hx.out Hy.out ox oy (sx.bel hb05) (sy.bel hb05)).mono ?_
    rintro e w6 ⟨g6, z6, rfl, o6, l6, k6, v6, b6⟩
    have L6 := Lib.hid l6
    have V6 := Lib.hid v6
    have hb06 := hb05.trans (b6.mono hb05.size)
    clear l6 v6
    go_wp2_with fail
    refine (rem_any _ B (p + q) _ q d (p + q) q z6 ys w6 (by omega) (by unfold maxLen; omega) hqd hd (by omega) (by omega) L6.out Hy.out k6 oy (Sl.of_own o6) (sy.bel hb06) hpos).mono ?_
    rintro e w7 ⟨g7, z7, rfl, s7, l7, k7, v7, b7⟩
    rw [V6.out, Nat.mul_mod_left] at v7
    have L7 := Lib.hid l7
    have V7 := Lib.hid v7
    have hb07 := hb06.trans (b7.mono hb06.size)
    have S17 := (((S1.out.bel b5).bel b6).bel b7)
    clear l7 v7 o6
    go_wp2_with fail
    refine (sub_any A _ p c q q xs z1 w7 hpc hc (Nat.le_refl _) (by unfold maxLen; omega) (by rw [Hx.out]; omega) (by rw [L1.out]; omega) ox k1 (sx.bel hb07) S17).mono ?_
    rintro e w8 ⟨g8, z8, c8, rfl, o8, l8, k8, hc8, v8, b8⟩
    obtain ⟨u, hu⟩ : ∃ u, max (min p 16) (min q 16) = u := ⟨_, rfl⟩
    rw [hu] at l8 v8 ⊢
    have hu7 : u ≤ 7 := by omega
    have hle : val xs % val ys ≤ val xs := Nat.mod_le _ _
    have hb8 := val_lt k8
    have hbx := val_lt ox
    have hpu : pw xs.length ≤ pw u := pw_le (by rw [Hx.out]; omega)
    rw [l8] at hb8
    rw [V1.out] at v8
    have hc80 : c8 = 0 := by
      have : c8 = 0 ∨ c8 = 1 := by omega
      rcases this with h | h
      · exact h
      · subst h; omega
    subst hc80
    have hv8 : val z8 = val xs - val xs % val ys := by omega
    have L8 := Lib.hid l8
    have V8 := Lib.hid hv8
    have hb08 := hb07.trans (b8.mono hb07.size)
    clear l8 v8 hv8 hb8 hbx hpu hle hu hc8
    go_wp2_with fail
    refine (rem_any _ B u _ q d u q z8 ys w8 (by omega) (by unfold maxLen; omega) hqd hd (by omega) (by omega) L8.out Hy.out k8 oy (Sl.of_own o8) (sy.bel hb08) hpos).mono ?_
    rintro e w9 ⟨g9, z9, rfl, s9, l9, k9, v9, b9⟩
    have hz9 : val z9 = 0 := by
      rw [v9, V8.out]
      have h1 := Nat.div_add_mod (val xs) (val ys)
      have h2 : val xs - val xs % val ys = val ys * (val xs / val ys) := by omega
      rw [h2, Nat.mul_mod_right]
    have L9 := Lib.hid l9
    have V9 := Lib.hid hz9
    have hb09 := hb08.trans (b9.mono hb08.size)
    clear l9 v9 hz9 o8
    go_wp2_with fail
    refine (alive_any w9).mono ?_
    rintro e wa ⟨rfl, ba⟩
    have hb0a := hb09.trans (ba.mono hb09.size)
    have T1 := ((S17.bel b8).bel b9).bel ba
    have T5 := ((((s5.bel b6).bel b7).bel b8).bel b9).bel ba
    have T7 := ((s7.bel b8).bel b9).bel ba
    have T9 := s9.bel ba
    have q1 : cmpN (val z1) (val ys) = -1 := cmpN_lt (by rw [V1.out]; exact HM.out)
    have q2 : cmpN (val z1) (val z5) = 0 := cmpN_eq (by rw [V1.out, V5.out])
    have q3 : bitLen (val z7) = 0 := by rw [V7.out]; rfl
    have q4 : bitLen (val z9) = 0 := by rw [V9.out]; rfl
    have Q1 := Lib.hid (q1 ▸ cmp_any (some ⟨g1, 0, none⟩) B q q q d z1 ys wa (Nat.le_refl _) (by unfold maxLen; omega) hqd hd (by rw [L1.out]; omega) (by rw [Hy.out]; omega) k1 oy T1 (sy.bel hb0a))
    have Q2 := Lib.hid (q2 ▸ cmp_any (some ⟨g1, 0, none⟩) (some ⟨g5, 0, none⟩) q q q q z1 z5 wa (Nat.le_refl _) (by unfold maxLen; omega) (Nat.le_refl _) (by unfold maxLen; omega) (by rw [L1.out]; omega) (by rw [L5.out]; omega) k1 k5 T1 T5)
    have Q3 := Lib.hid (q3 ▸ bits_any (some ⟨g7, 0, none⟩) q q q z7 wa (Nat.le_refl _) (by unfold maxLen; omega) (by omega) L7.out k7 T7)
    have Q4 := Lib.hid (q4 ▸ bits_any (some ⟨g9, 0, none⟩) q q q z9 wa (Nat.le_refl _) (by unfold maxLen; omega) (by omega) L9.out k9 T9)
    clear q1 q2 q3 q4
    go_wp2_with fail
    refine (Q1.out).mono ?_
    rintro e w' ⟨rfl, rfl⟩
    go_wp2_with fail
    refine (Q2.out).mono ?_
    rintro e w' ⟨rfl, rfl⟩
    go_wp2_with fail
    refine (Q3.out).mono ?_
    rintro e w' ⟨rfl, rfl⟩
    go_wp2_with fail
    refine (Q4.out).mono ?_
    rintro e w' ⟨rfl, rfl⟩
    go_wp2_with fail
    go_ret
    exact ⟨rfl, hb0a⟩
end Go.Proofs.Ytjcbbkkoheedpaa
