import Derived.Test.YtjcbbkkoheedpaaNatPGM
namespace Go.Proofs.Ytjcbbkkoheedpaa
open Go.RowKit
set_option linter.unusedVariables false

/-- What is got of a text, and put again. -/
structure GotE (s : ByteArray) (k : Nat) (G : List Nat) : Prop where
  len : G.length = k
  ok : Ok G
  put : strN (PL G k (8 * k)) = s
theorem gotE (s : ByteArray) (k : Nat) (hl : s.size = 8 * k) : GotE s k (GL (bytesN s) k (8 * k)) where
  len := GL_length _ _ _
  ok := GL_ok (bytesN_bytes s) (by rw [bytesN_length]; omega)
  put := by rw [put_get (by rw [bytesN_length, hl]) (bytesN_bytes s), strN_bytesN]
set_option maxHeartbeats 4000000 in
theorem natBack_any (A B : Option Addr) (n c m d : Nat) (xs0 ys0 : List Nat) (s : ByteArray) (w : World) (hn : n ≤ c) (hc : c ≤ maxLen) (hm : m ≤ d) (hd : d ≤ maxLen)
    (hx0 : xs0.length = n) (hy0 : ys0.length = m) (ox0 : Ok xs0) (oy0 : Ok ys0) (sx0 : Sl w .u64 A xs0) (sy0 : Sl w .u64 B ys0) (hs : s.size ≤ maxLen) :
    Calls Try.prog 8 #[.slice A n c, .slice B m d, .string s] w fun e w' => e = .returned (.bool true) ∧ Below w.heap.size w w' := by
  obtain ⟨p, hp⟩ : ∃ p, min n 15 = p := ⟨_, rfl⟩
  obtain ⟨q, hq⟩ : ∃ q, min m 15 = q := ⟨_, rfl⟩
  have hp7 : p ≤ 15 := by omega
  have hq7 : q ≤ 15 := by omega
  have hpc : p ≤ c := by omega
  have hqd : q ≤ d := by omega
  have hx : (xs0.take 15).length = p := by rw [List.length_take, hx0]; omega
  have hy : (ys0.take 15).length = q := by rw [List.length_take, hy0]; omega
  have ox := ox0.take 15
  have oy := oy0.take 15
  have sx := sx0.take 15
  have sy := sy0.take 15
  generalize xs0.take 15 = xs at *
  generalize ys0.take 15 = ys at *
  have K1 := Lib.hid (lcut_any A n c p 15 w hn hc (by decide) (by decide) (by simpa using hp))
  have K2 := Lib.hid (lcut_any B m d q 15 w hm hd (by decide) (by decide) (by simpa using hq))
  have hPg : GL (bytesN (strN (PL xs p (8 * p)))) p (8 * p) = xs := by rw [bytesN_strN (PL_bytes _ _ _)]; exact get_put hx ox
  have hPs : (strN (PL xs p (8 * p))).size = 8 * p := by rw [strN_size, PL_length]
  have D1 := Lib.hid (fun W (sx : Sl W .u64 A xs) => put_any A p c p xs W hpc hc (by omega) hx ox sx)
  have D2 := Lib.hid (fun W => get_any (strN (PL xs p (8 * p))) p W hPs (by omega))
  rw [hPg] at D2
  clear hPg hPs
  generalize strN (PL xs p (8 * p)) = sp at *
  have Hx := Lib.hid hx
  have Hy := Lib.hid hy
  clear hx hy hx0 hy0 hp hq sx0 sy0 ox0 oy0
  go_enter Try.func8, Try.ntmps8
  go_wp2_with fail
  refine (K1.out).mono ?_
  rintro e w' ⟨rfl, rfl⟩
  go_wp2_with fail
  refine (K2.out).mono ?_
  rintro e w' ⟨rfl, rfl⟩
  go_wp2_with fail
  refine (add_any A B p c q d xs ys w hpc hc hqd hd (by rw [Hx.out]; omega) (by rw [Hy.out]; omega) ox oy sx sy).mono ?_
  rintro e w2 ⟨g2, z2, c2, rfl, o2, l2, k2, hc2, v2, b2⟩
  obtain ⟨t, ht⟩ : ∃ t, max (min p 16) (min q 16) = t := ⟨_, rfl⟩
  rw [ht] at l2 v2 ⊢
  have ht7 : t ≤ 15 := by omega
  have htp : p ≤ t := by omega
  have L2 := Lib.hid l2
  have V2 := Lib.hid v2
  clear l2 v2 ht
  obtain ⟨i0, hi, hz0, hz1, hz2⟩ := info_parts info_u64
  have S2 : Sl (w2.alloc (.cells #[] 23)) .u64 (some ⟨g2, 0, none⟩) z2 := (Sl.of_own o2).bel ((Below.refl _ _).alloc (Nat.le_refl _) _)
  go_wp2_with (first | (at_builtin; refine wpList_append_own _ rfl (.tmp 25) (.tmp 26) 22 rfl w2.heap.size 23 i0 (.int .u64 0) 1 8 Try.underlying22 hi hz0 hz1 hz2 rfl (by decide) _ 0 (u64s []) rfl (own_empty _ _) ⟨g2, 0, none⟩ t t (u64s z2) rfl (by simp only [u64s, List.length_map, L2.out, Nat.mul_one]) (sl_news S2) (u64s_one _) (by unfold maxLen; omega) (by omega) (by simp) ?_; intro v3 w3 hown3 hgr3 hnil3; have b3 := below_own ((Below.refl w2.heap.size w2).alloc (Nat.le_refl _) (.cells #[] 23)) (own_empty w2 23) hgr3 (by simp) (Nat.le_refl _); obtain ⟨g3, cap3, rfl, hg3, hg3', hcap3, hcap3', own3⟩ := app_form0 (ne_nil _ _ _) hown3 hnil3; clear hnil3 hgr3 hown3) | (at_builtin; refine wpList_append_own _ rfl (.tmp 27) (.tmp 29) 22 rfl w2.heap.size 23 i0 (.int .u64 0) 1 8 Try.underlying22 hi hz0 hz1 hz2 rfl (by decide) _ t (u64s z2) rfl (own3.alloc _) ⟨w3.heap.size, 0, none⟩ 1 1 (u64s [c2]) rfl rfl (sl_news (sl_new w3 23 .u64 [c2])) (u64s_one _) (by unfold maxLen; omega) (by omega) (by have := b3.size; simp; omega) ?_; intro v4 w4 hown4 hgr4 hnil4; have b4 := below_own (b3.alloc b3.size (.cells #[.int .u64 (c2 : Int)] 23)) (own3.alloc _) hgr4 (by have := b3.size; simp; omega) (Nat.le_refl _); obtain ⟨g4, cap4, rfl, hg4, hg4', hcap4, hcap4', l4, s4⟩ := app_form (ne_nil _ _ _) hown4 hnil4; clear hnil4 hgr4 hown4))
  have hb24 : Below w.heap.size w w4 := b2.trans (b4.mono b2.size)
  have ok4 : Ok (z2 ++ [c2]) := k2.append (Ok.cons (by omega) Ok.nil)
  have hv4 : val (z2 ++ [c2]) = val xs + val ys := by
    have := V2.out
    rw [val_append, L2.out, val_cons, val_nil, Nat.mul_zero, Nat.add_zero]; exact this
  have L4 := Lib.hid l4
  have V4 := Lib.hid hv4
  clear l4 hv4 i0 hi hz0 hz1 hz2 own3 S2 hcap3 b3 o2 hg3 hg4 hg3' hcap3'
  generalize z2 ++ [c2] = z4 at *
  refine (sub_any _ B (t + 1) cap4 q d z4 ys w4 (by omega) hcap4' hqd hd (by rw [L4.out]; omega) (by rw [Hy.out]; omega) ok4 oy s4 (sy.bel hb24)).mono ?_
  rintro e w5 ⟨g5, z5, c5, rfl, o5, l5, k5, hc5, v5, b5⟩
  obtain ⟨u, hu⟩ : ∃ u, max (min (t + 1) 16) (min q 16) = u := ⟨_, rfl⟩
  rw [hu] at l5 v5 ⊢
  have hu16 : u ≤ 16 := by omega
  rw [V4.out] at v5
  have hb5 := val_lt k5
  rw [l5] at hb5
  have hbx := val_lt ox
  have hpu : pw xs.length ≤ pw u := pw_le (by rw [Hx.out]; omega)
  have hc50 : c5 = 0 := by
    have : c5 = 0 ∨ c5 = 1 := by omega
    rcases this with h | h
    · exact h
    · subst h; omega
  subst hc50
  have hv5 : val z5 = val xs := by omega
  have L5 := Lib.hid l5
  have V5 := Lib.hid hv5
  have hb05 := hb24.trans (b5.mono hb24.size)
  clear l5 v5 hv5 hb5 hbx hpu hu hc5
  go_wp2_with fail
  refine (D1.out _ (sx.bel hb05)).mono ?_
  rintro e w6 ⟨rfl, b6⟩
  have hb06 := hb05.trans (b6.mono hb05.size)
  go_wp2_with fail
  refine (D2.out _).mono ?_
  rintro e w7 ⟨g7, rfl, o7, b7⟩
  have hb07 := hb06.trans (b7.mono hb06.size)
  clear D1 D2
  go_wp2_with fail
  by_cases hg : s.size % 8 = 0 ∧ s.size ≤ 128
  · obtain ⟨k, hk⟩ : ∃ k, s.size / 8 = k := ⟨_, rfl⟩
    have hl : s.size = 8 * k := by omega
    have hk16 : k ≤ 16 := by omega
    have GE := gotE s k hl
    refine (get_any s k _ hl (by omega)).mono ?_
    generalize GL (bytesN s) k (8 * k) = G at *
    clear hg hs hk hl
    rintro e w8 ⟨g8, rfl, o8, b8⟩
    have hb08 := hb07.trans (b8.mono hb07.size)
    have hcmp : cmpN (val z5) (val xs) = 0 := by rw [V5.out]; simp [cmpN]
    go_wp2_with fail
    refine (alive_any _).mono ?_
    rintro e w9 ⟨rfl, b9⟩
    have hb09 := hb08.trans (b9.mono hb08.size)
    have b79 := b8.trans (b9.mono b8.size)
    have b59 := b6.trans ((b7.trans (b79.mono b7.size)).mono b6.size)
    go_wp2_with fail
    refine (cmp_any _ A u u p c z5 xs w9 (Nat.le_refl _) (by unfold maxLen; omega) hpc hc (by rw [L5.out]; omega) (by rw [Hx.out]; omega) k5 ox ((Sl.of_own o5).bel b59) (sx.bel hb09)).mono ?_
    rw [hcmp]
    rintro e w' ⟨rfl, rfl⟩
    go_wp2_with fail
    refine (same_any _ A p p c xs w9 (by omega) Hx.out ((Sl.of_own o7).bel b79) (sx.bel hb09)).mono ?_
    rintro e w10 ⟨rfl, b10⟩
    have hb10 := hb09.trans (b10.mono hb09.size)
    go_wp2_with fail
    refine (put_any _ k k k G w10 (Nat.le_refl _) (by unfold maxLen; omega) (by omega) GE.len GE.ok ((Sl.of_own o8).bel (b9.trans (b10.mono b9.size)))).mono ?_
    rw [GE.put]
    rintro e w11 ⟨rfl, b11⟩
    go_wp2_with fail
    go_ret
    exact ⟨by simp, hb10.trans (b11.mono hb10.size)⟩
  · refine (get_no s _ (by omega) hs).mono ?_
    clear hg hs
    rintro e w8 ⟨rfl, rfl⟩
    have b8 := Below.refl w8.heap.size w8
    have hb08 := hb07
    have hcmp : cmpN (val z5) (val xs) = 0 := by rw [V5.out]; simp [cmpN]
    go_wp2_with fail
    refine (alive_any _).mono ?_
    rintro e w9 ⟨rfl, b9⟩
    have hb09 := hb08.trans (b9.mono hb08.size)
    have b79 := b8.trans (b9.mono b8.size)
    have b59 := b6.trans ((b7.trans (b79.mono b7.size)).mono b6.size)
    go_wp2_with fail
    refine (cmp_any _ A u u p c z5 xs w9 (Nat.le_refl _) (by unfold maxLen; omega) hpc hc (by rw [L5.out]; omega) (by rw [Hx.out]; omega) k5 ox ((Sl.of_own o5).bel b59) (sx.bel hb09)).mono ?_
    rw [hcmp]
    rintro e w' ⟨rfl, rfl⟩
    go_wp2_with fail
    refine (same_any _ A p p c xs w9 (by omega) Hx.out ((Sl.of_own o7).bel b79) (sx.bel hb09)).mono ?_
    rintro e w10 ⟨rfl, b10⟩
    have hb10 := hb09.trans (b10.mono hb09.size)
    go_wp2_with fail
    go_ret
    exact ⟨rfl, hb10⟩
end Go.Proofs.Ytjcbbkkoheedpaa
