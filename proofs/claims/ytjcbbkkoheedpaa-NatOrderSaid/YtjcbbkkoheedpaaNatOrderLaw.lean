import Derived.Test.YtjcbbkkoheedpaaNatOrdM
namespace Go.Proofs.Ytjcbbkkoheedpaa
open Go.RowKit
set_option linter.unusedVariables false

/-- An append's answer that is appended to again. -/
theorem app_formO {w' : World} {base e n m : Nat} {v v' : Value} {zs xs : List Nat} (hv : v ≠ .slice none 0 0) (h : w'.ownsRow base e 1 v' (n + m) (u64s zs ++ u64s xs)) (hn : v' = .slice none 0 0 ↔ v = .slice none 0 0 ∧ m = 0) :
    ∃ g cap, v' = .slice (some ⟨g, 0, none⟩) (n + m) cap ∧ base ≤ g ∧ g < w'.heap.size ∧ n + m ≤ cap ∧ cap ≤ maxLen ∧ w'.ownsRow base e 1 (.slice (some ⟨g, 0, none⟩) (n + m) cap) (n + m) (u64s (zs ++ xs)) := by
  obtain ⟨g, cap, rfl, h1, h2, h3, h4, _⟩ := app_form hv h hn
  exact ⟨g, cap, rfl, h1, h2, h3, h4, by rw [← u64s_append]; exact h⟩
set_option maxHeartbeats 4000000 in
theorem natOrder_any (A B : Option Addr) (n c m d : Nat) (xs0 ys0 : List Nat) (w : World) (hn : n ≤ c) (hc : c ≤ maxLen) (hm : m ≤ d) (hd : d ≤ maxLen)
    (hx0 : xs0.length = n) (hy0 : ys0.length = m) (ox0 : Ok xs0) (oy0 : Ok ys0) (sx0 : Sl w .u64 A xs0) (sy0 : Sl w .u64 B ys0) :
    Calls Try.prog 9 #[.slice A n c, .slice B m d] w fun e w' => e = .returned (.bool true) ∧ Below w.heap.size w w' := by
  obtain ⟨p, hp⟩ : ∃ p, min (min n m) 16 = p := ⟨_, rfl⟩
  have hp16 : p ≤ 16 := by omega
  have hpn : p ≤ n := by omega
  have hpm : p ≤ m := by omega
  have hpc : p ≤ c := by omega
  have hpd : p ≤ d := by omega
  have hx : (xs0.take p).length = p := by rw [List.length_take, hx0]; omega
  have hy : (ys0.take p).length = p := by rw [List.length_take, hy0]; omega
  have ox := ox0.take p
  have oy := oy0.take p
  have sx := sx0.take p
  have sy := sy0.take p
  generalize xs0.take p = xs at *
  generalize ys0.take p = ys at *
  have D1 := Lib.hid (fun W (sx : Sl W .u64 A xs) => put_any A p c p xs W hpc hc (by omega) hx ox sx)
  have D2 := Lib.hid (fun W (sy : Sl W .u64 B ys) => put_any B p d p ys W hpd hd (by omega) hy oy sy)
  have hls : Op.bytesLess (strN (PL xs p (8 * p))).toList (strN (PL ys p (8 * p))).toList = decide (val xs < val ys) := by
    rw [ByteArray.toList_eq, ByteArray.toList_eq, strN_data, strN_data, less_be (PL_bytes _ _ _) (PL_bytes _ _ _) (by rw [PL_length, PL_length]), be_PL hx ox, be_PL hy oy]
  have hes : ((strN (PL xs p (8 * p))).toList == (strN (PL ys p (8 * p))).toList) = decide (val xs = val ys) := by
    rw [ByteArray.toList_eq, ByteArray.toList_eq]
    by_cases h : val xs = val ys
    · have : xs = ys := val_inj ox oy (by rw [hx, hy]) h
      subst this
      simp
    · rw [decide_eq_false h]
      have : ¬ (strN (PL xs p (8 * p))).data.toList = (strN (PL ys p (8 * p))).data.toList := fun k => h (by
        have e := congrArg (fun l : List UInt8 => be (l.map (·.toNat))) k
        rw [show (strN (PL xs p (8 * p))).data.toList.map (·.toNat) = PL xs p (8 * p) from bytesN_strN (PL_bytes _ _ _), show (strN (PL ys p (8 * p))).data.toList.map (·.toNat) = PL ys p (8 * p) from bytesN_strN (PL_bytes _ _ _), be_PL hx ox, be_PL hy oy] at e
        exact e)
      simpa using this
  generalize strN (PL xs p (8 * p)) = sp at *
  generalize strN (PL ys p (8 * p)) = tp at *
  have Hx := Lib.hid hx
  have Hy := Lib.hid hy
  have hpi : (p : Int) ≤ (c : Int) := by omega
  have hpj : (p : Int) ≤ (d : Int) := by omega
  have hmin : ∀ w, (Builtin.min_ #[3, 3, 3] 3 #[.int .i64 (n : Int), .int .i64 (m : Int), .int .i64 16]).run Try.prog w = .ok (.int .i64 (p : Int)) w := fun w => by
    have h : (if (16 : Int) < (if (m : Int) < (n : Int) then (m : Int) else (n : Int)) then (16 : Int) else (if (m : Int) < (n : Int) then (m : Int) else (n : Int))) = (p : Int) := by split <;> split <;> omega
    rw [run_min_int3, h]
  clear hx hy hx0 hy0 sx0 sy0 ox0 oy0
  go_enter Try.func9, Try.ntmps9
  go_wp2_with fail
  go_quiet (fail)
  go_wp2_with fail
  have b0 := below_drewN (Below.refl w.heap.size w) nq
  refine (D1.out _ (sx.bel b0)).mono ?_
  rintro e w1 ⟨rfl, b1⟩
  have b01 := b0.trans (b1.mono b0.size)
  go_wp2_with fail
  refine (D2.out _ (sy.bel b01)).mono ?_
  rintro e w2 ⟨rfl, b2⟩
  have b02 := b01.trans (b2.mono b01.size)
  rcases Nat.lt_trichotomy (val xs) (val ys) with h | h | h
  · have hls' : Op.bytesLess sp.toList tp.toList = true := by rw [hls]; exact decide_eq_true h
    have hes' : (sp.toList == tp.toList) = false := by rw [hes]; exact decide_eq_false (by omega)
    have hcmp : cmpN (val xs) (val ys) = -1 := by unfold cmpN; rw [if_pos h]
    clear hls hes
    go_wp2_with fail
    refine (alive_any _).mono ?_
    rintro e w3 ⟨rfl, b3⟩
    have b03 := b02.trans (b3.mono b02.size)
    go_wp2_with fail
    refine (cmp_any A B p c p d xs ys w3 hpc hc hpd hd (by rw [Hx.out]; omega) (by rw [Hy.out]; omega) ox oy (sx.bel b03) (sy.bel b03)).mono ?_
    rw [hcmp]
    rintro e w' ⟨rfl, rfl⟩
    go_wp2_with fail
    have s01 : Sl (w3.alloc (.cells #[.int .u64 0, .int .u64 1] 23)) .u64 (some ⟨w3.heap.size, 0, none⟩) [0, 1] := sl_new w3 23 .u64 [0, 1]
    have b04 := b03.alloc b03.size (.cells #[.int .u64 0, .int .u64 1] 23)
    refine (mul_any A _ p c 2 2 p 2 xs [0, 1] _ hpc hc (by omega) (by unfold maxLen; omega) (by omega) (by omega) Hx.out rfl ox (Ok.cons (by decide) (Ok.cons (by decide) Ok.nil)) (sx.bel b04) s01).mono ?_
    rintro e w5 ⟨g5, z5, rfl, o5, l5, k5, v5, b5⟩
    have b05 := b04.trans (b5.mono b04.size)
    have hz5 : z5 = [0] ++ xs ++ [0] := by
      refine val_inj k5 (((Ok.cons (by decide) Ok.nil).append ox).append (Ok.cons (by decide) Ok.nil)) (by rw [l5]; simp [Hx.out] <;> omega) ?_
      rw [v5, val_append, val_append, show val [0, 1] = 18446744073709551616 from rfl, show val [0] = 0 from rfl, show [0].length = 1 from rfl, show pw 1 = 18446744073709551616 by simp [pw], Nat.mul_zero, Nat.add_zero, Nat.zero_add, Nat.mul_comm]
    subst hz5
    clear l5 k5 v5 s01
    obtain ⟨i0, hi, hz0, hz1, hz2⟩ := info_parts info_u64
    have own0 : (w5.alloc (.cells #[.int .u64 0] 23)).ownsRow w5.heap.size 23 1 (.slice (some ⟨w5.heap.size, 0, none⟩) 1 1) 1 (u64s [0]) := World.ownsRow_lit w5 #[.int .u64 0] 1 (Nat.le_refl _) (by unfold maxLen; omega) rfl
    have b06 := b05.alloc b05.size (.cells #[.int .u64 0] 23)
    have sA := sx.bel b06
    have O5 := (Sl.of_own o5)
    go_wp2_with (first | (at_builtin; refine wpList_append_sl (by rfl) (.tmp 42) (.tmp 43) 22 rfl w5.heap.size 23 i0 (.int .u64 0) Try.underlying22 hi hz0 hz1 hz2 rfl _ 1 [0] rfl own0 (ne_nil _ _ _) A p c xs rfl Hx.out sA (by omega) (by simp) ?_; intro v3 w6 hown3 hgr3 hnil3; have b67 := below_own ((Below.refl w5.heap.size w5).alloc (Nat.le_refl _) (.cells #[.int .u64 0] 23)) own0 hgr3 (by simp) (Nat.le_refl _); obtain ⟨g3, cap3, rfl, hg3, hg3', hcap3, hcap3', own3⟩ := app_formO (ne_nil _ _ _) hown3 hnil3; clear hnil3 hgr3 hown3) | (at_builtin; refine wpList_append_sl (by rfl) (.tmp 44) (.tmp 45) 22 rfl w5.heap.size 23 i0 (.int .u64 0) Try.underlying22 hi hz0 hz1 hz2 rfl _ (1 + p) ([0] ++ xs) rfl (own3.alloc _) (ne_nil _ _ _) _ 1 1 [0] rfl rfl (sl_new w6 23 .u64 [0]) (by omega) (by have := b67.size; simp; omega) ?_; intro v4 w7 hown4 hgr4 hnil4; have b57 := below_own (b67.alloc b67.size (.cells #[.int .u64 0] 23)) (own3.alloc _) hgr4 (by have := b67.size; simp; omega) (Nat.le_refl _); obtain ⟨g4, cap4, rfl, hg4, hg4', hcap4, hcap4', l4, s4⟩ := app_form (ne_nil _ _ _) hown4 hnil4; clear hnil4 hgr4 hown4))
    have e12 : 1 + p + 1 = p + 2 := by omega
    rw [e12]
    have b07 := b05.trans (b57.mono b05.size)
    refine (same_any _ _ (p + 2) (p + 2) cap4 ([0] ++ xs ++ [0]) w7 (by omega) (by simp [Hx.out] <;> omega) (O5.bel b57) s4).mono ?_
    rintro e w8 ⟨rfl, b8⟩
    go_wp2_with fail
    go_ret
    exact ⟨by simp, b07.trans (b8.mono b07.size)⟩
  · have hls' : Op.bytesLess sp.toList tp.toList = false := by rw [hls]; exact decide_eq_false (by omega)
    have hes' : (sp.toList == tp.toList) = true := by rw [hes]; exact decide_eq_true h
    have hcmp : cmpN (val xs) (val ys) = 0 := by unfold cmpN; rw [if_neg (by omega), if_neg (by omega)]
    clear hls hes
    go_wp2_with fail
    refine (alive_any _).mono ?_
    rintro e w3 ⟨rfl, b3⟩
    have b03 := b02.trans (b3.mono b02.size)
    go_wp2_with fail
    refine (cmp_any A B p c p d xs ys w3 hpc hc hpd hd (by rw [Hx.out]; omega) (by rw [Hy.out]; omega) ox oy (sx.bel b03) (sy.bel b03)).mono ?_
    rw [hcmp]
    rintro e w' ⟨rfl, rfl⟩
    go_wp2_with fail
    have s01 : Sl (w3.alloc (.cells #[.int .u64 0, .int .u64 1] 23)) .u64 (some ⟨w3.heap.size, 0, none⟩) [0, 1] := sl_new w3 23 .u64 [0, 1]
    have b04 := b03.alloc b03.size (.cells #[.int .u64 0, .int .u64 1] 23)
    refine (mul_any A _ p c 2 2 p 2 xs [0, 1] _ hpc hc (by omega) (by unfold maxLen; omega) (by omega) (by omega) Hx.out rfl ox (Ok.cons (by decide) (Ok.cons (by decide) Ok.nil)) (sx.bel b04) s01).mono ?_
    rintro e w5 ⟨g5, z5, rfl, o5, l5, k5, v5, b5⟩
    have b05 := b04.trans (b5.mono b04.size)
    have hz5 : z5 = [0] ++ xs ++ [0] := by
      refine val_inj k5 (((Ok.cons (by decide) Ok.nil).append ox).append (Ok.cons (by decide) Ok.nil)) (by rw [l5]; simp [Hx.out] <;> omega) ?_
      rw [v5, val_append, val_append, show val [0, 1] = 18446744073709551616 from rfl, show val [0] = 0 from rfl, show [0].length = 1 from rfl, show pw 1 = 18446744073709551616 by simp [pw], Nat.mul_zero, Nat.add_zero, Nat.zero_add, Nat.mul_comm]
    subst hz5
    clear l5 k5 v5 s01
    obtain ⟨i0, hi, hz0, hz1, hz2⟩ := info_parts info_u64
    have own0 : (w5.alloc (.cells #[.int .u64 0] 23)).ownsRow w5.heap.size 23 1 (.slice (some ⟨w5.heap.size, 0, none⟩) 1 1) 1 (u64s [0]) := World.ownsRow_lit w5 #[.int .u64 0] 1 (Nat.le_refl _) (by unfold maxLen; omega) rfl
    have b06 := b05.alloc b05.size (.cells #[.int .u64 0] 23)
    have sA := sx.bel b06
    have O5 := (Sl.of_own o5)
    go_wp2_with (first | (at_builtin; refine wpList_append_sl (by rfl) (.tmp 42) (.tmp 43) 22 rfl w5.heap.size 23 i0 (.int .u64 0) Try.underlying22 hi hz0 hz1 hz2 rfl _ 1 [0] rfl own0 (ne_nil _ _ _) A p c xs rfl Hx.out sA (by omega) (by simp) ?_; intro v3 w6 hown3 hgr3 hnil3; have b67 := below_own ((Below.refl w5.heap.size w5).alloc (Nat.le_refl _) (.cells #[.int .u64 0] 23)) own0 hgr3 (by simp) (Nat.le_refl _); obtain ⟨g3, cap3, rfl, hg3, hg3', hcap3, hcap3', own3⟩ := app_formO (ne_nil _ _ _) hown3 hnil3; clear hnil3 hgr3 hown3) | (at_builtin; refine wpList_append_sl (by rfl) (.tmp 44) (.tmp 45) 22 rfl w5.heap.size 23 i0 (.int .u64 0) Try.underlying22 hi hz0 hz1 hz2 rfl _ (1 + p) ([0] ++ xs) rfl (own3.alloc _) (ne_nil _ _ _) _ 1 1 [0] rfl rfl (sl_new w6 23 .u64 [0]) (by omega) (by have := b67.size; simp; omega) ?_; intro v4 w7 hown4 hgr4 hnil4; have b57 := below_own (b67.alloc b67.size (.cells #[.int .u64 0] 23)) (own3.alloc _) hgr4 (by have := b67.size; simp; omega) (Nat.le_refl _); obtain ⟨g4, cap4, rfl, hg4, hg4', hcap4, hcap4', l4, s4⟩ := app_form (ne_nil _ _ _) hown4 hnil4; clear hnil4 hgr4 hown4))
    have e12 : 1 + p + 1 = p + 2 := by omega
    rw [e12]
    have b07 := b05.trans (b57.mono b05.size)
    refine (same_any _ _ (p + 2) (p + 2) cap4 ([0] ++ xs ++ [0]) w7 (by omega) (by simp [Hx.out] <;> omega) (O5.bel b57) s4).mono ?_
    rintro e w8 ⟨rfl, b8⟩
    go_wp2_with fail
    go_ret
    exact ⟨by simp, b07.trans (b8.mono b07.size)⟩
  · have hls' : Op.bytesLess sp.toList tp.toList = false := by rw [hls]; exact decide_eq_false (by omega)
    have hes' : (sp.toList == tp.toList) = false := by rw [hes]; exact decide_eq_false (by omega)
    have hcmp : cmpN (val xs) (val ys) = 1 := by unfold cmpN; rw [if_neg (by omega), if_pos (by omega)]
    clear hls hes
    go_wp2_with fail
    refine (alive_any _).mono ?_
    rintro e w3 ⟨rfl, b3⟩
    have b03 := b02.trans (b3.mono b02.size)
    go_wp2_with fail
    refine (cmp_any A B p c p d xs ys w3 hpc hc hpd hd (by rw [Hx.out]; omega) (by rw [Hy.out]; omega) ox oy (sx.bel b03) (sy.bel b03)).mono ?_
    rw [hcmp]
    rintro e w' ⟨rfl, rfl⟩
    go_wp2_with fail
    have s01 : Sl (w3.alloc (.cells #[.int .u64 0, .int .u64 1] 23)) .u64 (some ⟨w3.heap.size, 0, none⟩) [0, 1] := sl_new w3 23 .u64 [0, 1]
    have b04 := b03.alloc b03.size (.cells #[.int .u64 0, .int .u64 1] 23)
    refine (mul_any A _ p c 2 2 p 2 xs [0, 1] _ hpc hc (by omega) (by unfold maxLen; omega) (by omega) (by omega) Hx.out rfl ox (Ok.cons (by decide) (Ok.cons (by decide) Ok.nil)) (sx.bel b04) s01).mono ?_
    rintro e w5 ⟨g5, z5, rfl, o5, l5, k5, v5, b5⟩
    have b05 := b04.trans (b5.mono b04.size)
    have hz5 : z5 = [0] ++ xs ++ [0] := by
      refine val_inj k5 (((Ok.cons (by decide) Ok.nil).append ox).append (Ok.cons (by decide) Ok.nil)) (by rw [l5]; simp [Hx.out] <;> omega) ?_
      rw [v5, val_append, val_append, show val [0, 1] = 18446744073709551616 from rfl, show val [0] = 0 from rfl, show [0].length = 1 from rfl, show pw 1 = 18446744073709551616 by simp [pw], Nat.mul_zero, Nat.add_zero, Nat.zero_add, Nat.mul_comm]
    subst hz5
    clear l5 k5 v5 s01
    obtain ⟨i0, hi, hz0, hz1, hz2⟩ := info_parts info_u64
    have own0 : (w5.alloc (.cells #[.int .u64 0] 23)).ownsRow w5.heap.size 23 1 (.slice (some ⟨w5.heap.size, 0, none⟩) 1 1) 1 (u64s [0]) := World.ownsRow_lit w5 #[.int .u64 0] 1 (Nat.le_refl _) (by unfold maxLen; omega) rfl
    have b06 := b05.alloc b05.size (.cells #[.int .u64 0] 23)
    have sA := sx.bel b06
    have O5 := (Sl.of_own o5)
    go_wp2_with (first | (at_builtin; refine wpList_append_sl (by rfl) (.tmp 42) (.tmp 43) 22 rfl w5.heap.size 23 i0 (.int .u64 0) Try.underlying22 hi hz0 hz1 hz2 rfl _ 1 [0] rfl own0 (ne_nil _ _ _) A p c xs rfl Hx.out sA (by omega) (by simp) ?_; intro v3 w6 hown3 hgr3 hnil3; have b67 := below_own ((Below.refl w5.heap.size w5).alloc (Nat.le_refl _) (.cells #[.int .u64 0] 23)) own0 hgr3 (by simp) (Nat.le_refl _); obtain ⟨g3, cap3, rfl, hg3, hg3', hcap3, hcap3', own3⟩ := app_formO (ne_nil _ _ _) hown3 hnil3; clear hnil3 hgr3 hown3) | (at_builtin; refine wpList_append_sl (by rfl) (.tmp 44) (.tmp 45) 22 rfl w5.heap.size 23 i0 (.int .u64 0) Try.underlying22 hi hz0 hz1 hz2 rfl _ (1 + p) ([0] ++ xs) rfl (own3.alloc _) (ne_nil _ _ _) _ 1 1 [0] rfl rfl (sl_new w6 23 .u64 [0]) (by omega) (by have := b67.size; simp; omega) ?_; intro v4 w7 hown4 hgr4 hnil4; have b57 := below_own (b67.alloc b67.size (.cells #[.int .u64 0] 23)) (own3.alloc _) hgr4 (by have := b67.size; simp; omega) (Nat.le_refl _); obtain ⟨g4, cap4, rfl, hg4, hg4', hcap4, hcap4', l4, s4⟩ := app_form (ne_nil _ _ _) hown4 hnil4; clear hnil4 hgr4 hown4))
    have e12 : 1 + p + 1 = p + 2 := by omega
    rw [e12]
    have b07 := b05.trans (b57.mono b05.size)
    refine (same_any _ _ (p + 2) (p + 2) cap4 ([0] ++ xs ++ [0]) w7 (by omega) (by simp [Hx.out] <;> omega) (O5.bel b57) s4).mono ?_
    rintro e w8 ⟨rfl, b8⟩
    go_wp2_with fail
    go_ret
    exact ⟨by simp, b07.trans (b8.mono b07.size)⟩
end Go.Proofs.Ytjcbbkkoheedpaa
