import Derived.Test.YtfkpcmjmibbmbaaMontE
namespace Go.Proofs.Ytfkpcmjmibbmbaa
open Go.RowKit
set_option linter.unusedVariables false

set_option maxHeartbeats 800000 in
/-- chirographref02.Modulus -/
theorem rmodulus_any (M : Option Addr) (k c : Nat) (ms : List Nat) (w : World) (hk : k ≤ c) (hc : c ≤ maxLen) (hm : ms.length = k) (om : Ok ms) (sm : Sl w .u64 M ms) :
    Calls Try.prog 28 #[.slice M k c] w fun e w' => e = .returned (.bool (modB ms)) ∧ w = w' := by
  have hc' := hc
  unfold maxLen at hc'
  by_cases h1 : 1 ≤ k
  · by_cases h8 : k ≤ 8
    · obtain ⟨b, off, rfl, hlb, hcb⟩ := sm (by omega)
      have hc0 := hcb 0 (by omega)
      rw [Nat.add_zero] at hc0
      have ha : (((nth ms 0 : Nat) : Int) % 2 == 1) = decide (nth ms 0 % 2 = 1) := by rw [Bool.eq_iff_iff]; simp; omega
      have H3 := Lib.hid (rbits_any (some ⟨b, off, none⟩) k c k ms w hk hc (by omega) hm om sm)
      have hk1 : (1 : Int) ≤ (k : Int) := by omega
      have hk8 : (k : Int) ≤ 8 := by omega
      by_cases ho : nth ms 0 % 2 = 1
      · have ha' : (((nth ms 0 : Nat) : Int) % 2 == 1) = true := by rw [ha]; simpa using ho
        clear ha
        by_cases hv : 1 < val ms
        · rw [modB_yes ⟨by omega, by omega, ho, hv⟩]
          have hb : decide ((1 : Int) < ((bitLen (val ms) : Nat) : Int)) = true := by have := bitLen_one.2 hv; simp; omega
          clear hcb hm ho hv sm
          go_enter Try.func28, Try.ntmps28
          go_wp2_with fail
          refine (H3.out).mono ?_
          rintro e w' ⟨rfl, rfl⟩
          go_wp2_with fail
          go_ret
          exact ⟨ret_bool (by simp), rfl⟩
        · rw [modB_no (fun h => hv h.2.2.2)]
          have hb : ¬ 1 < bitLen (val ms) := fun h => hv (bitLen_one.1 h)
          have Hb := Lib.hid hb
          clear hcb hm ho hv sm hb
          go_enter Try.func28, Try.ntmps28
          go_wp2_with fail
          refine (H3.out).mono ?_
          rintro e w' ⟨rfl, rfl⟩
          go_wp2_with fail
          go_ret
          exact ⟨ret_bool (by have := Hb.out; simp; omega), rfl⟩
      · have ho0 : nth ms 0 % 2 = 0 := by omega
        have ha' : (((nth ms 0 : Nat) : Int) % 2 == 1) = false := by rw [ha]; simpa using ho
        clear ha
        rw [modB_no (fun h => ho h.2.2.1)]
        clear hcb hm ho sm ho0 H3
        go_enter Try.func28, Try.ntmps28
        go_wp2_with fail
        go_ret
        exact ⟨rfl, rfl⟩
    · rw [modB_no (fun h => h8 (by have := h.2.1; omega))]
      have hk8 : ¬ (k : Int) ≤ 8 := by omega
      have hd8 : decide ((k : Int) ≤ 8) = false := by simp; omega
      have hd1 : decide ((1 : Int) ≤ (k : Int)) = true := by simp; omega
      clear hm sm
      go_enter Try.func28, Try.ntmps28
      go_wp2_with fail
      go_ret
      exact ⟨rfl, rfl⟩
  · rw [modB_no (fun h => h1 (by have := h.1; omega))]
    obtain rfl : k = 0 := by omega
    clear hm sm h1
    go_enter Try.func28, Try.ntmps28
    go_wp2_with fail
    go_ret
    exact ⟨rfl, rfl⟩

set_option maxHeartbeats 400000 in
/-- chirographref02.Element -/
theorem relement_any (A M : Option Addr) (n k ca c : Nat) (xs ms : List Nat) (w : World) (hn : n ≤ 9223372036854775807) (hx : xs.length = n) (hm : ms.length = k) (ox : Ok xs) (om : Ok ms) (sx : Sl w .u64 A xs) (sm : Sl w .u64 M ms) :
    Calls Try.prog 29 #[.slice A n ca, .slice M k c] w fun e w' => e = .returned (.bool (elB xs ms)) ∧ Below w.heap.size w w' := by
  by_cases h : n = k
  · subst h
    have H := Lib.hid (less_any A M n ca c xs ms w hn hx hm ox om sx sm)
    have he : ((n : Int) == (n : Int)) = true := by simp
    have hb : ltB (val xs) (val ms) = elB xs ms := by
      by_cases hlt : val xs < val ms
      · rw [ltB_yes hlt, elB_yes ⟨by omega, hlt⟩]
      · rw [ltB_no (by omega), elB_no (fun h => hlt h.2)]
    have Hb := Lib.hid hb
    clear hx hm hb
    go_enter Try.func29, Try.ntmps29
    go_wp2_with fail
    refine (H.out).mono ?_
    rintro e w' ⟨rfl, hb1⟩
    go_wp2_with fail
    go_ret
    exact ⟨ret_bool Hb.out, hb1⟩
  · rw [elB_no (fun h' => h (by have := h'.1; omega))]
    have he : ((n : Int) == (k : Int)) = false := by simp; omega
    clear hx hm h
    go_enter Try.func29, Try.ntmps29
    go_wp2_with fail
    go_ret
    exact ⟨rfl, Below.refl _ _⟩

set_option maxHeartbeats 1000000 in
/-- chirographref02.Check, of what may be -/
theorem check_ok (A B M : Option Addr) (n m k ca cb cm : Nat) (xs ys ms : List Nat) (w : World) (hn : n ≤ 9223372036854775807) (hm' : m ≤ 9223372036854775807) (hcm : k ≤ cm) (hcm' : cm ≤ maxLen)
    (hx : xs.length = n) (hy : ys.length = m) (hm : ms.length = k) (ox : Ok xs) (oy : Ok ys) (om : Ok ms) (sx : Sl w .u64 A xs) (sy : Sl w .u64 B ys) (sm : Sl w .u64 M ms) (hM : IsMod ms) (hX : IsEl xs ms) (hY : IsEl ys ms) :
    Calls Try.prog 13 #[.slice A n ca, .slice B m cb, .slice M k cm] w fun e w' => e = .returned (.int .i64 0) ∧ Below w.heap.size w w' := by
  have D1 := Lib.hid (modB_yes hM ▸ rmodulus_any M k cm ms w hcm hcm' hm om sm)
  have D2 := Lib.hid (elB_yes hX ▸ relement_any A M n k ca cm xs ms w hn hx hm ox om sx sm)
  have D3 := Lib.hid (fun w' (sy : Sl w' .u64 B ys) (sm : Sl w' .u64 M ms) => elB_yes hY ▸ relement_any B M m k cb cm ys ms w' hm' hy hm oy om sy sm)
  clear hM hX hY hx hy hm
  go_enter Try.func13, Try.ntmps13
  go_wp2_with fail
  refine (D1.out).mono ?_
  rintro e w' ⟨rfl, rfl⟩
  go_wp2_with fail
  refine (D2.out).mono ?_
  rintro e w1 ⟨rfl, b1⟩
  go_wp2_with fail
  refine (D3.out w1 (sy.bel b1) (sm.bel b1)).mono ?_
  rintro e w2 ⟨rfl, b2⟩
  have b12 := b1.trans (b2.mono b1.size)
  go_wp2_with fail
  go_ret
  exact ⟨rfl, b12⟩
set_option maxHeartbeats 1000000 in
/-- chirographref02.Check, of what may not be -/
theorem check_no (A B M : Option Addr) (n m k ca cb cm : Nat) (xs ys ms : List Nat) (w : World) (hn : n ≤ 9223372036854775807) (hm' : m ≤ 9223372036854775807) (hcm : k ≤ cm) (hcm' : cm ≤ maxLen)
    (hx : xs.length = n) (hy : ys.length = m) (hm : ms.length = k) (ox : Ok xs) (oy : Ok ys) (om : Ok ms) (sx : Sl w .u64 A xs) (sy : Sl w .u64 B ys) (sm : Sl w .u64 M ms) (hno : ¬ (IsMod ms ∧ IsEl xs ms ∧ IsEl ys ms)) :
    Calls Try.prog 13 #[.slice A n ca, .slice B m cb, .slice M k cm] w fun e w' => e = .returned (.int .i64 1) ∧ Below w.heap.size w w' := by
  have C1 := rmodulus_any M k cm ms w hcm hcm' hm om sm
  by_cases hM : IsMod ms
  · have C2 := relement_any A M n k ca cm xs ms w hn hx hm ox om sx sm
    rw [modB_yes hM] at C1
    by_cases hX : IsEl xs ms
    · have hY : ¬ IsEl ys ms := fun h => hno ⟨hM, hX, h⟩
      rw [elB_yes hX] at C2
      have D1 := Lib.hid C1
      have D2 := Lib.hid C2
      have D3 := Lib.hid (fun w' (sy : Sl w' .u64 B ys) (sm : Sl w' .u64 M ms) => elB_no hY ▸ relement_any B M m k cb cm ys ms w' hm' hy hm oy om sy sm)
      clear C1 C2 hM hX hY hno hx hy hm
      go_enter Try.func13, Try.ntmps13
      go_wp2_with fail
      refine (D1.out).mono ?_
      rintro e w' ⟨rfl, rfl⟩
      go_wp2_with fail
      refine (D2.out).mono ?_
      rintro e w1 ⟨rfl, b1⟩
      go_wp2_with fail
      refine (D3.out w1 (sy.bel b1) (sm.bel b1)).mono ?_
      rintro e w2 ⟨rfl, b2⟩
      have b12 := b1.trans (b2.mono b1.size)
      go_wp2_with fail
      go_ret
      exact ⟨rfl, b12⟩
    · rw [elB_no hX] at C2
      have D1 := Lib.hid C1
      have D2 := Lib.hid C2
      clear C1 C2 hM hX hno hx hy hm
      go_enter Try.func13, Try.ntmps13
      go_wp2_with fail
      refine (D1.out).mono ?_
      rintro e w' ⟨rfl, rfl⟩
      go_wp2_with fail
      refine (D2.out).mono ?_
      rintro e w1 ⟨rfl, b1⟩
      go_wp2_with fail
      go_ret
      exact ⟨rfl, b1⟩
  · rw [modB_no hM] at C1
    have D1 := Lib.hid C1
    clear C1 hM hno hx hy hm
    go_enter Try.func13, Try.ntmps13
    go_wp2_with fail
    refine (D1.out).mono ?_
    rintro e w' ⟨rfl, rfl⟩
    go_wp2_with fail
    go_ret
    exact ⟨rfl, Below.refl _ _⟩

set_option maxHeartbeats 400000 in
/-- chirographlaw02.same: refused -/
theorem lsame_no (B : Option Addr) (m cb : Nat) (w : World) :
    Calls Try.prog 14 #[.slice none 0 0, .int .i64 1, .int .i64 1, .slice B m cb] w fun e w' => e = .returned (.bool true) ∧ w = w' := by
  go_enter Try.func14, Try.ntmps14
  go_wp2
  go_ret
  exact ⟨rfl, rfl⟩
set_option maxHeartbeats 400000 in
/-- chirographlaw02.same: just that row -/
theorem lsame_ok (A B : Option Addr) (n c d : Nat) (xs : List Nat) (w : World) (hn : n ≤ 9223372036854775807) (hx : xs.length = n) (sx : Sl w .u64 A xs) (sy : Sl w .u64 B xs) :
    Calls Try.prog 14 #[.slice A n c, .int .i64 0, .int .i64 0, .slice B n d] w fun e w' => e = .returned (.bool true) ∧ Below w.heap.size w w' := by
  have D := Lib.hid (same_any A B n c d xs w hn hx sx sy)
  clear hx
  go_enter Try.func14, Try.ntmps14
  go_wp2_with fail
  refine (D.out).mono ?_
  rintro e w1 ⟨rfl, b1⟩
  go_wp2_with fail
  go_ret
  exact ⟨rfl, b1⟩
end Go.Proofs.Ytfkpcmjmibbmbaa
