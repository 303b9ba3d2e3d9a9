import Derived.Test.YtfkpcmjmibbmbaaMontPowF
import Derived.Test.YtfkpcmjmibbmbaaMontPowR
namespace Go.Proofs.Ytfkpcmjmibbmbaa
open Go.RowKit Go.Shelf
set_option linter.unusedVariables false

set_option maxHeartbeats 1000000 in
/-- mont.Pow, refused -/
theorem mpow_no (A E M : Option Addr) (n q k ca ce cm : Nat) (xs ms : List Nat) (w : World) (hca : n ≤ ca) (hca' : ca ≤ maxLen) (hcm : k ≤ cm) (hcm' : cm ≤ maxLen)
    (hx : xs.length = n) (hm : ms.length = k) (ox : Ok xs) (om : Ok ms) (sx : Sl w .u64 A xs) (sm : Sl w .u64 M ms) (hno : ¬ (IsMod ms ∧ IsEl xs ms ∧ q ≤ 16)) :
    Calls Try.prog 23 #[.slice A n ca, .slice E q ce, .slice M k cm] w (ErrPost w) := by
  have bb := (Below.refl w.heap.size w).alloc (Nat.le_refl _) (.cells #[.slice M k cm] 26)
  have C1 := modulus_any M k cm ms _ hcm hcm' hm om (sm.bel bb)
  by_cases hM : IsMod ms
  · have hk8 : k ≤ 8 := by have := hM.2.1; omega
    have C2 := element_any A M n k ca cm xs ms _ hca hca' hcm hcm' hx hm hk8 ox om (sx.bel bb) (sm.bel bb)
    rw [modB_yes hM] at C1
    by_cases hX : IsEl xs ms
    · have hq : ¬ q ≤ 16 := fun h => hno ⟨hM, hX, h⟩
      have hq' : (q : Int) > 16 := by omega
      rw [elB_yes hX] at C2
      have D1 := Lib.hid C1
      have D2 := Lib.hid C2
      clear C1 C2 hM hX hno hx hm hq
      go_enter Try.func23, Try.ntmps23
      go_wp2_with fail
      refine (D1.out).mono ?_
      rintro e w' ⟨rfl, rfl⟩
      go_wp2_with fail
      refine (D2.out).mono ?_
      rintro e w' ⟨rfl, rfl⟩
      go_wp2_with fail
      go_ret2
      exact ⟨rfl, bb⟩
    · rw [elB_no hX] at C2
      have D1 := Lib.hid C1
      have D2 := Lib.hid C2
      clear C1 C2 hM hX hno hx hm
      go_enter Try.func23, Try.ntmps23
      go_wp2_with fail
      refine (D1.out).mono ?_
      rintro e w' ⟨rfl, rfl⟩
      go_wp2_with fail
      refine (D2.out).mono ?_
      rintro e w' ⟨rfl, rfl⟩
      go_wp2_with fail
      go_ret2
      exact ⟨rfl, bb⟩
  · rw [modB_no hM] at C1
    have D1 := Lib.hid C1
    clear C1 hM hno hx hm
    go_enter Try.func23, Try.ntmps23
    go_wp2_with fail
    refine (D1.out).mono ?_
    rintro e w' ⟨rfl, rfl⟩
    go_wp2_with fail
    go_ret2
    exact ⟨rfl, bb⟩
end Go.Proofs.Ytfkpcmjmibbmbaa
