import Derived.Test.YtboaahjpjemfpaaSpAl
namespace Go.Proofs.Ytboaahjpjemfpaa
open Go.RowKit
set_option linter.unusedVariables false

set_option maxHeartbeats 400000 in
theorem spongeShape_any (s : ByteArray) (w : World) (hs : s.size ≤ maxLen) :
    Calls Try.prog 6 #[.string s] w fun e w' => e = .returned (.bool true) ∧ Below w.heap.size w w' := by
  by_cases h : s.size ≤ 1000
  · have hl : (s.size : Int) ≤ 1000 := by omega
    obtain ⟨d, hd, H⟩ := walk_shape s w (by omega)
    have HH := Lib.hid H
    clear H
    go_enter Try.func6, Try.ntmps6
    go_wp2_with fail
    refine (HH.out _).mono ?_
    rintro e w1 ⟨rfl, b1⟩
    go_wp2_with fail
    refine (HH.out _).mono ?_
    rintro e w2 ⟨rfl, b2⟩
    go_wp2_with fail
    refine (alive_any _).mono ?_
    rintro e w3 ⟨rfl, b3⟩
    go_wp2_with fail
    go_ret
    have bb := b1.trans ((b2.trans (b3.mono b2.size)).mono b1.size)
    exact ⟨rfl, bb⟩
  · have hl : (1000 : Int) < (s.size : Int) := by omega
    have hl2 : (1000 : Int) ≤ (s.size : Int) := by omega
    have he := extract_size s 1000 (by omega)
    obtain ⟨d, hd, H⟩ := walk_shape (s.extract 0 1000) w (by omega)
    have HH := Lib.hid H
    clear H
    go_enter Try.func6, Try.ntmps6
    go_wp2_with fail
    refine (HH.out _).mono ?_
    rintro e w1 ⟨rfl, b1⟩
    go_wp2_with fail
    refine (HH.out _).mono ?_
    rintro e w2 ⟨rfl, b2⟩
    go_wp2_with fail
    refine (alive_any _).mono ?_
    rintro e w3 ⟨rfl, b3⟩
    go_wp2_with fail
    go_ret
    have bb := b1.trans ((b2.trans (b3.mono b2.size)).mono b1.size)
    exact ⟨rfl, bb⟩
end Go.Proofs.Ytboaahjpjemfpaa
