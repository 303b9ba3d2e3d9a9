import Derived.Test.YtboaahjpjemfpaaSpHR
namespace Go.Proofs.Ytboaahjpjemfpaa
open Go.RowKit
set_option linter.unusedVariables false

set_option maxHeartbeats 1000000 in
theorem spongeHashes_any (s : ByteArray) (w : World) (hs : s.size ≤ maxLen) :
    Calls Try.prog 4 #[.string s] w fun e w' => e = .returned (.bool true) ∧ Below w.heap.size w w' := by
  by_cases h1 : s.size ≤ 1000
  · have hl : (s.size : Int) ≤ 1000 := by omega
    have hd : decide ((1000 : Int) < (s.size : Int)) = false := decide_eq_false (by omega)
    have HH := Lib.hid (fun W => hash_any s W (by omega))
    have HR := Lib.hid (fun W => refhash_any s W (by omega))
    generalize strB (digN (bytesN s)) = d at *
    go_enter Try.func4, Try.ntmps4
    go_wp2_with fail
    refine (HH.out _).mono ?_
    rintro e w1 ⟨rfl, b1⟩
    go_wp2_with fail
    refine (HR.out _).mono ?_
    rintro e w2 ⟨rfl, b2⟩
    go_wp2_with fail
    refine (alive_any _).mono ?_
    rintro e w3 ⟨rfl, b3⟩
    go_wp2_with fail
    go_ret
    exact ⟨by simp, b1.trans ((b2.trans (b3.mono b2.size)).mono b1.size)⟩
  · by_cases h2 : s.size < 65536
    · have hl : (1000 : Int) < (s.size : Int) := by omega
      have hl1 : (1000 : Int) ≤ (s.size : Int) := by omega
      have hl2 : (s.size : Int) < 65536 := by omega
      have hd : decide ((1000 : Int) < (s.size : Int)) = true := decide_eq_true hl
      obtain ⟨t, ht⟩ : ∃ t, s.extract 0 1000 = t := ⟨_, rfl⟩
      have hts : t.size ≤ 1000 := by rw [← ht, extract_size s 1000 (by omega)]; exact Nat.le_refl _
      have HH := Lib.hid (fun W => hash_any t W (by omega))
      have HR := Lib.hid (fun W => refhash_any t W (by omega))
      generalize strB (digN (bytesN t)) = d at *
      go_enter Try.func4, Try.ntmps4
      go_wp2_with fail
      refine (HH.out _).mono ?_
      rintro e w1 ⟨rfl, b1⟩
      go_wp2_with fail
      refine (HR.out _).mono ?_
      rintro e w2 ⟨rfl, b2⟩
      go_wp2_with fail
      refine (alive_any _).mono ?_
      rintro e w3 ⟨rfl, b3⟩
      go_wp2_with fail
      go_ret
      exact ⟨by simp, b1.trans ((b2.trans (b3.mono b2.size)).mono b1.size)⟩
    · by_cases h3 : s.size ≤ 65536
      · have hl : (1000 : Int) < (s.size : Int) := by omega
        have hd2 : decide ((s.size : Int) < 65536) = false := decide_eq_false (by omega)
        have hd : decide ((1000 : Int) < (s.size : Int)) = true := decide_eq_true hl
        have HH := Lib.hid (fun W => hash_any s W (by omega))
        have HR := Lib.hid (fun W => refhash_any s W (by omega))
        generalize strB (digN (bytesN s)) = d at *
        clear h1 h2 h3 hs hl
        go_enter Try.func4, Try.ntmps4
        go_wp2_with fail
        refine (HH.out _).mono ?_
        rintro e w1 ⟨rfl, b1⟩
        go_wp2_with fail
        refine (HR.out _).mono ?_
        rintro e w2 ⟨rfl, b2⟩
        go_wp2_with fail
        refine (alive_any _).mono ?_
        rintro e w3 ⟨rfl, b3⟩
        go_wp2_with fail
        go_ret
        exact ⟨by simp, b1.trans ((b2.trans (b3.mono b2.size)).mono b1.size)⟩
      · have hl : (1000 : Int) < (s.size : Int) := by omega
        have hd2 : decide ((s.size : Int) < 65536) = false := decide_eq_false (by omega)
        have hd : decide ((1000 : Int) < (s.size : Int)) = true := decide_eq_true hl
        have HH := Lib.hid (fun W => hash_no s W (by omega))
        have HR := Lib.hid (fun W => refhash_no s W (by omega))
        clear h1 h2 h3 hs hl
        go_enter Try.func4, Try.ntmps4
        go_wp2_with fail
        refine (HH.out _).mono ?_
        rintro e w1 ⟨rfl, rfl⟩
        go_wp2_with fail
        refine (HR.out _).mono ?_
        rintro e w2 ⟨rfl, rfl⟩
        go_wp2_with fail
        refine (alive_any _).mono ?_
        rintro e w3 ⟨rfl, b3⟩
        go_wp2_with fail
        go_ret
        exact ⟨by simp, b3⟩
end Go.Proofs.Ytboaahjpjemfpaa
