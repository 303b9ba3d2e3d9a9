import Derived.Test.YtoocoobgidoceaaOaA
import Derived.Lib.SmallJoins
namespace Go.Proofs.Ytoocoobgidoceaa
open Go.RowKit
set_option linter.unusedVariables false

theorem conv_new (w : World) (l : List Nat) {n : Nat} (hl : l.length = n) (ob : Byt l) : (convert 22 9 (.slice (some ⟨w.heap.size, 0, none⟩) n n)).run Try.prog (w.alloc (.cells (lim .u8 l) 5)) = .ok (.string (strN l)) (w.alloc (.cells (lim .u8 l) 5)) :=
  conv_sl hl ob (Sl.of_own (Own.new w 5 .u8 l))

set_option maxHeartbeats 1000000 in
/-- oath.record -/
theorem record_ok (label bytes : ByteArray) (w : World) (h1 : label.size ≤ 32) (h2 : bytes.size ≤ 65536) :
    Calls Try.prog 17 #[.string label, .string bytes] w fun e w' => e = .returned (.tuple #[.string (strN (recN label bytes)), .int .i64 0]) ∧ Below w.heap.size w w' := by
  obtain ⟨n, hn⟩ : ∃ n, bytes.size = n := ⟨_, rfl⟩
  obtain ⟨m, hm⟩ : ∃ m, label.size = m := ⟨_, rfl⟩
  obtain ⟨q0, hq0⟩ : ∃ q, n % 256 = q := ⟨_, rfl⟩
  obtain ⟨q1, hq1⟩ : ∃ q, n / 256 % 256 = q := ⟨_, rfl⟩
  obtain ⟨q2, hq2⟩ : ∃ q, n / 65536 % 256 = q := ⟨_, rfl⟩
  obtain ⟨q3, hq3⟩ : ∃ q, n / 16777216 = q := ⟨_, rfl⟩
  have hm32 : ¬ (m : Int) > 32 := by omega
  have hn65 : ¬ (n : Int) > 65536 := by omega
  have hme : (label.size : Int) = (m : Int) := by omega
  have hne : (bytes.size : Int) = (n : Int) := by omega
  have em : IntKind.u8.wrap (m : Int) = (m : Int) := by rw [IntKind.wrap_u8]; omega
  have e0 : IntKind.u8.wrap (n : Int) = (q0 : Int) := by rw [IntKind.wrap_u8]; omega
  have e1 : IntKind.u8.wrap ((n : Int) / 2 ^ 8) = (q1 : Int) := by rw [IntKind.wrap_u8]; omega
  have e2 : IntKind.u8.wrap ((n : Int) / 2 ^ 16) = (q2 : Int) := by rw [IntKind.wrap_u8]; omega
  have e3 : IntKind.u8.wrap ((n : Int) / 2 ^ 24) = (q3 : Int) := by rw [IntKind.wrap_u8]; omega
  have e1' : (n : Int) / 256 % 256 = (q1 : Int) := by omega
  have e2' : (n : Int) / 65536 = (q2 : Int) := by omega
  have e3' : (n : Int) / 16777216 = (q3 : Int) := by omega
  obtain ⟨S1, hS1⟩ : ∃ S, strN [m] = S := ⟨_, rfl⟩
  obtain ⟨S2, hS2⟩ : ∃ S, strN [q3, q2, q1, q0] = S := ⟨_, rfl⟩
  have z1 : S1.size = 1 := by rw [← hS1, strN_size]; rfl
  have z2 : S2.size = 4 := by rw [← hS2, strN_size]; rfl
  have hc1 : (convert 22 9 (.slice (some ⟨w.heap.size, 0, none⟩) 1 1)).run Try.prog (w.alloc (.cells #[.int .u8 (m : Int)] 5)) = .ok (.string S1) (w.alloc (.cells #[.int .u8 (m : Int)] 5)) := hS1 ▸ conv_new w [m] rfl (by intro x hx; simp at hx; omega)
  have hc2 : (convert 22 9 (.slice (some ⟨w.heap.size + 1, 0, none⟩) 4 4)).run Try.prog ((w.alloc (.cells #[.int .u8 (m : Int)] 5)).alloc (.cells #[.int .u8 (q3 : Int), .int .u8 (q2 : Int), .int .u8 (q1 : Int), .int .u8 (q0 : Int)] 5)) = .ok (.string S2) ((w.alloc (.cells #[.int .u8 (m : Int)] 5)).alloc (.cells #[.int .u8 (q3 : Int), .int .u8 (q2 : Int), .int .u8 (q1 : Int), .int .u8 (q0 : Int)] 5)) := by
    have h := conv_new (w.alloc (.cells #[.int .u8 (m : Int)] 5)) [q3, q2, q1, q0] rfl (by intro x hx; simp at hx; omega)
    rw [World.size_alloc, hS2] at h
    exact h
  have HE : Hid (S1 ++ label ++ S2 ++ bytes = strN (recN label bytes)) := Lib.hid (by
    unfold recN; rw [strN_append, strN_append, strN_append, strN_bytesN, strN_bytesN, hm, hn, hq0, hq1, hq2, hq3, hS1, hS2])
  have hb := ((Below.refl w.heap.size w).alloc (Nat.le_refl _) (.cells (lim .u8 [m]) 5)).alloc (by simp) (.cells (lim .u8 [q3, q2, q1, q0]) 5)
  have l1 : m ≤ 32 := by omega
  have l2 : n ≤ 65536 := by omega
  clear hq0 hq1 hq2 hq3 h1 h2 hS1 hS2
  go_enter Try.func17, Try.ntmps17
  go_wp2_with fail
  go_ret2
  exact ⟨by rw [← HE.out]; rfl, hb⟩
set_option maxHeartbeats 1000000 in
theorem record_no (label bytes : ByteArray) (w : World) (h : ¬ (label.size ≤ 32 ∧ bytes.size ≤ 65536)) :
    Calls Try.prog 17 #[.string label, .string bytes] w fun e w' => e = .returned (.tuple #[.string { data := #[] }, .int .i64 2]) ∧ w' = w := by
  by_cases h1 : label.size ≤ 32
  · have hm32 : ¬ (label.size : Int) > 32 := by omega
    have hn65 : (bytes.size : Int) > 65536 := by omega
    clear h h1
    go_enter Try.func17, Try.ntmps17
    go_wp2_with fail
    go_ret2
    exact ⟨rfl, rfl⟩
  · have hm32 : (label.size : Int) > 32 := by omega
    clear h h1
    go_enter Try.func17, Try.ntmps17
    go_wp2_with fail
    go_ret2
    exact ⟨rfl, rfl⟩
set_option maxHeartbeats 1000000 in
/-- chirographref14.long -/
theorem long_ok (said : Nat) (label bytes : ByteArray) (w : World) (hs : said ≤ maxLen) (hl : label.size ≤ maxLen) (hb : bytes.size ≤ maxLen) (h : label.size ≤ 32 ∧ bytes.size ≤ 65536 ∧ said ≤ 65536 ∧ said + label.size + bytes.size + 5 ≤ 65536) :
    Calls Try.prog 19 #[.int .i64 (said : Int), .string label, .string bytes] w fun e w' => e = .returned (.bool false) ∧ w' = w := by
  unfold maxLen at hs hl hb
  obtain ⟨n, hn⟩ : ∃ n, bytes.size = n := ⟨_, rfl⟩
  obtain ⟨m, hm⟩ : ∃ m, label.size = m := ⟨_, rfl⟩
  have hme : (label.size : Int) = (m : Int) := by omega
  have hne : (bytes.size : Int) = (n : Int) := by omega
  rw [hn, hm] at h
  have h1' : ¬ (m : Int) > 32 := by omega
  have h2' : ¬ (n : Int) > 65536 := by omega
  have h3' : ¬ (said : Int) > 65536 := by omega
  have h4' : ¬ (said : Int) + 1 + (m : Int) + 4 + (n : Int) > 65536 := by omega
  clear h hn hm
  go_enter Try.func19, Try.ntmps19
  go_wp2_with fail
  go_ret
  exact ⟨rfl, rfl⟩
set_option maxHeartbeats 1000000 in
theorem long_no (said : Nat) (label bytes : ByteArray) (w : World) (hs : said ≤ maxLen) (hl : label.size ≤ maxLen) (hb : bytes.size ≤ maxLen) (h : ¬ (label.size ≤ 32 ∧ bytes.size ≤ 65536 ∧ said ≤ 65536 ∧ said + label.size + bytes.size + 5 ≤ 65536)) :
    Calls Try.prog 19 #[.int .i64 (said : Int), .string label, .string bytes] w fun e w' => e = .returned (.bool true) ∧ w' = w := by
  unfold maxLen at hs hl hb
  obtain ⟨n, hn⟩ : ∃ n, bytes.size = n := ⟨_, rfl⟩
  obtain ⟨m, hm⟩ : ∃ m, label.size = m := ⟨_, rfl⟩
  have hme : (label.size : Int) = (m : Int) := by omega
  have hne : (bytes.size : Int) = (n : Int) := by omega
  rw [hn, hm] at h
  by_cases h1 : m ≤ 32
  · have h1' : ¬ (m : Int) > 32 := by omega
    by_cases h2 : n ≤ 65536
    · have h2' : ¬ (n : Int) > 65536 := by omega
      by_cases h3 : said ≤ 65536
      · have h3' : ¬ (said : Int) > 65536 := by omega
        have h4' : (said : Int) + 1 + (m : Int) + 4 + (n : Int) > 65536 := by omega
        clear h hn hm
        go_enter Try.func19, Try.ntmps19
        go_wp2_with fail
        go_ret
        exact ⟨rfl, rfl⟩
      · have h3' : (said : Int) > 65536 := by omega
        clear h hn hm
        go_enter Try.func19, Try.ntmps19
        go_wp2_with fail
        go_ret
        exact ⟨rfl, rfl⟩
    · have h2' : (n : Int) > 65536 := by omega
      clear h hn hm
      go_enter Try.func19, Try.ntmps19
      go_wp2_with fail
      go_ret
      exact ⟨rfl, rfl⟩
  · have h1' : (m : Int) > 32 := by omega
    clear h hn hm
    go_enter Try.func19, Try.ntmps19
    go_wp2_with fail
    go_ret
    exact ⟨rfl, rfl⟩
end Go.Proofs.Ytoocoobgidoceaa
