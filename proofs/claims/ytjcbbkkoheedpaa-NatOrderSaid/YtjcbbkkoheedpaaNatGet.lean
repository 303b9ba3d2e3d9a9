import Derived.Test.YtjcbbkkoheedpaaNatApp
import Derived.Test.YtjcbbkkoheedpaaNatGetM
import Derived.Test.YtjcbbkkoheedpaaSpBuf
import Derived.StillTailTactics
import Derived.Laws.BitsAllLaws
namespace Go.Proofs.Ytjcbbkkoheedpaa
open Go.RowKit
set_option linter.unusedVariables false

theorem bytesN_bytes (s : ByteArray) : Bytes (bytesN s) := by
  intro x hx
  simp only [bytesN, List.mem_map] at hx
  obtain ⟨b, _, rfl⟩ := hx
  exact b.toNat_lt
theorem run_index_str (s : ByteArray) (j : Nat) (w : World) (hj : j < s.size) :
    (Instr.index 9 (.string s) (.int .i64 (j : Int))).run Try.prog w = .ok (.int .u8 (nth (bytesN s) j : Nat)) w := by
  have hu : Try.prog.underlying 9 = some .string := by kernel_rfl
  have hd : j < s.data.size := hj
  have e : nth (bytesN s) j = (s.data[j]'hd).toNat := by
    unfold bytesN nth
    rw [List.getD_eq_getElem?_getD, List.getElem?_map, Array.getElem?_toList, Array.getElem?_eq_getElem hd]
    rfl
  rw [e]
  simp only [Instr.index, Sem.run_bind, run_underlying hu, asIntOf, Sem.run_pure, Result.andThen_ok]
  simp only [Int.toNat_natCast, getElem?_pos s j hj]
  have h0 : (0 : Int) ≤ (j : Int) := by omega
  simp [h0, go_sem]
  rfl

def GetRel (bs : List Nat) (n g : Nat) (w : World) (i : Value) (wr : World) : Prop :=
  ∃ j : Nat, j ≤ 8 * n ∧ i = .int .i64 (j : Int) ∧ Own wr g 23 .u64 (GL bs n j) ∧ Below w.heap.size w wr

set_option maxHeartbeats 1000000 in
/-- nat.Get -/
theorem get_any (s : ByteArray) (n : Nat) (w : World) (hl : s.size = 8 * n) (hn : n ≤ 16) :
    Calls Try.prog 17 #[.string s] w fun e w' => ∃ g, e = .returned (.tuple #[.slice (some ⟨g, 0, none⟩) n n, .int .i64 0]) ∧ Own w' g 23 .u64 (GL (bytesN s) n (8 * n)) ∧ Below w.heap.size w w' := by
  have hq : (s.size : Int) / 8 = (n : Int) := by omega
  have hq2 : (s.size : Int).tdiv 8 = (n : Int) := by rw [Int.tdiv_eq_ediv_of_nonneg (by omega)]; exact hq
  have hr : (s.size : Int) % 8 = 0 := by omega
  have hn' : (n : Int) ≤ 16 := by omega
  have hd : decide ((16 : Int) < (n : Int)) = false := decide_eq_false (by omega)
  have hmk := run_mk n (by omega)
  have bl := bytesN_length s
  rw [hl] at bl
  have bB := bytesN_bytes s
  have hix : ∀ j, j < 8 * n → ∀ w, (Instr.index 9 (.string s) (.int .i64 (j : Int))).run Try.prog w = .ok (.int .u8 (nth (bytesN s) j : Nat)) w := fun j hj w => run_index_str s j w (by omega)
  generalize bytesN s = bs at *
  have hsz : (s.size : Int) = 8 * (n : Int) := by omega
  go_enter Try.func17, Try.ntmps17
  go_wp2_with fail
  have hst : GetRel bs n w.heap.size w (.int .i64 0) (w.alloc (.cells (lim .u64 (List.replicate n 0)) 23)) :=
    ⟨0, by omega, rfl, by rw [GL_zero]; exact Own.new w _ .u64 (List.replicate n 0), (Below.refl _ _).alloc (Nat.le_refl _) _⟩
  go_loopw [23] (GetRel bs n w.heap.size w) (fun i _ => 8 * n - (intOf i).toNat)
  case atStart => exact hst
  case round =>
    clear hst
    obtain ⟨j, hj, rfl, ow, hb⟩ := hrel
    by_cases hjn : j < 8 * n
    · have hjl : (j : Int) < 8 * (n : Int) := by omega
      have hjm := hix j hjn
      clear hix
      obtain ⟨x8, hx8⟩ : ∃ l, j / 8 = l := ⟨_, rfl⟩
      obtain ⟨k, hk⟩ : ∃ k, n - 1 - j / 8 = k := ⟨_, rfl⟩
      have e1 : (j : Int) / 8 = (x8 : Int) := by omega
      have e2 : (j : Int).tdiv 8 = (x8 : Int) := by rw [← hx8]; rfl
      have e7 : IntKind.i64.wrap (x8 : Int) = (x8 : Int) := by rw [IntKind.wrap_i64]; omega
      have e3 : (n : Int) - 1 - (x8 : Int) = (k : Int) := by omega
      have hkn : k < n := by omega
      have hkn' : (k : Int) < (n : Int) := by omega
      have HS := Lib.hid (GL_step bl hjn)
      have hsm := GL_small bB bl hjn
      have lG := GL_length bs n j
      rw [hk] at hsm HS
      have hbt := bB.getD j
      generalize GL bs n j = G at *
      generalize nth bs j = b at *
      have hca := ow.cell (i := k) (by omega)
      have hfa := ow.frozen k
      clear hx8 hk
      go_wp2_with fail
      go_still_tail 13, (by kernel_rfl)
      change wpList _ _ _ _ _ wr.drew
      have owd := ow.drew
      have hbd : Below w.heap.size w wr.drew := below_drewN hb 1
      have hfa' := owd.frozen k
      have hca' := owd.cell (i := k) (by omega)
      clear ow hb hca hfa
      generalize wr.drew = w5 at *
      go_wp2_with fail
      have ew : bits .or .u64 ((nth G k : Int) * 256) (b : Int) = ((256 * nth G k + b : Nat) : Int) := by
        rw [show (nth G k : Int) * 256 = ((nth G k * 256 : Nat) : Int) by omega, u64_or_nat _ _ (by omega) (by omega), or_byte hbt]
      rw [ew]
      exact ⟨⟨j + 1, by omega, rfl, by rw [HS.out]; exact owd.set _ _, hbd.setCell (p := ⟨w.heap.size, k, none⟩) (Nat.le_refl _) _⟩, by simp [intOf]; omega⟩
    · obtain rfl : j = 8 * n := by omega
      go_wp2_with fail
      go_ret2
      exact ⟨_, rfl, ow, hb⟩
/-- nat.Get, refused -/
theorem get_no (s : ByteArray) (w : World) (h : s.size % 8 ≠ 0 ∨ 128 < s.size) (hs : s.size ≤ maxLen) :
    Calls Try.prog 17 #[.string s] w fun e w' => e = .returned (.tuple #[.slice none 0 0, .int .i64 3]) ∧ w' = w := by
  simp only [maxLen] at hs
  obtain ⟨q, hq⟩ : ∃ q, s.size / 8 = q := ⟨_, rfl⟩
  have e1 : (s.size : Int) / 8 = (q : Int) := by omega
  have e2 : (s.size : Int).tdiv 8 = (q : Int) := by rw [← hq]; rfl
  by_cases h8 : s.size % 8 = 0
  · have e3 : (s.size : Int) % 8 = 0 := by omega
    have hd : decide ((16 : Int) < (q : Int)) = true := decide_eq_true (by omega)
    clear h
    go_enter Try.func17, Try.ntmps17
    go_wp2_with fail
    go_ret2
    exact ⟨rfl, rfl⟩
  · have e3 : ¬ (s.size : Int) % 8 = 0 := by omega
    clear h
    go_enter Try.func17, Try.ntmps17
    go_wp2_with fail
    go_ret2
    exact ⟨rfl, rfl⟩

def RGetRel (bs : List Nat) (n g : Nat) (w : World) (i : Value) (wr : World) : Prop :=
  ∃ j : Nat, j ≤ 8 * n ∧ i = .int .i64 (j : Int) ∧ Own wr g 23 .u64 (RL bs n j) ∧ Below w.heap.size w wr
set_option maxHeartbeats 1000000 in
/-- ref.Get -/
theorem rget_any (s : ByteArray) (n : Nat) (w : World) (hl : s.size = 8 * n) (hn : n ≤ 16) :
    Calls Try.prog 18 #[.string s] w fun e w' => ∃ g, e = .returned (.tuple #[.slice (some ⟨g, 0, none⟩) n n, .int .i64 0]) ∧ Own w' g 23 .u64 (GL (bytesN s) n (8 * n)) ∧ Below w.heap.size w w' := by
  have hq : (s.size : Int) / 8 = (n : Int) := by omega
  have hq2 : (s.size : Int).tdiv 8 = (n : Int) := by rw [Int.tdiv_eq_ediv_of_nonneg (by omega)]; exact hq
  have hr : (s.size : Int) % 8 = 0 := by omega
  have hn' : (n : Int) ≤ 16 := by omega
  have hd : decide ((128 : Int) < (s.size : Int)) = false := decide_eq_false (by omega)
  have hd2 : decide ((128 : Int) < 8 * (n : Int)) = false := decide_eq_false (by omega)
  have hmk := run_mk n (by omega)
  have bl := bytesN_length s
  rw [hl] at bl
  have bB := bytesN_bytes s
  have hix : ∀ j, j < 8 * n → ∀ w, (Instr.index 9 (.string s) (.int .i64 (j : Int))).run Try.prog w = .ok (.int .u8 (nth (bytesN s) j : Nat)) w := fun j hj w => run_index_str s j w (by omega)
  have HE := Lib.hid (RL_end bl)
  generalize bytesN s = bs at *
  have hsz : (s.size : Int) = 8 * (n : Int) := by omega
  go_enter Try.func18, Try.ntmps18
  go_wp2_with fail
  have hst : RGetRel bs n w.heap.size w (.int .i64 0) (w.alloc (.cells (lim .u64 (List.replicate n 0)) 23)) :=
    ⟨0, by omega, rfl, by rw [RL_zero]; exact Own.new w _ .u64 (List.replicate n 0), (Below.refl _ _).alloc (Nat.le_refl _) _⟩
  go_loopw [5] (RGetRel bs n w.heap.size w) (fun i _ => 8 * n - (intOf i).toNat)
  case atStart => exact hst
  case round =>
    clear hst
    obtain ⟨j, hj, rfl, ow, hb⟩ := hrel
    by_cases hjn : j < 8 * n
    · have hjl : (j : Int) < 8 * (n : Int) := by omega
      have hjm := hix j hjn
      clear hix
      obtain ⟨p, hp⟩ : ∃ p, 8 * n - 1 - j = p := ⟨_, rfl⟩
      obtain ⟨k, hk⟩ : ∃ k, n - 1 - j / 8 = k := ⟨_, rfl⟩
      obtain ⟨y8, hy8⟩ : ∃ l, 7 - j % 8 = l := ⟨_, rfl⟩
      obtain ⟨z8, hz8⟩ : ∃ l, 8 * y8 = l := ⟨_, rfl⟩
      have e0 : 8 * (n : Int) - 1 - (j : Int) = (p : Int) := by omega
      have e1 : (p : Int) / 8 = (k : Int) := by omega
      have e2 : (p : Int).tdiv 8 = (k : Int) := by rw [Int.tdiv_eq_ediv_of_nonneg (by omega)]; exact e1
      have e7 : IntKind.i64.wrap (k : Int) = (k : Int) := by rw [IntKind.wrap_i64]; omega
      have e3 : (p : Int) % 8 = (y8 : Int) := by omega
      have e4 : (p : Int).tmod 8 = (y8 : Int) := by rw [Int.tmod_eq_emod_of_nonneg (by omega)]; exact e3
      have e5 : 8 * (y8 : Int) = (z8 : Int) := by omega
      have e6 : IntKind.i64.wrap (z8 : Int) = (z8 : Int) := by rw [IntKind.wrap_i64]; omega
      have e8 : IntKind.i64.wrap (y8 : Int) = (y8 : Int) := by rw [IntKind.wrap_i64]; omega
      have e9 : IntKind.u64.wrap (z8 : Int) = (z8 : Int) := by rw [IntKind.wrap_u64]; omega
      have e10 : IntKind.i64.wrap (p : Int) = (p : Int) := by rw [IntKind.wrap_i64]; omega
      have hz64 : (z8 : Int) ≤ 64 := by omega
      have hz0 : (0 : Int) ≤ (z8 : Int) := by omega
      have hkn : k < n := by omega
      have hkn' : (k : Int) < (n : Int) := by omega
      have HS := Lib.hid (RL_step bl hjn)
      have hsm := RL_small bB bl hjn
      have lG := RL_length bs n j
      rw [hk, hy8, hz8] at hsm HS
      have hbt := bB.getD j
      generalize RL bs n j = G at *
      generalize nth bs j = b at *
      have hca := ow.cell (i := k) (by omega)
      have hfa := ow.frozen k
      clear hk hy8 hz8 hp
      go_wp2_with fail
      go_still_tail 19, (by kernel_rfl)
      change wpList _ _ _ _ _ wr.drew
      have owd := ow.drew
      have hbd : Below w.heap.size w wr.drew := below_drewN hb 1
      have hfa' := owd.frozen k
      have hca' := owd.cell (i := k) (by omega)
      clear ow hb hca hfa
      generalize wr.drew = w5 at *
      go_wp2_with fail
      have ew : IntKind.u64.wrap ((nth G k : Int) + IntKind.u64.wrap ((b : Int) * 2 ^ z8)) = ((nth G k + b * 2 ^ z8 : Nat) : Int) := by
        rw [show ((b : Int) * 2 ^ z8) = ((b * 2 ^ z8 : Nat) : Int) by simp, IntKind.wrap_u64, IntKind.wrap_u64]
        generalize b * 2 ^ z8 = bz at hsm ⊢
        omega
      rw [ew]
      exact ⟨⟨j + 1, by omega, rfl, by rw [HS.out]; exact owd.set _ _, hbd.setCell (p := ⟨w.heap.size, k, none⟩) (Nat.le_refl _) _⟩, by simp [intOf]; omega⟩
    · obtain rfl : j = 8 * n := by omega
      rw [HE.out] at ow
      go_wp2_with fail
      go_ret2
      exact ⟨_, rfl, ow, hb⟩
/-- ref.Get, refused -/
theorem rget_no (s : ByteArray) (w : World) (h : s.size % 8 ≠ 0 ∨ 128 < s.size) (hs : s.size ≤ maxLen) :
    Calls Try.prog 18 #[.string s] w fun e w' => e = .returned (.tuple #[.slice none 0 0, .int .i64 3]) ∧ w' = w := by
  simp only [maxLen] at hs
  by_cases h8 : s.size % 8 = 0
  · have e3 : (s.size : Int) % 8 = 0 := by omega
    have hd : decide ((128 : Int) < (s.size : Int)) = true := decide_eq_true (by omega)
    clear h
    go_enter Try.func18, Try.ntmps18
    go_wp2_with fail
    go_ret2
    exact ⟨rfl, rfl⟩
  · have e3 : ¬ (s.size : Int) % 8 = 0 := by omega
    clear h
    go_enter Try.func18, Try.ntmps18
    go_wp2_with fail
    go_ret2
    exact ⟨rfl, rfl⟩
end Go.Proofs.Ytjcbbkkoheedpaa
