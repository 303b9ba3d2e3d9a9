/- Chapter 24: hex. -/
import Derived.Test.YtdilgmokiclfaaaDoorScA
import Derived.Test.YtdilgmokiclfaaaDoorOaAll
import Derived.Deep.AppendLies
namespace Go.Proofs.YtdilgmokiclfaaaDoor
open Go.RowKit
set_option linter.unusedVariables false
set_option maxRecDepth 100000

/-- A number's digit of sixteen. -/
def hexD (v i : Nat) : Nat := nth (fl v) (i / 16) / 2 ^ (4 * (i % 16)) % 16
def digC (y : Nat) : Nat := if y < 10 then 48 + y else 87 + y
def hexN (v : Nat) : Nat → List Nat
  | 0 => []
  | j + 1 => if (hexN v j ≠ [] ∨ 0 < hexD v (63 - j)) ∨ j = 63 then hexN v j ++ [digC (hexD v (63 - j))] else hexN v j
theorem hexN_yes {v j : Nat} (h : (hexN v j ≠ [] ∨ 0 < hexD v (63 - j)) ∨ j = 63) : hexN v (j + 1) = hexN v j ++ [digC (hexD v (63 - j))] := if_pos h
theorem hexN_no {v j : Nat} (h : ¬ ((hexN v j ≠ [] ∨ 0 < hexD v (63 - j)) ∨ j = 63)) : hexN v (j + 1) = hexN v j := if_neg h
theorem digC_lt {y : Nat} (h : y < 16) : digC y < 256 := by unfold digC; split <;> omega
theorem hexN_byt (v : Nat) : ∀ j, Byt (hexN v j)
  | 0 => fun x hx => by cases hx
  | j + 1 => by
    by_cases h : (hexN v j ≠ [] ∨ 0 < hexD v (63 - j)) ∨ j = 63
    · rw [hexN_yes h]
      exact (hexN_byt v j).append fun x hx => by rw [List.mem_singleton.1 hx]; exact digC_lt (Nat.mod_lt _ (by decide))
    · rw [hexN_no h]; exact hexN_byt v j
theorem hexN_len (v : Nat) : ∀ j, (hexN v j).length ≤ j
  | 0 => Nat.le_refl _
  | j + 1 => by
    have := hexN_len v j
    by_cases h : (hexN v j ≠ [] ∨ 0 < hexD v (63 - j)) ∨ j = 63
    · rw [hexN_yes h, List.length_append]; simp; omega
    · rw [hexN_no h]; omega
/-- The text of a number. -/
def hexB (v : Nat) : ByteArray := strN (hexN v 64)
theorem strN_one (y : Nat) : strN [y] = ⟨#[UInt8.ofNat y]⟩ := rfl
theorem strN_empty {l : List Nat} : (strN l).toList.isEmpty = l.isEmpty := by
  rw [ByteArray.toList_eq]
  unfold strN
  cases l <;> rfl

theorem shrAnd15 (x r : Nat) (hx : x < 18446744073709551616) : bits .and .u64 ((x : Int) / 2 ^ r) 15 = ((x / 2 ^ r % 16 : Nat) : Int) := by
  have e : (x : Int) / 2 ^ r = ((x / 2 ^ r : Nat) : Int) := by simp
  have h : x / 2 ^ r ≤ x := Nat.div_le_self _ _
  have h1 := bits_and_u64_nat (x / 2 ^ r) 15 (by omega) (by decide)
  rw [e]
  refine h1.trans ?_
  rw [show (15 : Nat) = 2 ^ 4 - 1 from rfl, Nat.and_two_pow_sub_one_eq_mod]
theorem hexN_str {v j : Nat} {l : List Nat} (h : hexN v j = l) : (strN l).toList.isEmpty = l.isEmpty := strN_empty
theorem conv_byte (b : UInt8) (W : World) : (convert 40 9 (.slice (some ⟨W.heap.size, 0, none⟩) 1 1)).run Tryd.prog (W.alloc (.cells #[.int .u8 (b.toNat : Nat)] 5)) = .ok (.string ⟨#[b]⟩) (W.alloc (.cells #[.int .u8 (b.toNat : Nat)] 5)) := by
  have h := conv_new W [b.toNat] rfl (fun x hx => by rw [List.mem_singleton.1 hx]; exact b.toNat_lt)
  rw [strN_one, UInt8.ofNat_toNat] at h
  exact h
def HxRel (v : Nat) (w : World) (s i : Value) (wr : World) : Prop :=
  ∃ j : Nat, j ≤ 64 ∧ i = .int .i64 (63 - (j : Int)) ∧ s = .string (strN (hexN v j)) ∧ Below w.heap.size w wr
set_option maxHeartbeats 4000000 in
/-- script.hex -/
theorem hex_any (v : Nat) (w : World) :
    Calls Tryd.prog 20 #[.agg (lim .u64 (fl v))] w fun e w' => e = .returned (.string (hexB v)) ∧ Below w.heap.size w w' := by
  have hal : Tryd.prog.arrayLen 24 = 4 := by kernel_rfl
  have o1 := Own.new w 24 .u64 (fl v)
  have b0 := (Below.refl w.heap.size w).alloc (Nat.le_refl _) (.cells (lim .u64 (fl v)) 24)
  have hx : (fl v).length = 4 := rfl
  go_enter Tryd.func20, Tryd.ntmps20
  go_wp2_with fail
  have Ho := Lib.hid o1
  generalize w.alloc (.cells (lim .u64 (fl v)) 24) = W1 at *
  have hst : HxRel v W1 (.string ⟨#[]⟩) (.int .i64 63) W1 := ⟨0, by omega, rfl, rfl, Below.refl _ _⟩
  have Hb := Lib.hid b0
  clear b0
  go_loopw [3, 4] (HxRel v W1) (fun _ i _ => (intOf i + 1).toNat)
  case atStart => exact hst
  case round =>
    clear hst
    obtain ⟨j, hj, rfl, rfl, hb⟩ := hrel
    by_cases hj64 : j < 64
    · obtain ⟨p, hp⟩ : ∃ p, 63 - j = p := ⟨_, rfl⟩
      obtain ⟨k, hk⟩ : ∃ k, p / 16 = k := ⟨_, rfl⟩
      obtain ⟨y8, hy8⟩ : ∃ l, p % 16 = l := ⟨_, rfl⟩
      obtain ⟨z8, hz8⟩ : ∃ l, 4 * y8 = l := ⟨_, rfl⟩
      have e0 : 63 - (j : Int) = (p : Int) := by omega
      have e1 : (p : Int) / 16 = (k : Int) := by omega
      have e2 : (p : Int).tdiv 16 = (k : Int) := by rw [Int.tdiv_eq_ediv_of_nonneg (by omega)]; exact e1
      have e3 : (p : Int) % 16 = (y8 : Int) := by omega
      have e4 : (p : Int).tmod 16 = (y8 : Int) := by rw [Int.tmod_eq_emod_of_nonneg (by omega)]; exact e3
      have e5 : 4 * (y8 : Int) = (z8 : Int) := by omega
      have e6 : IntKind.i64.wrap (z8 : Int) = (z8 : Int) := by rw [IntKind.wrap_i64]; omega
      have e7 : IntKind.i64.wrap (k : Int) = (k : Int) := by rw [IntKind.wrap_i64]; omega
      have e8 : IntKind.i64.wrap (y8 : Int) = (y8 : Int) := by rw [IntKind.wrap_i64]; omega
      have hz64 : (z8 : Int) < 64 := by omega
      have hz64' : (z8 : Int) ≤ 64 := by omega
      have hz0 : (0 : Int) ≤ (z8 : Int) := by omega
      have hk4 : (k : Int) < 4 := by omega
      have hkn : k < 4 := by omega
      have hcx : wr.cell? ⟨w.heap.size, k, none⟩ = some (.int .u64 (nth (fl v) k : Nat)) := (hb.cell (p := ⟨w.heap.size, k, none⟩) Ho.out.lt).trans (Ho.out.cell (by omega))
      obtain ⟨y, hy⟩ : ∃ y, nth (fl v) k / 2 ^ z8 % 16 = y := ⟨_, rfl⟩
      have hsh := shrAnd15 (nth (fl v) k) z8 ((fl_ok v).getD k)
      rw [hy] at hsh
      have hD : hexD v (63 - j) = y := by unfold hexD; rw [hp, hk, hy8, hz8, hy]
      have HD := Lib.hid hD
      have hy16 : y < 16 := by rw [← hy]; exact Nat.mod_lt _ (by decide)
      have HY := Lib.hid hy16
      have HP := Lib.hid hp
      clear hD hy hp hk hy8 hz8 hy16
      have hj63 : (p = 0) = (j = 63) := by rw [← HP.out]; simp only [eq_iff_iff]; omega
      have HJ := Lib.hid hj63
      clear hj63
      rw [e0]
      have E0 := Lib.hid e0
      clear e0
      go_upto_region 6 with fail
      obtain ⟨l, hl⟩ : ∃ l, hexN v j = l := ⟨_, rfl⟩
      rw [hl]
      have HL := Lib.hid hl
      clear hl
      have hE := strN_empty (l := l)
      go_cut [28] from 19 to 28 (fun c W => c = .bool (decide ((l ≠ [] ∨ 0 < y) ∨ p = 0)) ∧ W = wr)
      case first =>
        cases hl0 : l.isEmpty with
        | true =>
          have hl1 : l = [] := List.isEmpty_iff.1 hl0
          have HL1 := Lib.hid hl1
          clear hl1
          rw [hl0] at hE
          have Hl0 := Lib.hid hl0
          clear hl0
          by_cases hy0 : 0 < y
          · have hy0' : (0 : Int) < (y : Int) := by omega
            have HY0 := Lib.hid hy0
            go_wp2_with fail
            go_meet
            case rel => exact ⟨congrArg Value.bool (decide_eq_true (.inl (.inr HY0.out))).symm, rfl⟩
          · have hy0' : ¬ (0 : Int) < (y : Int) := by omega
            by_cases hp0 : p = 0
            · have hp0' : ((p : Int) == 0) = true := by simp [hp0]
              have HP0 := Lib.hid hp0
              clear hp0
              go_wp2_with fail
              go_meet
              case rel => exact ⟨congrArg Value.bool (decide_eq_true (.inr HP0.out)).symm, rfl⟩
            · have hp0' : ((p : Int) == 0) = false := by simpa using hp0
              have HP0 := Lib.hid hp0
              clear hp0
              have HY0 := Lib.hid hy0
              go_wp2_with fail
              go_meet
              case rel => exact ⟨congrArg Value.bool (decide_eq_false (fun h => h.elim (fun h => h.elim (fun h => h HL1.out) HY0.out) HP0.out)).symm, rfl⟩
        | false =>
          have hl1 : l ≠ [] := fun e => by rw [e] at hl0; cases hl0
          have HL1 := Lib.hid hl1
          clear hl1
          rw [hl0] at hE
          have Hl0 := Lib.hid hl0
          clear hl0
          go_wp2_with fail
          go_meet
          case rel => exact ⟨congrArg Value.bool (decide_eq_true (.inl (.inl HL1.out))).symm, rfl⟩
      case rest =>
        obtain ⟨rfl, rfl⟩ := hcut
        clear hE
        by_cases hq : (l ≠ [] ∨ 0 < y) ∨ p = 0
        · rw [decide_eq_true hq]
          have hR : HxRel v W1 (.string (strN l ++ strN [digC y])) (.int .i64 ((p : Int) - 1)) (wc.alloc (.cells #[.int .u8 (digC y : Nat)] 5)) := by
            refine ⟨j + 1, by omega, int_eq (by have := E0.out; omega), ?_, hb.alloc hb.size _⟩
            rw [hexN_yes (by rw [HL.out, HD.out, ← HJ.out]; exact hq), HL.out, HD.out, strN_append]
          have HR := Lib.hid hR
          clear hR hq
          have hy := HY.out
          have hy16 : y = 0 ∨ y = 1 ∨ y = 2 ∨ y = 3 ∨ y = 4 ∨ y = 5 ∨ y = 6 ∨ y = 7 ∨ y = 8 ∨ y = 9 ∨ y = 10 ∨ y = 11 ∨ y = 12 ∨ y = 13 ∨ y = 14 ∨ y = 15 := by omega
          have hsz : ¬ 9223372036854775807 < (strN l).size + 1 := by rw [strN_size, ← HL.out]; have := hexN_len v j; omega
          clear HD HY hsh
          rcases hy16 with rfl | rfl | rfl | rfl | rfl | rfl | rfl | rfl | rfl | rfl | rfl | rfl | rfl | rfl | rfl | rfl
          all_goals
            have hc := conv_byte
            go_wp2_with fail
            all_goals first | exact ⟨HR.out, by simp [intOf]; omega⟩ | exact ⟨HR.out, by simp [intOf]⟩
        · rw [decide_eq_false hq]
          have hR : HxRel v W1 (.string (strN l)) (.int .i64 ((p : Int) - 1)) wc := by
            refine ⟨j + 1, by omega, int_eq (by have := E0.out; omega), ?_, hb⟩
            rw [hexN_no (by rw [HL.out, HD.out, ← HJ.out]; exact hq), HL.out]
          have HR := Lib.hid hR
          clear hR hq
          go_wp2_with fail
          exact ⟨HR.out, by simp [intOf]⟩
    · obtain rfl : j = 64 := by omega
      have e0 : (63 : Int) - ((64 : Nat) : Int) = -1 := by omega
      rw [e0]
      go_wp2_with fail
      go_ret
      exact ⟨rfl, Hb.out.trans (hb.mono Hb.out.size)⟩
end Go.Proofs.YtdilgmokiclfaaaDoor
