/- Chapter 24: the reference's Cut, digit, small. -/
import Derived.Test.YtdilgmokiclfaaaDoorScV
import Derived.Test.YtdilgmokiclfaaaDoorScZb
import Derived.BigQuiet
namespace Go.Proofs.YtdilgmokiclfaaaDoor
open Go.RowKit
set_option linter.unusedVariables false
set_option maxRecDepth 100000

theorem nth_data {s : ByteArray} {k : Nat} (hk : k < s.size) : ∃ c : UInt8, s.data.toList[k]? = some c ∧ nth (bytesN s) k = c.toNat := by
  have hd : k < s.data.toList.length := by rw [Array.length_toList]; exact hk
  refine ⟨s.data.toList[k], List.getElem?_eq_getElem hd, ?_⟩
  unfold bytesN nth
  rw [List.getD_eq_getElem?_getD, List.getElem?_map, List.getElem?_eq_getElem hd]
  rfl
theorem take_next {s : ByteArray} {k : Nat} {c : UInt8} (h : s.data.toList[k]? = some c) : s.data.toList.take (k + 1) = s.data.toList.take k ++ [c] := by
  rw [List.take_add_one, h]; rfl
theorem split_at {s : ByteArray} {k : Nat} {c : UInt8} (h : s.data.toList[k]? = some c) : s.data.toList = s.data.toList.take k ++ c :: s.data.toList.drop (k + 1) := by
  have hk : k < s.data.toList.length := (List.getElem?_eq_some_iff.1 h).1
  rw [List.getElem?_eq_getElem hk] at h
  have e := Option.some.inj h
  rw [← e, List.getElem_cons_drop, List.take_append_drop]
def IxCt (s : ByteArray) (c : UInt8) (w : World) (i : Value) (wr : World) : Prop := ∃ k : Nat, k ≤ s.size ∧ i = .int .i64 (k : Int) ∧ c ∉ s.data.toList.take k ∧ wr = w
set_option maxHeartbeats 4000000 in
/-- ref.Cut -/
theorem rcut_any (s : ByteArray) (c : UInt8) (w : World) (hs : s.size ≤ 100000000) :
    Calls Tryd.prog 40 #[.string s, .int .u8 (c.toNat : Nat)] w fun e w' => e = .returned (.tuple #[.string ⟨(Lib.cut s.data.toList [c]).1.toArray⟩, .string ⟨(Lib.cut s.data.toList [c]).2.1.toArray⟩, .bool (Lib.cut s.data.toList [c]).2.2]) ∧ Below w.heap.size w w' := by
  have hix : ∀ j, j < s.size → ∀ w, (Instr.index 9 (.string s) (.int .i64 (j : Int))).run Tryd.prog w = .ok (.int .u8 (nth (bytesN s) j : Nat)) w := fun j hj w => run_index_s s j w hj
  have HIX := Lib.hid hix
  have hlt8 := c.toNat_lt
  obtain ⟨cn, hcn⟩ : ∃ x, x = c.toNat := ⟨_, rfl⟩
  rw [← hcn] at hlt8 ⊢
  have HCN := Lib.hid hcn
  clear hix hcn
  go_enter Tryd.func40, Tryd.ntmps40
  go_wp2_with fail
  go_loopw [7] (IxCt s c w) (fun i _ => s.size - (intOf i).toNat)
  case atStart => exact ⟨0, Nat.zero_le _, rfl, by simp, rfl⟩
  case round =>
    obtain ⟨k, hk, rfl, hno, rfl⟩ := hrel
    have HNO := Lib.hid hno
    clear hno
    rcases Nat.lt_or_ge k s.size with hlt | hge
    · have hkn : (k : Int) < (s.size : Int) := by omega
      have hx := HIX.out k hlt
      obtain ⟨d, hd1, hd2⟩ := nth_data hlt
      rw [hd2] at hx
      have hd8 := d.toNat_lt
      obtain ⟨dn, hdn⟩ : ∃ x, x = d.toNat := ⟨_, rfl⟩
      rw [← hdn] at hx hd8
      have HD := Lib.hid hd1
      have HDN := Lib.hid hdn
      clear hd1 hd2 hdn
      by_cases hq : dn = cn
      · have hqb : (((dn : Nat) : Int) == ((cn : Nat) : Int)) = true := by simp [hq]
        have HQ := Lib.hid hq
        clear hq
        go_wp2_with fail
        go_quiet (fail)
        go_wp2_with fail
        have hdc : d = c := UInt8.toNat_inj.1 (by rw [← HDN.out, ← HCN.out]; exact HQ.out)
        have hsp := split_at HD.out
        have hc : Lib.cut s.data.toList [c] = (s.data.toList.take k, s.data.toList.drop (k + 1), true) := by
          have h := cut_hit c (s.data.toList.take k) (s.data.toList.drop (k + 1)) HNO.out
          rw [hdc] at hsp
          rw [← hsp] at h
          exact h
        have e1 : s.extract 0 k = ⟨(s.data.toList.take k).toArray⟩ := ba_ext (by rw [Lib.extract_from_zero])
        have e2 : s.extract (k + 1) s.size = ⟨(s.data.toList.drop (k + 1)).toArray⟩ := ba_ext (by rw [Lib.extract_to_end])
        rw [hc]
        go_ret3
        exact ⟨by rw [← e1, ← e2]; rfl, below_drewN (Below.refl wr.heap.size wr) _⟩
      · have hqb : (((dn : Nat) : Int) == ((cn : Nat) : Int)) = false := beq_eq_false_iff_ne.2 (by omega)
        have HQ := Lib.hid hq
        clear hq
        go_wp2_with fail
        refine ⟨⟨k + 1, by omega, int_eq (by omega), fun hm => ?_, rfl⟩, by simp [intOf]; omega⟩
        rw [take_next HD.out] at hm
        rcases List.mem_append.1 hm with hm | hm
        · exact HNO.out hm
        · have := List.mem_singleton.1 hm
          exact HQ.out (by rw [HDN.out, HCN.out, this])
    · obtain rfl : k = s.size := by omega
      have hkn : ¬ (s.size : Int) < (s.size : Int) := by omega
      go_wp2_with fail
      have hno : c ∉ s.data.toList := fun hm => HNO.out (by
        rw [List.take_of_length_le (by rw [Array.length_toList]; exact Nat.le_refl _)]; exact hm)
      rw [cut_miss c _ hno]
      go_ret3
      exact ⟨by simp, Below.refl _ _⟩
theorem hexOk_no {c : Nat} (h1 : ¬ (48 ≤ c ∧ c ≤ 57)) (h2 : ¬ (97 ≤ c ∧ c ≤ 102)) : hexOk c = false := decide_eq_false (by omega)
set_option maxHeartbeats 2000000 in
/-- digit -/
theorem digit_any (c : Nat) (hc : c < 256) (w : World) :
    Calls Tryd.prog 79 #[.int .u8 (c : Nat)] w fun e w' => e = .returned (.tuple #[.int .u64 ((if hexOk c then hexV c else 0 : Nat) : Int), .bool (hexOk c)]) ∧ w' = w := by
  obtain ⟨z, hz⟩ : ∃ z : Int, z = ((if hexOk c then hexV c else 0 : Nat) : Int) := ⟨_, rfl⟩
  obtain ⟨ok, hok⟩ : ∃ x, x = hexOk c := ⟨_, rfl⟩
  rw [← hz, ← hok]
  have HZ := Lib.hid hz
  have HOK := Lib.hid hok
  clear hz hok
  have hyes : ∀ (hx : (48 ≤ c ∧ c ≤ 57) ∨ (97 ≤ c ∧ c ≤ 102)), hexOk c = true := fun hx => decide_eq_true (by omega)
  have HY := Lib.hid hyes
  clear hyes
  go_enter Tryd.func79, Tryd.ntmps79
  by_cases h1 : (48 : Int) ≤ (c : Int)
  · by_cases h2 : (c : Int) ≤ 57
    · go_wp2_with fail
      go_ret2
      have hy := HY.out (by omega)
      refine ⟨?_, rfl⟩
      rw [HZ.out, HOK.out, hy, if_pos rfl]
      unfold hexV
      rw [if_neg (by omega), show ((c : Int) - 48) = ((c - 48 : Nat) : Int) by omega]
      rfl
    · by_cases h3 : (97 : Int) ≤ (c : Int)
      · by_cases h4 : (c : Int) ≤ 102
        · go_wp2_with fail
          go_ret2
          have hy := HY.out (by omega)
          refine ⟨?_, rfl⟩
          rw [HZ.out, HOK.out, hy, if_pos rfl]
          unfold hexV
          rw [if_pos (by omega), show ((c : Int) - 97 + 10) = ((c - 87 : Nat) : Int) by omega]
          rfl
        · go_wp2_with fail
          go_ret2
          have hy := hexOk_no (c := c) (by omega) (by omega)
          refine ⟨?_, rfl⟩
          rw [HZ.out, HOK.out, hy]
          rfl
      · go_wp2_with fail
        go_ret2
        have hy := hexOk_no (c := c) (by omega) (by omega)
        refine ⟨?_, rfl⟩
        rw [HZ.out, HOK.out, hy]
        rfl
  · have h3 : ¬ (97 : Int) ≤ (c : Int) := by omega
    go_wp2_with fail
    go_ret2
    have hy := hexOk_no (c := c) (by omega) (by omega)
    refine ⟨?_, rfl⟩
    rw [HZ.out, HOK.out, hy]
    rfl
end Go.Proofs.YtdilgmokiclfaaaDoor
