/- Chapter 24: the reference's fields, Line and Text. -/
import Derived.Test.YtdilgmokiclfaaaDoorScN
namespace Go.Proofs.YtdilgmokiclfaaaDoor
open Go.RowKit
set_option linter.unusedVariables false
set_option maxRecDepth 100000

def RfRel (word : ByteArray) (xs : List Nat) (W : World) (v i : Value) (wr : World) : Prop :=
  ∃ k : Nat, k ≤ xs.length ∧ i = .int .i64 (k : Int) ∧ v = .string (accB word ((xs.take k).map hexB)) ∧ Below W.heap.size W wr
set_option maxHeartbeats 4000000 in
/-- ref.fields -/
theorem rfields_any (word : ByteArray) (A : Option Addr) (n c : Nat) (xs : List Nat) (w : World) (H : FrS w A n c xs) (hn : n ≤ 1000) (hw : word.size ≤ 1000) :
    Calls Tryd.prog 38 #[.string word, .slice A n c] w fun e w' => e = .returned (.string (lineB (fieldsWs word xs))) ∧ Below w.heap.size w w' := by
  have hcl : Tryd.prog.cellsOf 24 = 4 := by kernel_rfl
  have hlen := Lib.hid H.len
  have H' := Lib.hid H
  have hn' := H.lim
  have hc := H.cap
  unfold maxLen at hc
  have HW := Lib.hid hw
  clear H hw
  have hbound : ∀ k, (accB word ((xs.take k).map hexB)).size ≤ 1000 + 1000 * 65 := by
    intro k
    have h1 := accB_size word ((xs.take k).map hexB) 64 (fun y hy => by obtain ⟨x, _, rfl⟩ := List.mem_map.1 hy; exact hexB_size x)
    rw [List.length_map, List.length_take] at h1
    have := hlen.out
    have := HW.out
    have h2 : min k xs.length * (64 + 1) ≤ 1000 * 65 := Nat.mul_le_mul (by omega) (Nat.le_refl _)
    omega
  have HBo := Lib.hid hbound
  clear hbound
  go_enter Tryd.func38, Tryd.ntmps38
  go_wp2_with fail
  have hst : RfRel word xs w (.string word) (.int .i64 0) w := ⟨0, Nat.zero_le _, rfl, rfl, Below.refl _ _⟩
  have Hst := Lib.hid hst
  clear hst
  go_loopw [5, 11] (RfRel word xs w) (fun _ i _ => n - (intOf i).toNat)
  case atStart => exact Hst.out
  case round =>
    clear Hst
    obtain ⟨k, hk, rfl, rfl, hb⟩ := hrel
    obtain ⟨s, hs⟩ : ∃ s, accB word ((xs.take k).map hexB) = s := ⟨_, rfl⟩
    have hss := HBo.out k
    rw [hs] at hss ⊢
    have HS := Lib.hid hs
    clear hs
    rcases Nat.lt_or_ge k xs.length with hlt | hge
    · obtain ⟨bk, off, rfl, hbl, hr0⟩ := H'.out.at hlt
      have hkn : (k : Int) < (n : Int) := by have := hlen.out; omega
      have R := rangeAt_bel hr0 hb hbl
      have Hz := Lib.hid (take_succ_get hlt)
      clear hr0
      generalize xs[k] = z at *
      have hz4 : (fl z).length = 4 := rfl
      have o1 := Own.new wr 24 .u64 (fl z)
      have bn := hb.alloc hb.size (.cells (lim .u64 (fl z)) 24)
      have Lz := frC_arr z
      have D := Lib.hid (rhex_any z)
      have hzs := hexB_size z
      have hq1 : ¬ 9223372036854775807 < s.size + 1 := by omega
      have hq2 : ¬ 9223372036854775807 < s.size + 1 + (hexB z).size := by omega
      clear hb
      go_wp2_with (first
        | refine wpList_load_mid rfl 24 (.tmp 13) rfl bk (off + k * 4) rfl (frC z) _ R Tryd.underlying24 rfl (by kernel_rfl) ?_
        | refine wpList_store_new rfl 24 (.tmp 7) (.tmp 14) rfl .u64 (fl z) rfl (by rw [← Lz]; rfl) 24 _ (by kernel_rfl) rfl ?_
        | refine own_load o1 rfl 24 (.tmp 7) rfl rfl 4 22 hz4 (by kernel_rfl) (by kernel_rfl) ?_)
      generalize wr.alloc (.cells (lim .u64 (fl z)) 24) = W5 at *
      refine (D.out _).mono ?_
      rintro e w6 ⟨rfl, b6⟩
      have hb6 := bn.trans (b6.mono bn.size)
      go_wp2_with fail
      refine ⟨⟨k + 1, by omega, int_eq (by omega), ?_, hb6⟩, by simp [intOf]; omega⟩
      rw [Hz.out, List.map_append, accB_append, HS.out]
      rfl
    · obtain rfl : k = xs.length := by omega
      have hkn : ¬ ((xs.length : Nat) : Int) < (n : Int) := by have := hlen.out; omega
      have hq1 : ¬ 9223372036854775807 < s.size + 1 := by omega
      go_wp2_with fail
      go_ret
      refine ⟨?_, hb⟩
      have := HS.out
      rw [List.take_length] at this
      unfold lineB fieldsWs
      rw [joinB_cons, this]
      rfl
theorem joinB_line (o : OpD) : joinB (lineWs o) = accB (accB (wordB o.t) (namesWs o)) (tailWs o) := by
  unfold lineWs
  rw [joinB_cons, accB_append]
theorem take3_size (wd : ByteArray) (a b c : Int) (j : Nat) (ha : inB a = true) (hb : inB b = true) (hc : inB c = true) (hw : wd.size ≤ 6) : (accB wd (([a, b, c].take j).map itB)).size ≤ 100 := by
  have h1 := accB_size wd (([a, b, c].take j).map itB) 21 (fun y hy => by
    obtain ⟨z, hz, rfl⟩ := List.mem_map.1 hy
    have hz' := List.mem_of_mem_take hz
    simp only [List.mem_cons, List.not_mem_nil, or_false] at hz'
    rcases hz' with rfl | rfl | rfl
    · exact itB_size _ ha
    · exact itB_size _ hb
    · exact itB_size _ hc)
  rw [List.length_map, List.length_take] at h1
  have h2 : min j ([a, b, c] : List Int).length * (21 + 1) ≤ 3 * 22 := Nat.mul_le_mul (Nat.min_le_right _ _) (Nat.le_refl _)
  omega
def N3 (wd : ByteArray) (a b c : Int) (j : Nat) (W : World) (v : Value) (W' : World) : Prop := v = .string (accB wd (([a, b, c].take j).map itB)) ∧ Below W.heap.size W W'
theorem pairs_size (s : ByteArray) (ks : List Nat) (vs : List Int) (h : ∀ v ∈ vs, inB v = true) : (accB s (pairsWs ks vs)).size ≤ s.size + 2 * ks.length * 65 := by
  have h1 := accB_size s (pairsWs ks vs) 64 (fun y hy => mem_pairsWs h hy)
  have h2 : (pairsWs ks vs).length * (64 + 1) ≤ 2 * ks.length * 65 := Nat.mul_le_mul (pairsWs_len ks vs) (Nat.le_refl _)
  omega
theorem tail_split {o : OpD} (h : ¬ o.t = 6 → o.vs = [] ∧ o.ks = []) : tailWs o = (if o.t = 3 then [hexB o.k] else []) ++ (if o.t = 10 then [itB o.n] else []) ++ pairsWs o.ks o.vs := by
  by_cases h6 : o.t = 6
  · rw [tail6 h6, if_neg (by omega), if_neg (by omega)]; rfl
  · obtain ⟨h1, h2⟩ := h h6
    rw [h1, h2]
    by_cases h3 : o.t = 3
    · rw [tail3 h3, if_pos h3, if_neg (by omega)]; rfl
    · by_cases h10 : o.t = 10
      · rw [tail10 h10, if_neg h3, if_pos h10]; rfl
      · rw [tail0 h3 h10 h6, if_neg h3, if_neg h10]; rfl
def RlRel (s : ByteArray) (ks : List Nat) (vs : List Int) (W : World) (v i : Value) (wr : World) : Prop :=
  ∃ k : Nat, k ≤ vs.length ∧ i = .int .i64 (k : Int) ∧ v = .string (accB s (pairsWs (ks.take k) (vs.take k))) ∧ Below W.heap.size W wr
/-- A right operation that is no sum has no lists. -/
theorem lists_none {o : OpD} (h : opOk o = true) (h6 : ¬ o.t = 6) : o.vs = [] ∧ o.ks = [] := by
  unfold opOk at h
  simp only [Bool.and_eq_true] at h
  have hh := h.1.1.1.1
  unfold headOk at hh
  simp only [Bool.and_eq_true] at hh
  have := hh.2
  rw [if_neg h6] at this
  simp only [Bool.and_eq_true, beq_iff_eq, List.length_eq_zero_iff] at this
  exact this
set_option maxHeartbeats 8000000 in
/-- ref.Line -/
theorem rline_any (o : OpD) (KA : Option Addr) (kc : Nat) (VA : Option Addr) (vc : Nat) (w : World) (hk : o.k < pw 4) (HK : FrS w KA o.ks.length kc o.ks) (HV : IntS w VA o.vs.length vc o.vs) (hok : opOk o = true) (hp : Pow w) :
    Calls Tryd.prog 39 #[.agg (opV' o KA kc VA vc)] w fun e w' => e = .returned (.string (lineB (lineWs o))) ∧ Below w.heap.size w w' := by
  have hg := OpG.of hok
  have HNL := Lib.hid (lists_none hok)
  have HSZ := Lib.hid (lineWs_size hg)
  have HJL := Lib.hid (joinB_line o)
  obtain ⟨t, a, b, c, n, k, ks, vs⟩ := o
  obtain ⟨ga, gb, gc, gn, gv, g6⟩ := hg
  dsimp only [opV'] at *
  obtain ⟨L, hL⟩ : ∃ x, x = lineWs ⟨t, a, b, c, n, k, ks, vs⟩ := ⟨_, rfl⟩
  rw [← hL] at HSZ HJL ⊢
  have HL := Lib.hid hL
  clear hL
  have GA := Lib.hid ga
  have GB := Lib.hid gb
  have GC := Lib.hid gc
  have GN := Lib.hid gn
  have GV := Lib.hid gv
  have G6 := Lib.hid g6
  have HHK := Lib.hid HK
  have HHV := Lib.hid HV
  clear ga gb gc gn gv g6 HK HV hok
  have D1 := Lib.hid (fun W => rword_any t W)
  have D2 := Lib.hid (fun W => rnames_any t W)
  have D4 := Lib.hid (fun z W hp hz => itoa_any z W hp hz)
  have x0 := Bk.new w 55 (opV t a b c n (nth (fl k) 0) (nth (fl k) 1) (nth (fl k) 2) (nth (fl k) 3) KA ks.length kc VA vs.length vc)
  have b0 := (Below.refl w.heap.size w).alloc (Nat.le_refl _) (.cells (opV t a b c n (nth (fl k) 0) (nth (fl k) 1) (nth (fl k) 2) (nth (fl k) 3) KA ks.length kc VA vs.length vc) 55)
  have HP := Lib.hid (hp.bel b0)
  clear hp
  go_enter Tryd.func39, Tryd.ntmps39
  go_upto_region 1 with fail
  generalize (w.alloc (.cells (opV t a b c n (nth (fl k) 0) (nth (fl k) 1) (nth (fl k) 2) (nth (fl k) 3) KA ks.length kc VA vs.length vc) 55)) = W1 at *
  obtain ⟨x00, x01, x02, x03, x04, x05, x06, x07, x08, x09, x0a⟩ := opV_c x0
  go_wp2_with fail
  refine (D1.out _).mono ?_
  rintro e w3 ⟨rfl, rfl⟩
  go_wp2_with fail
  refine (D2.out _).mono ?_
  rintro e w4 ⟨rfl, rfl⟩
  dsimp only
  obtain ⟨m, hm⟩ : ∃ m, namesN t = m := ⟨_, rfl⟩
  rw [hm]
  have hm3 : m ≤ 3 := by rw [← hm]; exact namesN_le t
  have HM := Lib.hid hm
  clear hm
  obtain ⟨wd, hwd⟩ : ∃ x, wordB t = x := ⟨_, rfl⟩
  rw [hwd]
  have hws : wd.size ≤ 6 := by rw [← hwd]; exact wordB_size t
  have HWS := Lib.hid hws
  have HWD := Lib.hid hwd
  clear hwd hws
  obtain ⟨W0, hW0⟩ : ∃ x, x = w4 := ⟨_, rfl⟩
  have hbw : Below W0.heap.size W0 w4 := by rw [hW0]; exact Below.refl _ _
  have BW := Lib.hid hbw
  have PW := Lib.hid HP.out
  rw [← hW0] at HP b0 x0
  have X0 := Lib.hid x0
  have B0 := Lib.hid b0
  clear hbw hW0 b0 x0
  have hst0 : wd = accB wd (([a, b, c].take (min m 0)).map itB) := by rw [Nat.min_eq_right (Nat.zero_le _)]; rfl
  go_upto_if 14 with fail
  obtain ⟨s0, hs0'⟩ : ∃ x, x = wd := ⟨_, rfl⟩
  have hs0 : s0 = accB wd (([a, b, c].take (min m 0)).map itB) := hs0'.trans hst0
  have hz0 : s0.size ≤ 100 := by rw [hs0]; exact take3_size wd a b c _ GA.out GB.out GC.out HWS.out
  rw [← hs0']
  clear hst0 hs0'
  have HS0 := Lib.hid hs0
  clear hs0
  go_cut [3] from 14 to 20 (fun v W => N3 wd a b c (min m 1) W0 v W)
  case first =>
    by_cases hm : 0 < m
    · have hmi : (0 : Int) < (m : Int) := by omega
      have HM1 := Lib.hid hm
      have hq1 : ¬ 9223372036854775807 < s0.size + 1 := by omega
      have hiz := itB_size a GA.out
      have hq2 : ¬ 9223372036854775807 < s0.size + 1 + (itB a).size := by omega
      clear hm
      go_wp2_with fail
      refine (D4.out a _ PW.out GA.out).mono ?_
      rintro e w5 ⟨rfl, b5⟩
      have hb5 := BW.out.trans (b5.mono BW.out.size)
      go_wp2_with fail
      go_meet
      case rel =>
        refine ⟨?_, hb5⟩
        have e1 : [a, b, c].take (min m 1) = [a, b, c].take (min m 0) ++ [a] := by
          rw [Nat.min_eq_right (by have := HM1.out; omega), Nat.min_eq_right (by have := HM1.out; omega)]; rfl
        rw [e1, List.map_append, accB_append, ← HS0.out]
        rfl
    · have hmi : ¬ (0 : Int) < (m : Int) := by omega
      have HM1 := Lib.hid hm
      clear hm
      go_wp2_with fail
      go_meet
      case rel =>
        refine ⟨?_, BW.out⟩
        have e1 : min m 1 = min m 0 := by have := HM1.out; omega
        rw [e1, ← HS0.out]
  case rest =>
  obtain ⟨rfl, hcb⟩ := hcut
  clear x00 x01 x02 x03 x04 x05 x06 x07 x08 x09 x0a BW PW hz0
  have BW := Lib.hid hcb
  have PW := Lib.hid (HP.out.bel hcb)
  obtain ⟨x00, x01, x02, x03, x04, x05, x06, x07, x08, x09, x0a⟩ := opV_c (X0.out.bel hcb)
  clear hcb
  go_upto_if 22 with fail
  obtain ⟨s1, hs1⟩ : ∃ x, x = accB wd (([a, b, c].take (min m 1)).map itB) := ⟨_, rfl⟩
  have hz1 : s1.size ≤ 100 := by rw [hs1]; exact take3_size wd a b c _ GA.out GB.out GC.out HWS.out
  rw [← hs1]
  have HS1 := Lib.hid hs1
  clear hs1
  go_cut [3] from 22 to 28 (fun v W => N3 wd a b c (min m 2) W0 v W)
  case first =>
    by_cases hm : 1 < m
    · have hmi : (1 : Int) < (m : Int) := by omega
      have HM1 := Lib.hid hm
      have hq1 : ¬ 9223372036854775807 < s1.size + 1 := by omega
      have hiz := itB_size b GB.out
      have hq2 : ¬ 9223372036854775807 < s1.size + 1 + (itB b).size := by omega
      clear hm
      go_wp2_with fail
      refine (D4.out b _ PW.out GB.out).mono ?_
      rintro e w5 ⟨rfl, b5⟩
      have hb5 := BW.out.trans (b5.mono BW.out.size)
      go_wp2_with fail
      go_meet
      case rel =>
        refine ⟨?_, hb5⟩
        have e1 : [a, b, c].take (min m 2) = [a, b, c].take (min m 1) ++ [b] := by
          rw [Nat.min_eq_right (by have := HM1.out; omega), Nat.min_eq_right (by have := HM1.out; omega)]; rfl
        rw [e1, List.map_append, accB_append, ← HS1.out]
        rfl
    · have hmi : ¬ (1 : Int) < (m : Int) := by omega
      have HM1 := Lib.hid hm
      clear hm
      go_wp2_with fail
      go_meet
      case rel =>
        refine ⟨?_, BW.out⟩
        have e1 : min m 2 = min m 1 := by have := HM1.out; omega
        rw [e1, ← HS1.out]
  case rest =>
  obtain ⟨rfl, hcb⟩ := hcut
  clear x00 x01 x02 x03 x04 x05 x06 x07 x08 x09 x0a BW PW hz1
  have BW := Lib.hid hcb
  have PW := Lib.hid (HP.out.bel hcb)
  obtain ⟨x00, x01, x02, x03, x04, x05, x06, x07, x08, x09, x0a⟩ := opV_c (X0.out.bel hcb)
  clear hcb
  go_upto_if 30 with fail
  obtain ⟨s2, hs2⟩ : ∃ x, x = accB wd (([a, b, c].take (min m 2)).map itB) := ⟨_, rfl⟩
  have hz2 : s2.size ≤ 100 := by rw [hs2]; exact take3_size wd a b c _ GA.out GB.out GC.out HWS.out
  rw [← hs2]
  have HS2 := Lib.hid hs2
  clear hs2
  go_cut [3] from 30 to 36 (fun v W => N3 wd a b c (min m 3) W0 v W)
  case first =>
    by_cases hm : 2 < m
    · have hmi : (2 : Int) < (m : Int) := by omega
      have HM1 := Lib.hid hm
      have hq1 : ¬ 9223372036854775807 < s2.size + 1 := by omega
      have hiz := itB_size c GC.out
      have hq2 : ¬ 9223372036854775807 < s2.size + 1 + (itB c).size := by omega
      clear hm
      go_wp2_with fail
      refine (D4.out c _ PW.out GC.out).mono ?_
      rintro e w5 ⟨rfl, b5⟩
      have hb5 := BW.out.trans (b5.mono BW.out.size)
      go_wp2_with fail
      go_meet
      case rel =>
        refine ⟨?_, hb5⟩
        have e1 : [a, b, c].take (min m 3) = [a, b, c].take (min m 2) ++ [c] := by
          rw [Nat.min_eq_right (by have := HM1.out; omega), Nat.min_eq_right (by have := HM1.out; omega)]; rfl
        rw [e1, List.map_append, accB_append, ← HS2.out]
        rfl
    · have hmi : ¬ (2 : Int) < (m : Int) := by omega
      have HM1 := Lib.hid hm
      clear hm
      go_wp2_with fail
      go_meet
      case rel =>
        refine ⟨?_, BW.out⟩
        have e1 : min m 3 = min m 2 := by have := HM1.out; omega
        rw [e1, ← HS2.out]
  case rest =>
  obtain ⟨rfl, hcb⟩ := hcut
  clear x00 x01 x02 x03 x04 x05 x06 x07 x08 x09 x0a BW PW hz2
  have BW := Lib.hid hcb
  have PW := Lib.hid (HP.out.bel hcb)
  obtain ⟨x00, x01, x02, x03, x04, x05, x06, x07, x08, x09, x0a⟩ := opV_c (X0.out.bel hcb)
  clear hcb
  obtain ⟨s3, hs3⟩ : ∃ x, x = accB wd (([a, b, c].take (min m 3)).map itB) := ⟨_, rfl⟩
  have hz3 : s3.size ≤ 100 := by rw [hs3]; exact take3_size wd a b c _ GA.out GB.out GC.out HWS.out
  rw [← hs3]
  have HS3 := Lib.hid hs3
  clear hs3
  have D3 := Lib.hid (rhex_any k)
  go_upto_if 39 with fail
  go_cut [3] from 39 to 45 (fun v W => v = .string (accB s3 (if t = 3 then [hexB k] else [])) ∧ Below W0.heap.size W0 W)
  case first =>
    by_cases ht : t = 3
    · have qt : (t == 3) = true := by simp [ht]
      have HT := Lib.hid ht
      have hq1 : ¬ 9223372036854775807 < s3.size + 1 := by omega
      have hiz := hexB_size k
      have hq2 : ¬ 9223372036854775807 < s3.size + 1 + (hexB k).size := by omega
      clear ht
      go_wp2_with fail
      refine (D3.out _).mono ?_
      rintro e w5 ⟨rfl, b5⟩
      have hb5 := BW.out.trans (b5.mono BW.out.size)
      go_wp2_with fail
      go_meet
      case rel => exact ⟨by rw [if_pos HT.out]; rfl, hb5⟩
    · have qt : (t == 3) = false := by simpa using ht
      have HT := Lib.hid ht
      clear ht
      go_wp2_with fail
      go_meet
      case rel => exact ⟨by rw [if_neg HT.out]; rfl, BW.out⟩
  case rest =>
  obtain ⟨rfl, hcb⟩ := hcut
  clear x00 x01 x02 x03 x04 x05 x06 x07 x08 x09 x0a BW PW
  have BW := Lib.hid hcb
  have PW := Lib.hid (HP.out.bel hcb)
  obtain ⟨x00, x01, x02, x03, x04, x05, x06, x07, x08, x09, x0a⟩ := opV_c (X0.out.bel hcb)
  clear hcb
  obtain ⟨s4, hs4⟩ : ∃ x, x = accB s3 (if t = 3 then [hexB k] else []) := ⟨_, rfl⟩
  have hz4 : s4.size ≤ 200 := by
    have hzk := hexB_size k
    have h1 := accB_size s3 (if t = 3 then [hexB k] else []) 64 (fun y hy => by split at hy <;> simp at hy; rw [hy]; exact hzk)
    have h2 : (if t = 3 then [hexB k] else []).length ≤ 1 := by split <;> simp
    have h3 : (if t = 3 then [hexB k] else []).length * (64 + 1) ≤ 1 * 65 := Nat.mul_le_mul h2 (Nat.le_refl _)
    rw [hs4]; omega
  rw [← hs4]
  have HS4 := Lib.hid hs4
  clear hs4
  go_upto_if 48 with fail
  go_cut [3] from 48 to 54 (fun v W => v = .string (accB s4 (if t = 10 then [itB n] else [])) ∧ Below W0.heap.size W0 W)
  case first =>
    by_cases ht : t = 10
    · have qt : (t == 10) = true := by simp [ht]
      have HT := Lib.hid ht
      have hq1 : ¬ 9223372036854775807 < s4.size + 1 := by omega
      have hiz := itB_size n GN.out
      have hq2 : ¬ 9223372036854775807 < s4.size + 1 + (itB n).size := by omega
      clear ht
      go_wp2_with fail
      refine (D4.out n _ PW.out GN.out).mono ?_
      rintro e w5 ⟨rfl, b5⟩
      have hb5 := BW.out.trans (b5.mono BW.out.size)
      go_wp2_with fail
      go_meet
      case rel => exact ⟨by rw [if_pos HT.out]; rfl, hb5⟩
    · have qt : (t == 10) = false := by simpa using ht
      have HT := Lib.hid ht
      clear ht
      go_wp2_with fail
      go_meet
      case rel => exact ⟨by rw [if_neg HT.out]; rfl, BW.out⟩
  case rest =>
  obtain ⟨rfl, hcb⟩ := hcut
  clear x00 x01 x02 x03 x04 x05 x06 x07 x08 x09 x0a BW PW
  have BW := Lib.hid hcb
  have PW := Lib.hid (HP.out.bel hcb)
  obtain ⟨x00, x01, x02, x03, x04, x05, x06, x07, x08, x09, x0a⟩ := opV_c (X0.out.bel hcb)
  clear hcb
  obtain ⟨s5, hs5⟩ : ∃ x, x = accB s4 (if t = 10 then [itB n] else []) := ⟨_, rfl⟩
  have hz5 : s5.size ≤ 300 := by
    have hzk := itB_size n GN.out
    have h1 := accB_size s4 (if t = 10 then [itB n] else []) 21 (fun y hy => by split at hy <;> simp at hy; rw [hy]; exact hzk)
    have h2 : (if t = 10 then [itB n] else []).length ≤ 1 := by split <;> simp
    have h3 : (if t = 10 then [itB n] else []).length * (21 + 1) ≤ 1 * 22 := Nat.mul_le_mul h2 (Nat.le_refl _)
    rw [hs5]; omega
  rw [← hs5]
  have HS5 := Lib.hid hs5
  clear hs5
  have hfin : accB s5 (pairsWs ks vs) = joinB L := by
    rw [HJL.out, tail_split (o := ⟨t, a, b, c, n, k, ks, vs⟩) HNL.out]
    simp only
    rw [accB_append, accB_append, HS5.out, HS4.out, HS3.out, HWD.out]
    unfold namesWs
    simp only
    rw [HM.out, Nat.min_eq_left hm3]
  have HFIN := Lib.hid hfin
  clear hfin
  have hcl : Tryd.prog.cellsOf 24 = 4 := by kernel_rfl
  have hal : Tryd.prog.cellsOf 3 = 1 := by kernel_rfl
  have hns := HHK.out.lim
  have hnc := HHK.out.cap
  have hvs := HHV.out.lim
  have hvc := HHV.out.cap
  unfold maxLen at hnc hvc
  obtain ⟨nv, hnv⟩ : ∃ x, x = vs.length := ⟨_, rfl⟩
  rw [← hnv] at hvs
  have HNV := Lib.hid hnv
  have hst : RlRel s5 ks vs W0 (.string s5) (.int .i64 0) wc := ⟨0, Nat.zero_le _, rfl, by simp [pairsWs, accB], BW.out⟩
  have Hst := Lib.hid hst
  clear hst hnv
  go_wp2_with fail
  go_loopw [3, 58] (RlRel s5 ks vs W0) (fun _ i _ => vs.length - (intOf i).toNat)
  case atStart => exact Hst.out
  case round =>
    clear Hst
    obtain ⟨q, hq, rfl, rfl, hb⟩ := hrel
    have hbw := B0.out.trans (hb.mono B0.out.size)
    rcases Nat.lt_or_ge q vs.length with hlt | hge
    · have h6 : t = 6 := by
        by_cases h6 : t = 6
        · exact h6
        · have := (HNL.out h6).1
          rw [this] at hlt
          cases hlt
      obtain ⟨g6a, g6b⟩ := G6.out h6
      clear h6
      have hlk : q < ks.length := by omega
      obtain ⟨bk, off, rfl, hbl, hrk⟩ := (HHK.out.bel hbw).at hlk
      obtain ⟨bv, offv, rfl, hblv, hcv⟩ := (HHV.out.bel hbw).at hlt
      have hqn : (q : Int) < (ks.length : Int) := by omega
      have hqv : (q : Int) < (vs.length : Int) := by omega
      have HZk := Lib.hid (take_succ_get hlk)
      have HZv := Lib.hid (take_succ_get hlt)
      have HIv := Lib.hid (GV.out _ (List.getElem_mem hlt))
      generalize ks[q] = K at *
      generalize vs[q] = V at *
      obtain ⟨s, hs⟩ : ∃ x, accB s5 (pairsWs (ks.take q) (vs.take q)) = x := ⟨_, rfl⟩
      rw [hs]
      have hss : s.size ≤ 10000 := by
        have h1 := pairs_size s5 (ks.take q) (vs.take q) (fun v hv => GV.out v (List.mem_of_mem_take hv))
        rw [hs, List.length_take] at h1
        omega
      have HS := Lib.hid hs
      clear hs
      have hkz := hexB_size K
      have hvz := itB_size V HIv.out
      have hq1 : ¬ 9223372036854775807 < s.size + 1 := by omega
      have hq2 : ¬ 9223372036854775807 < s.size + 1 + (hexB K).size := by omega
      have hq3 : ¬ 9223372036854775807 < s.size + 1 + (hexB K).size + 1 := by omega
      have hq4 : ¬ 9223372036854775807 < s.size + 1 + (hexB K).size + 1 + (itB V).size := by omega
      clear x00 x01 x02 x03 x04 x05 x06 x07 x08 x09 x0a
      obtain ⟨x00, x01, x02, x03, x04, x05, x06, x07, x08, x09, x0a⟩ := opV_c (X0.out.bel hb)
      have D5 := Lib.hid (rhex_any K)
      have G6A := Lib.hid g6a
      clear g6a g6b
      go_wp2_with (refine wpList_load_mid rfl 24 (.tmp 68) rfl bk (off + q * 4) rfl (frC K) _ hrk Tryd.underlying24 rfl (by kernel_rfl) ?_)
      rw [frC_arr]
      refine (D5.out _).mono ?_
      rintro e w6 ⟨rfl, b6⟩
      have hb6 := hb.trans (b6.mono hb.size)
      have P6 := Lib.hid (HP.out.bel hb6)
      go_wp2_with fail
      refine (D4.out V _ P6.out HIv.out).mono ?_
      rintro e w7 ⟨rfl, b7⟩
      have hb7 := hb6.trans (b7.mono hb6.size)
      go_wp2_with fail
      refine ⟨⟨q + 1, by omega, int_eq (by omega), ?_, hb7⟩, by simp [intOf]; omega⟩
      rw [HZk.out, HZv.out, pairsWs_snoc _ _ (by rw [List.length_take, List.length_take]; have := G6A.out; omega), accB_append, HS.out]
      rfl
    · obtain rfl : q = vs.length := by omega
      have hqv : ¬ ((vs.length : Nat) : Int) < (vs.length : Int) := by omega
      have hkl : ks.take vs.length = ks := by
        by_cases h6 : t = 6
        · exact List.take_of_length_le (by have := (G6.out h6).1; omega)
        · rw [(HNL.out h6).2, List.take_nil]
      rw [hkl, List.take_length, HFIN.out]
      have hsz : (joinB L).size ≤ 10000 := HSZ.out.2.1
      generalize hJ : joinB L = J at *
      have hq1 : ¬ 9223372036854775807 < J.size + 1 := by omega
      clear hkl
      go_wp2_with fail
      go_ret
      refine ⟨?_, hbw⟩
      unfold lineB
      rw [hJ]
      rfl
end Go.Proofs.YtdilgmokiclfaaaDoor
