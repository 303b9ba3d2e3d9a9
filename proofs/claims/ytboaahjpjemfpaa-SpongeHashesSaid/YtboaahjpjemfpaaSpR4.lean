import Derived.Test.YtboaahjpjemfpaaSpR3
namespace Go.Proofs.Ytboaahjpjemfpaa
open Go.RowKit
set_option linter.unusedVariables false

theorem i64_xor_small (a b : Nat) (ha : a < 256) (hb : b < 256) : bits .xor .i64 (a : Int) (b : Int) = ((a ^^^ b : Nat) : Int) := by
  have hx : a ^^^ b < 2 ^ 8 := Nat.xor_lt_two_pow (by omega) (by omega)
  show IntKind.i64.wrap ((BitVec.ofInt 64 (a : Int) ^^^ BitVec.ofInt 64 (b : Int)).toNat : Int) = _
  rw [BitVec.toNat_xor, ofInt_u64 a (by omega), ofInt_u64 b (by omega), IntKind.wrap_i64]
  omega
def PmRel (zs : List Nat) (s : Nat) (w : World) (r i : Value) (wr : World) : Prop :=
  ∃ j : Nat, j ≤ 24 ∧ i = .int .i64 (j : Int) ∧ r = .int .i64 (prmR j : Int) ∧ Own wr s 23 .u64 (prmL zs j) ∧ Own wr (s + 1) 23 .u64 (List.replicate 25 0) ∧ Below s w wr
def IoRel (A : List Nat) (R : Nat) (s : Nat) (w : World) (r i : Value) (wr : World) : Prop :=
  ∃ j : Nat, j ≤ 7 ∧ i = .int .i64 (j : Int) ∧ r = .int .i64 (regN R j : Int) ∧ Own wr s 23 .u64 (iotL A R j) ∧ Own wr (s + 1) 23 .u64 (List.replicate 25 0) ∧ Below s w wr
structure PmE (zs pp : List Nat) : Prop where
  eq : prmL zs 24 = pp
structure PmS (zs A : List Nat) (j : Nat) : Prop where
  eq : lin3 (prmL zs j) = A

set_option maxHeartbeats 2000000 in
/-- ref.Permute -/
theorem refperm_any (zs : List Nat) (w : World) (ha : zs.length = 25) (oa : Ok zs) :
    Calls Try.prog 10 #[.agg (lim .u64 zs)] w fun e w' => e = .returned (.agg (lim .u64 (prmL zs 24))) ∧ Below w.heap.size w w' := by
  have hal : Try.prog.arrayLen 23 = 25 := by kernel_rfl
  go_enter Try.func10, Try.ntmps10
  go_wp2_with fail
  go_loopw [3, 4, 5, 6] (fun r i _ _ wr => PmRel zs w.heap.size w r i wr) (fun _ i _ _ _ => 24 - (intOf i).toNat)
  case atStart => exact ⟨0, by omega, rfl, rfl, (Own.new w 23 .u64 zs).alloc _, own_new1 w _ 23 .u64 (List.replicate 25 0), ((Below.refl _ _).alloc (Nat.le_refl _) _).alloc (by simp) _⟩
  case round =>
    obtain ⟨j, hj, rfl, rfl, o1, o2, hb⟩ := hrel
    by_cases hj5 : j < 24
    · have lL : (prmL zs j).length = 25 := by rw [prmL_length, ha]
      have oL := prmL_ok oa j
      have hR := prmR_lt j
      have hd : decide ((j : Int) < 24) = true := decide_eq_true (by omega)
      have l1 : (oneX (prmL zs j) 5).length = 25 := by rw [oneX_length, lL]
      have k1 := oneX_ok oL 5
      have l2 : (twoT (oneX (prmL zs j) 5) 24).l.length = 25 := by rw [twoT_length, l1]
      have k2 := (twoT_ok k1 24).1
      have l3 : (thrX (twoT (oneX (prmL zs j) 5) 24).l 5).length = 25 := by rw [thrX_length, l2]
      have k3 := thrX_ok k2 5
      have H1 := Lib.hid (fun W => one_any (prmL zs j) W lL oL)
      have H2 := Lib.hid (fun W => two_any (oneX (prmL zs j) 5) W l1 k1)
      have H3 := Lib.hid (fun W => three_any (twoT (oneX (prmL zs j) 5) 24).l W l2 k2)
      have hA : lin3 (prmL zs j) = thrX (twoT (oneX (prmL zs j) 5) 24).l 5 := rfl
      clear k1 k2 l1 l2
      generalize thrX (twoT (oneX (prmL zs j) 5) 24).l 5 = A at *
      have HA := PmS.mk hA
      clear hA
      generalize (twoT (oneX (prmL zs j) 5) 24).l = A2 at *
      generalize (oneX (prmL zs j) 5) = A1 at *
      have HE : iotL (lin3 (prmL zs j)) (prmR j) 7 = prmL zs (j + 1) := rfl
      rw [HA.eq] at HE
      clear HA
      have HR : regN (prmR j) 7 = prmR (j + 1) := rfl
      have HER := Lib.hid (And.intro HE HR)
      clear HE HR
      generalize prmL zs j = L at *
      generalize prmR j = R at *
      go_wp2_with (refine own_load o1 rfl 23 (.tmp 1) rfl rfl 25 22 lL (by kernel_rfl) (by kernel_rfl) ?_)
      refine (H1.out _).mono ?_
      rintro e w1 ⟨rfl, b1⟩
      go_wp2_with fail
      refine (H2.out _).mono ?_
      rintro e w2 ⟨rfl, b2⟩
      go_wp2_with fail
      refine (H3.out _).mono ?_
      rintro e w3 ⟨rfl, b3⟩
      have bb := b1.trans ((b2.trans (b3.mono b2.size)).mono b1.size)
      have o1' := o1.bel bb
      have o2' := o2.bel bb
      have hb' := hb.trans (bb.mono (Nat.le_of_lt o1.lt))
      clear o1 o2 hb b1 b2 b3 bb H1 H2 H3
      go_wp2_with (refine wpList_store_row rfl 23 (.tmp 1) (.tmp 14) rfl w.heap.size (lim .u64 A) rfl rfl 23 _ o1' (by rw [lim_size, l3]; kernel_rfl) (by rw [lim_size, lim_size, l3, lL]) (lim_one _ _) ?_)
      have o1 : Own (w3.setRow w.heap.size (lim .u64 A)) w.heap.size 23 .u64 A := setRow_heap _ _ _ _ _ _ o1'
      have o2 : Own (w3.setRow w.heap.size (lim .u64 A)) (w.heap.size + 1) 23 .u64 (List.replicate 25 0) := (setRow_other _ _ _ _ (by omega)).trans o2'
      have hb : Below w.heap.size w (w3.setRow w.heap.size (lim .u64 A)) := below_setRow hb' (Nat.le_refl _) _
      generalize w3.setRow w.heap.size (lim .u64 A) = W at *
      clear o1' o2' hb'
      go_loopw [3, 5, 6] (fun r i _ wr => IoRel A R w.heap.size w r i wr) (fun _ i _ _ => 7 - (intOf i).toNat)
      case atStart => exact ⟨0, by omega, rfl, rfl, o1, o2, hb⟩
      case round =>
        clear o1 o2 hb
        obtain ⟨k, hk, rfl, rfl, o1, o2, hb⟩ := hrel
        by_cases hk5 : k < 7
        · have hr := regN_lt hR k
          have lI : (iotL A R k).length = 25 := by rw [iotL_length, l3]
          have oI := iotL_ok k3 R (j := k) (by omega)
          have hQ := pow_pow_lt hk5
          obtain ⟨q, hq⟩ : ∃ q, 2 ^ k = q := ⟨_, rfl⟩
          have hq1 : 1 ≤ q := by rw [← hq]; exact Nat.one_le_two_pow
          have hq2 : q ≤ 64 := by rw [← hq]; exact Nat.pow_le_pow_right (by decide) (by omega : k ≤ 6)
          have hqi : (2 : Int) ^ k = (q : Int) := by rw [← hq]; simp
          rw [hq] at hQ
          have HS := Lib.hid (show iotL A R (k + 1) = (if regN R k % 2 = 1 then (iotL A R k).set 0 (nth (iotL A R k) 0 ^^^ 2 ^ (2 ^ k - 1)) else iotL A R k) from rfl)
          have HT := Lib.hid (show regN R (k + 1) = (if 255 < regN R k * 2 then (regN R k * 2 - 256) ^^^ 113 else regN R k * 2) from rfl)
          generalize regN R k = r at *
          generalize iotL A R k = I at *
          have hc0 := o1.cell (i := 0) (by omega)
          have hf0 := o1.frozen 0
          have step1 : ∀ (v : Int) (wr' : World), v = (regN R (k + 1) : Int) → Own wr' w.heap.size 23 .u64 (iotL A R (k + 1)) → Own wr' (w.heap.size + 1) 23 .u64 (List.replicate 25 0) → Below w.heap.size w wr' →
              IoRel A R w.heap.size w (.int .i64 v) (.int .i64 ((k : Int) + 1)) wr' ∧ 7 - (intOf (.int .i64 ((k : Int) + 1))).toNat < 7 - (intOf (.int .i64 (k : Int))).toNat := by
            rintro v wr' rfl p1 p2 p3
            exact ⟨⟨k + 1, by omega, rfl, rfl, p1, p2, p3⟩, by simp [intOf]; omega⟩
          have ep : bits .xor .u64 (nth I 0 : Int) (IntKind.u64.wrap (2 ^ (q - 1))) = ((nth I 0 ^^^ 2 ^ (q - 1) : Nat) : Int) := by
            have e0 : IntKind.u64.wrap (2 ^ (q - 1)) = ((2 ^ (q - 1) : Nat) : Int) := by
              rw [show ((2 : Int) ^ (q - 1)) = ((2 ^ (q - 1) : Nat) : Int) by simp, IntKind.wrap_u64]
              generalize (2 : Nat) ^ (q - 1) = z at hQ ⊢
              omega
            rw [e0, u64_xor_nat _ _ (oI.getD _) hQ]
          have HEP := Lib.hid ep
          have HST := Lib.hid step1
          clear ep step1
          by_cases h1 : r % 2 = 1
          · have h1' : (r : Int) % 2 = 1 := by omega
            by_cases h2 : 255 < r * 2
            · have h2' : (255 : Int) < (r : Int) * 2 := by omega
              go_wp2_with fail
              rw [HEP.out]
              exact HST.out _ _ (by rw [HT.out, if_pos h2, ← i64_xor_small (r * 2 - 256) 113 (by omega) (by decide)]; congr 1; omega) (by rw [HS.out, if_pos h1, hq]; exact o1.set 0 _) (o2.far (by simp) _) (hb.setCell (p := ⟨w.heap.size, 0, none⟩) (Nat.le_refl _) _)
            · have h2' : (r : Int) * 2 ≤ 255 := by omega
              go_wp2_with fail
              rw [HEP.out]
              exact HST.out _ _ (by rw [HT.out, if_neg h2]; omega) (by rw [HS.out, if_pos h1, hq]; exact o1.set 0 _) (o2.far (by simp) _) (hb.setCell (p := ⟨w.heap.size, 0, none⟩) (Nat.le_refl _) _)
          · have h1' : (r : Int) % 2 = 0 := by omega
            by_cases h2 : 255 < r * 2
            · have h2' : (255 : Int) < (r : Int) * 2 := by omega
              go_wp2_with fail
              exact HST.out _ _ (by rw [HT.out, if_pos h2, ← i64_xor_small (r * 2 - 256) 113 (by omega) (by decide)]; congr 1; omega) (by rw [HS.out, if_neg h1]; exact o1) o2 hb
            · have h2' : (r : Int) * 2 ≤ 255 := by omega
              go_wp2_with fail
              exact HST.out _ _ (by rw [HT.out, if_neg h2]; omega) (by rw [HS.out, if_neg h1]; exact o1) o2 hb
        · obtain rfl : k = 7 := by omega
          have HER' := HER.out
          rw [HER'.1] at o1
          rw [HER'.2]
          clear HER'
          go_wp2_with fail
          exact ⟨⟨j + 1, by omega, rfl, rfl, o1, o2, hb⟩, by simp [intOf]; omega⟩
    · obtain rfl : j = 24 := by omega
      have lp := prmL_length zs 24
      generalize hpp : prmL zs 24 = pp at *
      have HP := PmE.mk hpp
      clear hpp
      rw [ha] at lp
      go_wp2_with (first | refine own_load o1 rfl 23 (.tmp 1) rfl rfl 25 22 lp (by kernel_rfl) (by kernel_rfl) ?_ | refine wpList_store_row rfl 23 (.tmp 2) (.tmp 40) rfl (w.heap.size + 1) (lim .u64 pp) rfl rfl 23 _ o2 (by rw [lim_size, lp]; kernel_rfl) (by rw [lim_size, lim_size, lp]; rfl) (lim_one _ _) ?_)
      have o3' : Own (wr.setRow (w.heap.size + 1) (lim .u64 pp)) (w.heap.size + 1) 23 .u64 pp := setRow_heap _ _ _ _ _ _ o2
      exact bodyPost_ret (results_cell_row rfl _ _ (w.heap.size + 1) 23 (lim .u64 pp) (0, 0) (.array 25 22) rfl o3' (by kernel_rfl) rfl (by rw [lim_size, lp]; kernel_rfl)) rfl ⟨by rw [HP.eq], below_setRow hb (by omega) _⟩
end Go.Proofs.Ytboaahjpjemfpaa
