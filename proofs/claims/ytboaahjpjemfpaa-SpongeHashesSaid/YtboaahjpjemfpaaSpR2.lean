import Derived.Test.YtboaahjpjemfpaaSpR1
namespace Go.Proofs.Ytboaahjpjemfpaa
open Go.RowKit
set_option linter.unusedVariables false

def ThrRel (zs : List Nat) (s : Nat) (w : World) (x : Value) (wr : World) : Prop :=
  ∃ j : Nat, j ≤ 5 ∧ x = .int .i64 (j : Int) ∧ Own wr s 23 .u64 zs ∧ Own wr (s + 1) 23 .u64 (List.replicate 25 0) ∧ Own wr (s + 2) 23 .u64 (thrX zs j) ∧ Below s w wr
def ThrO (zs O : List Nat) (j : Nat) (s : Nat) (w : World) (y : Value) (wr : World) : Prop :=
  ∃ k : Nat, k ≤ 5 ∧ y = .int .i64 (k : Int) ∧ Own wr s 23 .u64 zs ∧ Own wr (s + 1) 23 .u64 (List.replicate 25 0) ∧ Own wr (s + 2) 23 .u64 (thrY zs O j k) ∧ Below s w wr
theorem ThrO.step {zs O : List Nat} {j s k l : Nat} {v : Int} {w wr wr' : World} (hj : k < 5) (o1 : Own wr s 23 .u64 zs) (o2 : Own wr (s + 1) 23 .u64 (List.replicate 25 0)) (o3 : Own wr (s + 2) 23 .u64 (thrY zs O j k)) (hb : Below s w wr)
    (ew : wr.setCell ⟨s + 2, l, none⟩ (.int .u64 v) = wr') (hl : laneN (j + 5) (k + 5) = l) (e1 : v = (thrV zs j k : Nat)) : ThrO zs O j s w (.int .i64 ((k + 1 : Nat) : Int)) wr' := by
  subst ew e1 hl
  exact ⟨k + 1, by omega, rfl, o1.far (by simp) _, o2.far (by simp) _, o3.set _ _, hb.setCell (p := ⟨s + 2, _, none⟩) (by show s ≤ s + 2; omega) _⟩
structure ThrE (zs pp : List Nat) : Prop where
  eq : thrX zs 5 = pp
structure ThrS (zs : List Nat) (j : Nat) (O : List Nat) : Prop where
  eo : thrX zs j = O

set_option maxHeartbeats 1000000 in
/-- ref.Three -/
theorem three_any (zs : List Nat) (w : World) (ha : zs.length = 25) (oa : Ok zs) :
    Calls Try.prog 15 #[.agg (lim .u64 zs)] w fun e w' => e = .returned (.agg (lim .u64 (thrX zs 5))) ∧ Below w.heap.size w w' := by
  have hal : Try.prog.arrayLen 23 = 25 := by kernel_rfl
  go_enter Try.func15, Try.ntmps15
  go_wp2_with (first | refine own_load ((Own.new w 23 .u64 zs).alloc _) rfl 23 (.tmp 1) rfl rfl 25 22 ha (by kernel_rfl) (by kernel_rfl) ?_ | refine wpList_store_new2 rfl 23 (.tmp 3) (.tmp 7) rfl .u64 zs rfl rfl 23 _ (by rw [ha]; kernel_rfl) (by rw [ha]; rfl) ?_)
  go_loopw [4, 5, 6] (fun x _ _ wr => ThrRel zs w.heap.size w x wr) (fun x _ _ _ => 5 - (intOf x).toNat)
  case atStart => exact ⟨0, by omega, rfl, ((Own.new w 23 .u64 zs).alloc _).alloc _, (own_new1 w _ 23 .u64 (List.replicate 25 0)).alloc _, own_new2 w _ _ 23 .u64 zs, (((Below.refl _ _).alloc (Nat.le_refl _) _).alloc (by simp) _).alloc (by simp; omega) _⟩
  case round =>
    obtain ⟨j, hj, rfl, o1, o2, o3, hb⟩ := hrel
    by_cases hj5 : j < 5
    · have hd : decide ((j : Int) < 5) = true := decide_eq_true (by omega)
      have lx := thrX_length zs j
      have HX : ThrO zs (thrX zs j) j w.heap.size w (.int .i64 0) wr := ⟨0, by omega, rfl, o1, o2, o3, hb⟩
      generalize heo : thrX zs j = O at *
      have HS := ThrS.mk heo
      clear heo
      go_wp2_with fail
      clear o1 o2 o3 hb
      go_loopw [5, 6] (fun y _ wr => ThrO zs O j w.heap.size w y wr) (fun y _ _ => 5 - (intOf y).toNat)
      case atStart => exact HX
      case round =>
        clear HX
        obtain ⟨k, hk, rfl, o1, o2, o3, hb⟩ := hrel
        by_cases hk5 : k < 5
        · obtain ⟨l, hl⟩ : ∃ l, laneN (j + 5) (k + 5) = l := ⟨_, rfl⟩
          obtain ⟨l1, hl1⟩ : ∃ l, laneN (j + 6) (k + 5) = l := ⟨_, rfl⟩
          obtain ⟨l2, hl2⟩ : ∃ l, laneN (j + 7) (k + 5) = l := ⟨_, rfl⟩
          have h1 : l < 25 := by rw [← hl]; exact laneN_lt _ _
          have h2 : l1 < 25 := by rw [← hl1]; exact laneN_lt _ _
          have h3 : l2 < 25 := by rw [← hl2]; exact laneN_lt _ _
          have hc1 := o1.cell (i := l1) (by omega)
          have hv : bits .xor .u64 (nth zs l1 : Int) 18446744073709551615 = ((18446744073709551615 ^^^ nth zs l1 : Nat) : Int) := by
            rw [Nat.xor_comm]; exact u64_xor_nat (nth zs l1) 18446744073709551615 (oa.getD _) (by decide)
          go_wp2_with fail
          refine (lane_any _ _ (j + 6) (k + 5) l1 _ ?_ ?_ (by omega) (by omega) hl1).mono ?_
          · omega
          · omega
          rintro e w1 ⟨rfl, rfl⟩
          go_wp2_with fail
          have hlt := xor_lt (by decide : 18446744073709551615 < 18446744073709551616) (oa.getD l1)
          obtain ⟨v, hv⟩ : ∃ v, (18446744073709551615 ^^^ nth zs l1) = v := ⟨_, rfl⟩
          rw [hv] at hlt
          rw [hv]
          have hc0 := o1.cell (i := l) (by omega)
          have hc2 := o1.cell (i := l2) (by omega)
          have h1' : (l : Int) < 25 := by omega
          have h2' : (l2 : Int) < 25 := by omega
          have HL := Lib.hid (fun W => lane_any (j : Int) (k : Int) (j + 5) (k + 5) l W (by omega) (by omega) (by omega) (by omega) hl)
          have HL2 := Lib.hid (fun W => lane_any (IntKind.i64.wrap ((j : Int) + 2)) (k : Int) (j + 7) (k + 5) l2 W (by rw [IntKind.wrap_i64]; omega) (by omega) (by omega) (by omega) hl2)
          refine wp_region_still_tail 18 (by kernel_rfl) (by kernel_rfl) ?_
          simp only [List.take_succ_cons, List.take_zero, List.drop_succ_cons, List.drop_zero]
          repeat still_step
          still_call (HL.out _)
          repeat still_step
          still_call (HL.out _)
          repeat still_step
          still_call (HL2.out _)
          repeat still_step
          refine wpStill_nil ?_
          change wpList _ _ _ _ _ w1.drew
          have o1d := o1.drew
          have o2d := o2.drew
          have o3d := o3.drew
          have hbd : Below w.heap.size w w1.drew := below_drewN hb 1
          have hf3 := o3d.frozen l
          have hc3 := o3d.cell (i := l) (by rw [thrY_length]; omega)
          clear o1 o2 o3 hb hc1 hc0 hc2
          generalize w1.drew = w2 at *
          go_wp2_with fail
          refine ⟨ThrO.step hk5 o1d o2d o3d hbd rfl hl ?_, by simp [intOf]; omega⟩
          rw [u64_and_nat _ _ hlt (oa.getD _), u64_xor_nat _ _ (oa.getD _) (and_lt (oa.getD _)), ← hv, ← hl, ← hl1, ← hl2]
          rfl
        · obtain rfl : k = 5 := by omega
          go_wp2_with fail
          exact ⟨⟨j + 1, by omega, rfl, o1, o2, by rw [thrX, HS.eo]; exact o3, hb⟩, by simp [intOf]; omega⟩
    · obtain rfl : j = 5 := by omega
      have lp := thrX_length zs 5
      generalize hpp : thrX zs 5 = pp at *
      have HP := ThrE.mk hpp
      clear hpp
      rw [ha] at lp
      go_wp2_with (first | refine own_load o3 rfl 23 (.tmp 3) rfl rfl 25 22 lp (by kernel_rfl) (by kernel_rfl) ?_ | refine wpList_store_row rfl 23 (.tmp 2) (.tmp 41) rfl (w.heap.size + 1) (lim .u64 pp) rfl rfl 23 _ o2 (by rw [lim_size, lp]; kernel_rfl) (by rw [lim_size, lim_size, lp]; rfl) (lim_one _ _) ?_)
      have o3' : Own (wr.setRow (w.heap.size + 1) (lim .u64 pp)) (w.heap.size + 1) 23 .u64 pp := setRow_heap _ _ _ _ _ _ o2
      exact bodyPost_ret (results_cell_row rfl _ _ (w.heap.size + 1) 23 (lim .u64 pp) (0, 0) (.array 25 22) rfl o3' (by kernel_rfl) rfl (by rw [lim_size, lp]; kernel_rfl)) rfl ⟨by rw [HP.eq], below_setRow hb (by omega) _⟩
end Go.Proofs.Ytboaahjpjemfpaa
