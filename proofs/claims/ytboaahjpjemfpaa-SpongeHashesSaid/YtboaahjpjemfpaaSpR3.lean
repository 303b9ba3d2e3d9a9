import Derived.Test.YtboaahjpjemfpaaSpR2
namespace Go.Proofs.Ytboaahjpjemfpaa
open Go.RowKit
set_option linter.unusedVariables false

def TwoRel (zs : List Nat) (s : Nat) (w : World) (x y held t : Value) (wr : World) : Prop :=
  ∃ j : Nat, j ≤ 24 ∧ t = .int .i64 (j : Int) ∧ x = .int .i64 ((twoT zs j).x : Int) ∧ y = .int .i64 ((twoT zs j).y : Int) ∧ held = .int .u64 ((twoT zs j).held : Int) ∧ Own wr s 23 .u64 (twoT zs j).l ∧ Own wr (s + 1) 23 .u64 (List.replicate 25 0) ∧ Below s w wr
theorem TwoRel.step {zs L : List Nat} {s j x y held y' held' to r : Nat} {w wr wr' : World} (hj : j < 24) (hs : twoT zs j = ⟨L, x, y, held⟩) (o1 : Own wr s 23 .u64 L) (o2 : Own wr (s + 1) 23 .u64 (List.replicate 25 0)) (hb : Below s w wr)
    (ht : laneN (y + 5) (2 * x + 3 * y + 5) = to) (hr : rotl held ((j + 1) * (j + 2) / 2 % 64) = r) (hy : (2 * x + 3 * y) % 5 = y') (hh : nth L to = held')
    (ew : wr.setCell ⟨s, to, none⟩ (.int .u64 (r : Int)) = wr') : TwoRel zs s w (.int .i64 (y : Int)) (.int .i64 (y' : Int)) (.int .u64 (held' : Int)) (.int .i64 ((j + 1 : Nat) : Int)) wr' := by
  subst ew hy hh ht hr
  have e : twoT zs (j + 1) = ⟨L.set (laneN (y + 5) (2 * x + 3 * y + 5)) (rotl held ((j + 1) * (j + 2) / 2 % 64)), y, (2 * x + 3 * y) % 5, nth L (laneN (y + 5) (2 * x + 3 * y + 5))⟩ := by
    rw [twoT, hs]
  refine ⟨j + 1, by omega, rfl, ?_⟩
  rw [e]
  exact ⟨rfl, rfl, rfl, o1.set _ _, o2.far (by simp) _, hb.setCell (p := ⟨s, _, none⟩) (Nat.le_refl _) _⟩
structure TwoE (zs pp : List Nat) : Prop where
  eq : (twoT zs 24).l = pp

set_option maxHeartbeats 1000000 in
/-- ref.Two -/
theorem two_any (zs : List Nat) (w : World) (ha : zs.length = 25) (oa : Ok zs) :
    Calls Try.prog 16 #[.agg (lim .u64 zs)] w fun e w' => e = .returned (.agg (lim .u64 (twoT zs 24).l)) ∧ Below w.heap.size w w' := by
  have hal : Try.prog.arrayLen 23 = 25 := by kernel_rfl
  go_enter Try.func16, Try.ntmps16
  go_wp2_with fail
  refine (lane_any _ _ 6 5 1 _ ?_ ?_ (by omega) (by omega) rfl).mono ?_
  · rfl
  · rfl
  rintro e w1 ⟨rfl, hw⟩
  have o1 : Own w1 w.heap.size 23 .u64 zs := by rw [hw]; exact (Own.new w 23 .u64 zs).alloc _
  have o2 : Own w1 (w.heap.size + 1) 23 .u64 (List.replicate 25 0) := by rw [hw]; exact own_new1 w _ 23 .u64 (List.replicate 25 0)
  have hb : Below w.heap.size w w1 := by rw [hw]; exact ((Below.refl _ _).alloc (Nat.le_refl _) _).alloc (by simp) _
  clear hw
  have hc1 := o1.cell (i := 1) (by omega)
  go_wp2_with fail
  clear hc1
  go_loopw [3, 4, 5, 6, 7, 8, 9] (fun x y h t _ _ _ wr => TwoRel zs w.heap.size w x y h t wr) (fun _ _ _ t _ _ _ _ => 24 - (intOf t).toNat)
  case atStart => exact ⟨0, by omega, rfl, rfl, rfl, rfl, o1, o2, hb⟩
  case round =>
    clear o1 o2 hb
    obtain ⟨j, hj, rfl, rfl, rfl, rfl, o1, o2, hb⟩ := hrel
    by_cases hj5 : j < 24
    · have lL := twoT_length zs j
      have oL := twoT_ok oa j
      have lxy := twoT_xy zs j
      rcases hs : twoT zs j with ⟨L, x, y, held⟩
      rw [hs] at lL oL lxy o1
      have lL : L.length = 25 := by rw [← ha]; exact lL
      have oL1 : Ok L := oL.1
      have oL2 : held < 18446744073709551616 := oL.2
      have lx : x < 5 := lxy.1
      have ly : y < 5 := lxy.2
      have o1 : Own wr w.heap.size 23 .u64 L := o1
      clear oL lxy
      have HS := Lib.hid hs
      clear hs
      obtain ⟨to, ht⟩ : ∃ l, laneN (y + 5) (2 * x + 3 * y + 5) = l := ⟨_, rfl⟩
      have h1 : to < 25 := by rw [← ht]; exact laneN_lt _ _
      have h1' : (to : Int) < 25 := by omega
      have hc1 := o1.cell (i := to) (by omega)
      have hf1 := o1.frozen to
      obtain ⟨y', hy'⟩ : ∃ l, (2 * x + 3 * y) % 5 = l := ⟨_, rfl⟩
      have e1 : (2 * (x : Int) + 3 * (y : Int)) % 5 = (y' : Int) := by omega
      have e2 : (2 * (x : Int) + 3 * (y : Int)).tmod 5 = (y' : Int) := by rw [← hy']; rfl
      obtain ⟨m, hm⟩ : ∃ m, (j + 1) * (j + 2) = m := ⟨_, rfl⟩
      have hm1 : m ≤ 24 * 25 := by rw [← hm]; exact Nat.mul_le_mul (by omega) (by omega)
      have hm' : ((j : Int) + 1) * ((j : Int) + 2) = (m : Int) := by rw [← hm]; simp
      obtain ⟨r, hr⟩ : ∃ r, rotl held ((j + 1) * (j + 2) / 2 % 64) = r := ⟨_, rfl⟩
      have hr2 : rotl held (m / 2 % 64) = r := by rw [← hm]; exact hr
      have e3 : IntKind.i64.wrap (m : Int) = (m : Int) := by rw [IntKind.wrap_i64]; omega
      have e4 : (m : Int).tdiv 2 = ((m / 2 : Nat) : Int) := rfl
      go_wp2_with fail
      refine (lane_any _ _ (y + 5) (2 * x + 3 * y + 5) to _ ?_ ?_ (by omega) (by omega) ht).mono ?_
      · omega
      · omega
      rintro e w1 ⟨rfl, rfl⟩
      go_wp2_with fail
      refine (left_any held (m / 2) _ oL2 (by omega)).mono ?_
      rw [hr2]
      rintro e w2 ⟨rfl, rfl⟩
      go_wp2_with fail
      exact ⟨TwoRel.step hj5 HS.out o1 o2 hb ht hr hy' rfl rfl, by simp [intOf]; omega⟩
    · obtain rfl : j = 24 := by omega
      have lp := twoT_length zs 24
      generalize hpp : (twoT zs 24).l = pp at *
      have HP := TwoE.mk hpp
      clear hpp
      rw [ha] at lp
      go_wp2_with (first | refine own_load o1 rfl 23 (.tmp 1) rfl rfl 25 22 lp (by kernel_rfl) (by kernel_rfl) ?_ | refine wpList_store_row rfl 23 (.tmp 2) (.tmp 46) rfl (w.heap.size + 1) (lim .u64 pp) rfl rfl 23 _ o2 (by rw [lim_size, lp]; kernel_rfl) (by rw [lim_size, lim_size, lp]; rfl) (lim_one _ _) ?_)
      have o3' : Own (wr.setRow (w.heap.size + 1) (lim .u64 pp)) (w.heap.size + 1) 23 .u64 pp := setRow_heap _ _ _ _ _ _ o2
      exact bodyPost_ret (results_cell_row rfl _ _ (w.heap.size + 1) 23 (lim .u64 pp) (0, 0) (.array 25 22) rfl o3' (by kernel_rfl) rfl (by rw [lim_size, lp]; kernel_rfl)) rfl ⟨by rw [HP.eq], below_setRow hb (by omega) _⟩
end Go.Proofs.Ytboaahjpjemfpaa
