import Derived.Test.YtoocoobgidoceaaFrG
namespace Go.Proofs.Ytoocoobgidoceaa
open Go.RowKit
set_option linter.unusedVariables false

theorem fl_small {x : Nat} (h : x < 256) : fl x = [x, 0, 0, 0] := by
  unfold fl
  rw [Nat.mod_eq_of_lt (by omega), Nat.div_eq_of_lt (b := pw 1) (Nat.lt_of_lt_of_le h (by decide)), Nat.div_eq_of_lt (b := pw 2) (Nat.lt_of_lt_of_le h (by decide)), Nat.div_eq_of_lt (b := pw 3) (Nat.lt_of_lt_of_le h (by decide))]
theorem dbl_mod (h j : Nat) : (h * 2 ^ j % rN + h * 2 ^ j % rN) % rN = h * 2 ^ (j + 1) % rN := by
  rw [← Nat.add_mod, Nat.pow_succ, ← Nat.mul_assoc, Nat.mul_two]
theorem acc_mod (h x : Nat) : (h % rN * 2 ^ 8 % rN + x) % rN = (h * 256 + x) % rN := by
  rw [Nat.mod_mul_mod, Nat.mod_add_mod]
def RhR (bs : List Nat) (s : Nat) (w : World) (i : Value) (wr : World) : Prop :=
  ∃ k : Nat, k ≤ bs.length ∧ i = .int .i64 (k : Int) ∧ Own wr s 35 .u64 [0, 0, 0, 0] ∧ Own wr (s + 1) 35 .u64 (fl (hN (bs.take k) % rN)) ∧ Below s w wr
def RhI (h s : Nat) (w : World) (i : Value) (wr : World) : Prop :=
  ∃ k : Nat, k ≤ 8 ∧ i = .int .i64 (k : Int) ∧ Own wr s 35 .u64 [0, 0, 0, 0] ∧ Own wr (s + 1) 35 .u64 (fl (h * 2 ^ k % rN)) ∧ Below s w wr
theorem fl_zero' : [0, 0, 0, 0] = fl (hN [] % rN) := rfl

attribute [local irreducible] hN fl
set_option maxHeartbeats 4000000 in
/-- chirographref03.Hash -/
theorem rhash_any (s : ByteArray) (w : World) (hs : s.size ≤ maxLen) :
    Calls Try.prog 24 #[.string s] w (FrPost (hN (bytesN s) % rN) w) := by
  have hix : ∀ j, j < s.size → ∀ w, (Instr.index 9 (.string s) (.int .i64 (j : Int))).run Try.prog w = .ok (.int .u8 (nth (bytesN s) j : Nat)) w := fun j hj w => index_strF s j w hj
  have bl := bytesN_length s
  have bB := bytesN_lt s
  generalize bytesN s = bs at *
  obtain ⟨n, hn⟩ : ∃ n, s.size = n := ⟨_, rfl⟩
  have hsz : (s.size : Int) = (n : Int) := by omega
  rw [hn] at bl hix hs
  have o1 := (Own.new w 35 .u64 [0, 0, 0, 0]).alloc (.cells (lim .u64 [0, 0, 0, 0]) 35)
  have o2 := own_new1 w (.cells (lim .u64 [0, 0, 0, 0]) 35) 35 .u64 [0, 0, 0, 0]
  have b0 := ((Below.refl w.heap.size w).alloc (Nat.le_refl _) (.cells (lim .u64 [0, 0, 0, 0]) 35)).alloc (by simp) (.cells (lim .u64 [0, 0, 0, 0]) 35)
  have start : RhR bs w.heap.size w (.int .i64 0) ((w.alloc (.cells (lim .u64 [0, 0, 0, 0]) 35)).alloc (.cells (lim .u64 [0, 0, 0, 0]) 35)) :=
    ⟨0, Nat.zero_le _, rfl, o1, by rw [List.take_zero, ← fl_zero']; exact o2, b0⟩
  clear o1 o2 b0 hn
  unfold maxLen at hs
  have Hix := Lib.hid hix
  clear hix
  go_enter Try.func24, Try.ntmps24
  go_wp2_with (first | refine wpList_build_to rfl 35 _ rfl (lim .u64 [0, 0, 0, 0]) (by kernel_rfl) ?_ | refine wpList_store_newG rfl 35 (.tmp 3) (.tmp 6) rfl .u64 [0, 0, 0, 0] (w.heap.size + 1) rfl (by simp) rfl 35 _ (by kernel_rfl) rfl ?_)
  go_loopw [4] (RhR bs w.heap.size w) (fun i _ => bs.length - (intOf i).toNat)
  case atStart => exact start
  case round =>
    clear start
    obtain ⟨k, hk, rfl, o1, o2, hb⟩ := hrel
    by_cases hkn : k < bs.length
    · have hkn' : (k : Int) < (n : Int) := by omega
      have hidx := Hix.out k (by omega)
      have hx : nth bs k < 256 := bB _ (by rw [nth_eq hkn]; exact List.getElem_mem hkn)
      have HS := Lib.hid (hN_succ hkn)
      generalize hN (bs.take k) = h at *
      obtain ⟨x, hxe⟩ : ∃ x, nth bs k = x := ⟨_, rfl⟩
      rw [hxe] at hidx hx HS
      have hwx : IntKind.u64.wrap (x : Int) = (x : Int) := by rw [IntKind.wrap_u64]; omega
      have istart : RhI (h % rN) w.heap.size w (.int .i64 0) wr := ⟨0, by decide, rfl, o1, by rw [Nat.pow_zero, Nat.mul_one, Nat.mod_mod]; exact o2, hb⟩
      have Hx := Lib.hid hx
      clear o1 o2 hb hxe hx
      go_wp2_with fail
      go_loopw [5] (RhI (h % rN) w.heap.size w) (fun i _ => 8 - (intOf i).toNat)
      case atStart => exact istart
      case round =>
        clear istart
        obtain ⟨j, hj, rfl, o1, o2, hb⟩ := hrel
        by_cases hj8 : j < 8
        · have D1 := fun W => radd3_any (h % rN * 2 ^ j % rN) (h % rN * 2 ^ j % rN) W (Nat.mod_lt _ rN_pos) (Nat.mod_lt _ rN_pos)
          rw [dbl_mod] at D1
          have D1 := Lib.hid D1
          have lz := fl_len (h % rN * 2 ^ j % rN)
          have Hl := Lib.hid (fl_len (h % rN * 2 ^ (j + 1) % rN))
          have hj8' : (j : Int) < 8 := by omega
          generalize fl (h % rN * 2 ^ j % rN) = xs at *
          go_wp2_with (refine own_load o2 rfl 35 (.tmp 3) rfl rfl 4 33 lz (by kernel_rfl) (by kernel_rfl) ?_)
          refine (D1.out _).mono ?_
          rintro e w5 ⟨rfl, b5⟩
          have p1 := o1.bel b5
          have p2 := o2.bel b5
          have bb := hb.trans (b5.mono hb.size)
          clear D1 o1 o2 hb b5
          generalize hf : fl (h % rN * 2 ^ (j + 1) % rN) = zs at *
          have Hf := Lib.hid hf
          clear hf
          go_wp2_with (refine wpList_store_row rfl 35 (.tmp 3) (.tmp 19) rfl (w.heap.size + 1) (lim .u64 zs) rfl rfl 35 _ p2 (by rw [lim_size, Hl.out]; kernel_rfl) (by rw [lim_size, lim_size, Hl.out, lz]) (lim_one _ _) ?_)
          have q2 : Own (w5.setRow (w.heap.size + 1) (lim .u64 zs)) (w.heap.size + 1) 35 .u64 zs := setRow_heap _ _ _ _ _ _ p2
          exact ⟨⟨j + 1, by omega, rfl, (setRow_other _ _ _ _ (by omega)).trans p1, by rw [Hf.out]; exact q2, below_setRow bb (by omega) _⟩, by simp [intOf]; omega⟩
        · obtain rfl : j = 8 := by omega
          have hj8' : ¬ ((8 : Nat) : Int) < 8 := by omega
          have D1 := fun W => radd3_any (h % rN * 2 ^ 8 % rN) x W (Nat.mod_lt _ rN_pos) (Nat.lt_of_lt_of_le Hx.out (by decide))
          rw [acc_mod, ← HS.out, fl_small Hx.out] at D1
          obtain ⟨a0, a1, a2, a3, ha⟩ := four (fl_len (h % rN * 2 ^ 8 % rN))
          obtain ⟨e0, e1, e2, e3, he⟩ := four (fl_len (hN (bs.take (k + 1)) % rN))
          unfold FrPost at D1
          rw [ha, he] at D1
          rw [ha] at o2
          have He := Lib.hid he
          clear ha he
          have D1 : ∀ W : World, Calls Try.prog 31 #[.agg #[.int .u64 (a0 : Nat), .int .u64 (a1 : Nat), .int .u64 (a2 : Nat), .int .u64 (a3 : Nat)], .agg #[.int .u64 (x : Nat), .int .u64 0, .int .u64 0, .int .u64 0]] W fun e w' => e = .returned (.agg #[.int .u64 (e0 : Nat), .int .u64 (e1 : Nat), .int .u64 (e2 : Nat), .int .u64 (e3 : Nat)]) ∧ Below W.heap.size W w' := D1
          have D1 := Lib.hid D1
          obtain ⟨ca0, ca1, ca2, ca3⟩ := o2.c4
          have o1d := o1.drew
          have o2d := o2.drew
          have hbd := hb.drew
          go_wp2_with fail
          go_still_tail 6, (by kernel_rfl)
          go_wp2_with fail
          refine (D1.out _).mono ?_
          rintro e w5 ⟨rfl, b5⟩
          have p1 := o1d.bel b5
          have p2 := o2d.bel b5
          have bb := hbd.trans (b5.mono hbd.size)
          obtain ⟨cb0, cb1, cb2, cb3⟩ := p2.c4
          have f0 := p2.frozen 0
          have f1 := p2.frozen 1
          have f2 := p2.frozen 2
          have f3 := p2.frozen 3
          go_wp2_with fail
          exact ⟨⟨k + 1, by omega, rfl, own_four_far p1 (by omega), by rw [He.out]; exact own_four p2 rfl, below_four bb (by omega)⟩, by simp [intOf]; omega⟩
    · obtain rfl : k = bs.length := by omega
      rw [List.take_length] at o2
      have lz := fl_len (hN bs % rN)
      have hkn' : ¬ (bs.length : Int) < (n : Int) := by omega
      generalize hf : fl (hN bs % rN) = zs at *
      have Hf := Lib.hid hf
      clear hf
      go_wp2_with (first | refine own_load o2 rfl 35 (.tmp 3) rfl rfl 4 33 lz (by kernel_rfl) (by kernel_rfl) ?_ | refine wpList_store_row rfl 35 (.tmp 2) (.tmp 27) rfl w.heap.size (lim .u64 zs) rfl rfl 35 _ o1 (by rw [lim_size, lz]; kernel_rfl) (by rw [lim_size, lim_size, lz]; rfl) (lim_one _ _) ?_)
      have q2' : Own (wr.setRow w.heap.size (lim .u64 zs)) w.heap.size 35 .u64 zs := setRow_heap _ _ _ _ _ _ o1
      exact bodyPost_ret (results_cell_row rfl _ _ w.heap.size 35 (lim .u64 zs) (0, 0) (.array 4 33) rfl q2' (by kernel_rfl) rfl (by rw [lim_size, lz]; kernel_rfl)) rfl ⟨by rw [Hf.out], below_setRow hb (Nat.le_refl _) _⟩
end Go.Proofs.Ytoocoobgidoceaa
