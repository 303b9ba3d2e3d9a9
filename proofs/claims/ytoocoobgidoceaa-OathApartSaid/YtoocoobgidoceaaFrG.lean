import Derived.Test.YtoocoobgidoceaaFrF
namespace Go.Proofs.Ytoocoobgidoceaa
open Go.RowKit
set_option linter.unusedVariables false

def numOf : Value → Nat
  | .int _ z => z.toNat
  | _ => 0
/-- The number that a block holds. -/
def boxVal (w : World) (g : Nat) : Nat := match w.heap[g]? with
  | some (.cells cs _ _) => val (cs.toList.map numOf)
  | _ => 0
theorem boxVal_own {w : World} {g : Nat} {T : TypeId} {zs : List Nat} (h : Own w g T .u64 zs) : boxVal w g = val zs := by
  unfold boxVal
  rw [show w.heap[g]? = _ from h]
  show val ((lim .u64 zs).toList.map numOf) = val zs
  congr 1
  unfold lim
  rw [List.map_map]
  conv => rhs; rw [← List.map_id zs]
  apply List.map_congr_left
  intro x _
  show Int.toNat (x : Int) = x
  omega
def ClRel (V : Nat) (s : Nat) (w wr : World) : Prop :=
  ∃ zs : List Nat, zs.length = 4 ∧ Ok zs ∧ val zs % rN = V % rN ∧ Own wr s 35 .u64 zs ∧ Own wr (s + 1) 35 .u64 [0, 0, 0, 0] ∧ Below s w wr
theorem four {zs : List Nat} (h : zs.length = 4) : ∃ a0 a1 a2 a3, zs = [a0, a1, a2, a3] :=
  match zs, h with
  | [a0, a1, a2, a3], _ => ⟨a0, a1, a2, a3, rfl⟩

set_option maxHeartbeats 2000000 in
/-- chirographref03.Clean -/
theorem rclean_any (xs : List Nat) (w : World) (hx : xs.length = 4) (ox : Ok xs) :
    Calls Try.prog 43 #[.agg (lim .u64 xs)] w (FrPost (val xs % rN) w) := by
  have hal1 : Try.prog.arrayLen 35 = 4 := by kernel_rfl
  have o1 := (Own.new w 35 .u64 xs).alloc (.cells (lim .u64 [0, 0, 0, 0]) 35)
  have o2 := own_new1 w (.cells (lim .u64 xs) 35) 35 .u64 [0, 0, 0, 0]
  have b0 := ((Below.refl w.heap.size w).alloc (Nat.le_refl _) (.cells (lim .u64 xs) 35)).alloc (by simp) (.cells (lim .u64 [0, 0, 0, 0]) 35)
  have start : ClRel (val xs) w.heap.size w ((w.alloc (.cells (lim .u64 xs) 35)).alloc (.cells (lim .u64 [0, 0, 0, 0]) 35)) := ⟨xs, hx, ox, rfl, o1, o2, b0⟩
  clear o1 o2 b0
  generalize val xs = V at *
  clear hx ox
  have D1 := Lib.hid (fun W => rR_any W)
  go_enter Try.func43, Try.ntmps43
  go_wp2_with fail
  go_loopw [] (fun wr => ClRel V w.heap.size w wr) (fun wr => boxVal wr w.heap.size)
  case atStart => exact start
  case round =>
    clear start
    obtain ⟨zs, hz, oz, hv, o1, o2, hb⟩ := hrel
    have hbv := Lib.hid (boxVal_own o1)
    have D2 := Lib.hid (fun W => rless_any zs rL W hz rL_len oz rL_ok)
    obtain ⟨a0, a1, a2, a3, rfl⟩ := four hz
    obtain ⟨ca0, ca1, ca2, ca3⟩ := o1.c4
    have Hv := Lib.hid hv
    clear hv hz
    by_cases hlt : val [a0, a1, a2, a3] < rN
    · have hless : ltB (val [a0, a1, a2, a3]) (val rL) = true := ltB_yes (by rw [rL_val]; exact hlt)
      rw [hless] at D2
      have Hval : Hid ([a0, a1, a2, a3] = fl (V % rN)) := Lib.hid (fl_of rfl oz (by rw [← Hv.out, Nat.mod_eq_of_lt hlt]))
      clear hless hlt
      have o1d := o1.drew
      have o2d := o2.drew
      have hbd := hb.drew
      go_wp2_with fail
      go_region_with (first
        | (go_at_call 52; refine (D1.out _).mono ?_; rintro e w5 ⟨rfl, b5⟩
           have o1e := o1d.bel b5
           have o2e := o2d.bel b5
           have hbe := hbd.trans (b5.mono hbd.size)
           obtain ⟨cb0, cb1, cb2, cb3⟩ := o1e.c4)
        | (go_at_call 51; refine (D2.out _).mono ?_; rintro e w6 ⟨rfl, b6⟩
           have o1f := o1e.bel b6
           have o2f := o2e.bel b6
           have hbf := hbe.trans (b6.mono hbe.size)))
      all_goals go_wp2_with (first | refine own_load o1f rfl 35 (.tmp 1) rfl rfl 4 33 rfl (by kernel_rfl) (by kernel_rfl) ?_ | refine wpList_store_row rfl 35 (.tmp 2) (.tmp 10) rfl (w.heap.size + 1) (lim .u64 [a0, a1, a2, a3]) rfl rfl 35 _ o2f (by kernel_rfl) rfl (lim_one _ _) ?_)
      all_goals
        have q2' : Own (w6.setRow (w.heap.size + 1) (lim .u64 [a0, a1, a2, a3])) (w.heap.size + 1) 35 .u64 [a0, a1, a2, a3] := setRow_heap _ _ _ _ _ _ o2f
        exact bodyPost_ret (results_cell_row rfl _ _ (w.heap.size + 1) 35 (lim .u64 [a0, a1, a2, a3]) (0, 0) (.array 4 33) rfl q2' (by kernel_rfl) rfl (by kernel_rfl)) rfl ⟨by rw [Hval.out], below_setRow hbf (by omega) _⟩
    · have hless : ltB (val [a0, a1, a2, a3]) (val rL) = false := ltB_no (by rw [rL_val]; omega)
      rw [hless] at D2
      have D3 := (fun W => rminus_any [a0, a1, a2, a3] rL W rfl rL_len oz rL_ok (by rw [rL_val]; omega))
      obtain ⟨e0, e1, e2, e3, he⟩ := fl4 (val [a0, a1, a2, a3] - val rL)
      unfold FrPost at D3
      rw [he] at D3
      have D3 : ∀ W : World, Calls Try.prog 53 #[.agg #[.int .u64 (a0 : Nat), .int .u64 (a1 : Nat), .int .u64 (a2 : Nat), .int .u64 (a3 : Nat)], .agg (lim .u64 rL)] W fun e w' => e = .returned (.agg #[.int .u64 (e0 : Nat), .int .u64 (e1 : Nat), .int .u64 (e2 : Nat), .int .u64 (e3 : Nat)]) ∧ Below W.heap.size W w' := D3
      have D3 := Lib.hid D3
      have hev : val [e0, e1, e2, e3] = val [a0, a1, a2, a3] - rN := by
        rw [← he, rL_val, fl_val]
        have := val_lt oz
        exact Nat.lt_of_le_of_lt (Nat.sub_le _ _) this
      have heo : Ok [e0, e1, e2, e3] := by rw [← he]; exact fl_ok _
      have Hev := Lib.hid hev
      have Hlt := Lib.hid hlt
      have Heo := Lib.hid heo
      clear hless hlt he hev heo
      have o1d := o1.drew
      have o2d := o2.drew
      have hbd := hb.drew
      go_wp2_with fail
      go_region_with (first
        | (go_at_call 52; refine (D1.out _).mono ?_; rintro e w5 ⟨rfl, b5⟩
           have o1e := o1d.bel b5
           have o2e := o2d.bel b5
           have hbe := hbd.trans (b5.mono hbd.size)
           obtain ⟨cb0, cb1, cb2, cb3⟩ := o1e.c4)
        | (go_at_call 51; refine (D2.out _).mono ?_; rintro e w6 ⟨rfl, b6⟩
           have o1f := o1e.bel b6
           have o2f := o2e.bel b6
           have hbf := hbe.trans (b6.mono hbe.size)
           obtain ⟨cc0, cc1, cc2, cc3⟩ := o1f.c4
           have o1g := o1f.drew
           have o2g := o2f.drew
           have hbg := hbf.drew))
      all_goals go_wp2_with fail
      all_goals go_region_with (first
        | (go_at_call 52; refine (D1.out _).mono ?_; rintro e w7 ⟨rfl, b7⟩
           have o1h := o1g.bel b7
           have o2h := o2g.bel b7
           have hbh := hbg.trans (b7.mono hbg.size)
           obtain ⟨cd0, cd1, cd2, cd3⟩ := o1h.c4)
        | (go_at_call 53; refine (D3.out _).mono ?_; rintro e w8 ⟨rfl, b8⟩
           have o1i := o1h.bel b8
           have o2i := o2h.bel b8
           have hbi := hbh.trans (b8.mono hbh.size)
           obtain ⟨ce0, ce1, ce2, ce3⟩ := o1i.c4
           have f0 := o1i.frozen 0
           have f1 := o1i.frozen 1
           have f2 := o1i.frozen 2
           have f3 := o1i.frozen 3))
      all_goals go_wp2_with fail
      all_goals
        have on1 := own_four (a0 := e0) (a1 := e1) (a2 := e2) (a3 := e3) o1i rfl
        refine ⟨⟨[e0, e1, e2, e3], rfl, Heo.out, ?_, on1, own_four_far o2i (by omega), below_four hbi (Nat.le_refl _)⟩, ?_⟩
      all_goals first
        | (rw [Hev.out, ← Hv.out]; have := Hlt.out; conv => rhs; rw [show val [a0, a1, a2, a3] = val [a0, a1, a2, a3] - rN + rN by omega, Nat.add_mod_right])
        | (rw [boxVal_own on1, hbv.out, Hev.out]; have := Hlt.out; have := rN_pos; omega)

set_option maxHeartbeats 1000000 in
/-- chirographref03.Add -/
theorem radd3_any (a b : Nat) (w : World) (ha : a < rN) (hb : b < rN) :
    Calls Try.prog 31 #[.agg (lim .u64 (fl a)), .agg (lim .u64 (fl b))] w (FrPost ((a + b) % rN) w) := by
  have h2 := rN_two
  have va := fl_val (show a < pw 4 by omega)
  have vb := fl_val (show b < pw 4 by omega)
  have vs := fl_val (show a + b < pw 4 by omega)
  have D1 := (fun W => rplus_any (fl a) (fl b) W (fl_len a) (fl_len b) (fl_ok a) (fl_ok b) (by rw [va, vb]; omega))
  have D2 := (fun W => rclean_any (fl (a + b)) W (fl_len _) (fl_ok _))
  rw [vs] at D2
  rw [va, vb] at D1
  have D1 := Lib.hid D1
  have D2 := Lib.hid D2
  have la := fl_len a
  have lb := fl_len b
  clear va vb vs ha hb h2
  generalize fl a = xs at *
  generalize fl b = ys at *
  have o1 := ((Own.new w 35 .u64 xs).alloc (.cells (lim .u64 ys) 35)).alloc (.cells (lim .u64 [0, 0, 0, 0]) 35)
  have o2 := (own_new1 w (.cells (lim .u64 xs) 35) 35 .u64 ys).alloc (.cells (lim .u64 [0, 0, 0, 0]) 35)
  have o3 := own_new2 w (.cells (lim .u64 xs) 35) (.cells (lim .u64 ys) 35) 35 .u64 [0, 0, 0, 0]
  have b0 := (((Below.refl w.heap.size w).alloc (Nat.le_refl _) (.cells (lim .u64 xs) 35)).alloc (by simp) (.cells (lim .u64 ys) 35)).alloc (by simp; omega) (.cells (lim .u64 [0, 0, 0, 0]) 35)
  go_enter Try.func31, Try.ntmps31
  go_wp2_with (first | refine own_load o1 rfl 35 (.tmp 2) rfl rfl 4 33 la (by kernel_rfl) (by kernel_rfl) ?_ | refine own_load o2 rfl 35 (.tmp 3) rfl rfl 4 33 lb (by kernel_rfl) (by kernel_rfl) ?_)
  refine (D1.out _).mono ?_
  rintro e w5 ⟨rfl, b5⟩
  have p3 := o3.bel b5
  have bb := b0.trans (b5.mono b0.size)
  clear o1 o2 o3 b0 b5 D1
  go_wp2_with fail
  refine (D2.out _).mono ?_
  rintro e w6 ⟨rfl, b6⟩
  have q3 := p3.bel b6
  have bc := bb.trans (b6.mono bb.size)
  have Hl := Lib.hid (fl_len ((a + b) % rN))
  generalize hf : fl ((a + b) % rN) = zs at *
  have Hf := Lib.hid hf
  clear p3 bb b6 D2 hf
  go_wp2_with (refine wpList_store_row rfl 35 (.tmp 4) (.tmp 8) rfl (w.heap.size + 2) (lim .u64 zs) rfl rfl 35 _ q3 (by rw [lim_size, Hl.out]; kernel_rfl) (by rw [lim_size, lim_size, Hl.out]; rfl) (lim_one _ _) ?_)
  have q2' : Own (w6.setRow (w.heap.size + 2) (lim .u64 zs)) (w.heap.size + 2) 35 .u64 zs := setRow_heap _ _ _ _ _ _ q3
  exact bodyPost_ret (results_cell_row rfl _ _ (w.heap.size + 2) 35 (lim .u64 zs) (0, 0) (.array 4 33) rfl q2' (by kernel_rfl) rfl (by rw [lim_size, Hl.out]; kernel_rfl)) rfl ⟨by rw [Hf.out], below_setRow bc (by omega) _⟩
end Go.Proofs.Ytoocoobgidoceaa
