import Derived.Test.YtoocoobgidoceaaFrE
import Derived.Test.YtoocoobgidoceaaNatAll
import Derived.BigQuiet
namespace Go.Proofs.Ytoocoobgidoceaa
open Go.RowKit
set_option linter.unusedVariables false

theorem wpList_store_newG {P : Program} {ops : Array Oper} {rest : List Oper} {o : Oper} {a : Act} {w : World} {Q : Exit → Act → World → Prop} (hgd : o.guard = none) (ty : TypeId) (x y : Operand) (ho : o.op = .store ty x y)
    (k : IntKind) (zs : List Nat) (g : Nat) (hx : a.eval x = .pointer (some ⟨g, 0, none⟩)) (hg : g = w.heap.size) (hy : a.eval y = .agg (lim k zs))
    (t : TypeId) (old : Array Value) (hi : (P.info? ty).map (·.size) = some zs.length)
    (hold : old.size = zs.length) (h : wpList P ops Q rest (a.put o.dst undef) (w.alloc (.cells (lim k zs) t))) : wpList P ops Q (o :: rest) a (w.alloc (.cells old t)) := by
  subst hg
  exact wpList_store_new hgd ty x y ho k zs hx hy t old hi hold h

set_option maxHeartbeats 400000 in
/-- chirographref03.R -/
theorem rR_any (w : World) :
    Calls Try.prog 52 #[] w fun e w' => e = .returned (.agg (lim .u64 rL)) ∧ Below w.heap.size w w' := by
  go_enter Try.func52, Try.ntmps52
  have o1 := Own.new w 35 .u64 rL
  go_wp2_with (first | refine wpList_build_to rfl 35 _ rfl (lim .u64 rL) (by kernel_rfl) ?_ | refine wpList_store_new rfl 35 (.tmp 0) (.tmp 1) rfl .u64 rL rfl rfl 35 _ (by kernel_rfl) rfl ?_)
  exact bodyPost_ret (results_cell_row rfl _ _ w.heap.size 35 (lim .u64 rL) (0, 0) (.array 4 33) rfl o1 (by kernel_rfl) rfl (by kernel_rfl)) rfl ⟨rfl, (Below.refl _ _).alloc (Nat.le_refl _) _⟩

def FlRel (xs ys : List Nat) (s : Nat) (w : World) (i : Value) (wr : World) : Prop :=
  ∃ k : Nat, k ≤ 4 ∧ i = .int .i64 ((k : Int) - 1) ∧ val xs / pw k = val ys / pw k ∧ Own wr s 35 .u64 xs ∧ Own wr (s + 1) 35 .u64 ys ∧ Below s w wr
set_option maxHeartbeats 1000000 in
/-- chirographref03.Less -/
theorem rless_any (xs ys : List Nat) (w : World) (hx : xs.length = 4) (hy : ys.length = 4) (ox : Ok xs) (oy : Ok ys) :
    Calls Try.prog 51 #[.agg (lim .u64 xs), .agg (lim .u64 ys)] w fun e w' => e = .returned (.bool (ltB (val xs) (val ys))) ∧ Below w.heap.size w w' := by
  have hal1 : Try.prog.arrayLen 35 = 4 := by kernel_rfl
  have o1 := (Own.new w 35 .u64 xs).alloc (.cells (lim .u64 ys) 35)
  have o2 := own_new1 w (.cells (lim .u64 xs) 35) 35 .u64 ys
  have b0 := ((Below.refl w.heap.size w).alloc (Nat.le_refl _) (.cells (lim .u64 xs) 35)).alloc (by simp) (.cells (lim .u64 ys) 35)
  have Hx := Lib.hid hx
  have Hy := Lib.hid hy
  have start : FlRel xs ys w.heap.size w (.int .i64 3) ((w.alloc (.cells (lim .u64 xs) 35)).alloc (.cells (lim .u64 ys) 35)) :=
    ⟨4, by decide, rfl, by rw [val_top ox (by omega), val_top oy (by omega)], o1, o2, b0⟩
  clear o1 o2 b0 hx hy
  go_enter Try.func51, Try.ntmps51
  go_wp2_with fail
  go_loopw [5] (FlRel xs ys w.heap.size w) (fun i _ => (intOf i + 1).toNat)
  case atStart => exact start
  case round =>
    clear start
    obtain ⟨k, hk, hi, he, o1, o2, hb⟩ := hrel
    have He := Lib.hid he
    clear he
    rcases k with _ | j
    · subst hi
      go_wp2
      go_ret
      exact ⟨ret_bool (ltB_no (by have := He.out; rw [pw_zero, Nat.div_one, Nat.div_one] at this; omega)).symm, hb⟩
    · obtain rfl : _ = Value.int .i64 (j : Int) := hi.trans (int_eq (by omega))
      clear hi
      have hc1 := o1.cell (i := j) (by have := Hx.out; omega)
      have hc2 := o2.cell (i := j) (by have := Hy.out; omega)
      have hj1 : (j : Int) < 4 := by omega
      have hj0 : (0 : Int) ≤ (j : Int) := by omega
      rcases Nat.lt_trichotomy (nth xs j) (nth ys j) with h | h | h
      · have hne : (((nth xs j : Nat) : Int) != ((nth ys j : Nat) : Int)) = true := by simp; omega
        have hgt : decide (((nth xs j : Nat) : Int) < ((nth ys j : Nat) : Int)) = true := by simp; omega
        go_wp2_with fail
        go_quiet (fail)
        go_wp2_with fail
        go_quiet (fail)
        go_wp2_with fail
        go_ret
        exact ⟨ret_bool (ltB_yes (val_lt_of ox oy He.out h)).symm, below_drewN (below_drewN hb _) _⟩
      · have hne : (((nth xs j : Nat) : Int) != ((nth ys j : Nat) : Int)) = false := by rw [h]; simp
        have H := Lib.hid h
        clear h
        go_wp2_with fail
        go_quiet (fail)
        go_wp2_with fail
        exact ⟨⟨j, by omega, rfl, val_eq_of ox oy He.out H.out, o1.drewN _, o2.drewN _, below_drewN hb _⟩, by simp [intOf]⟩
      · have hne : (((nth xs j : Nat) : Int) != ((nth ys j : Nat) : Int)) = true := by simp; omega
        have hgt : decide (((nth xs j : Nat) : Int) < ((nth ys j : Nat) : Int)) = false := by simp; omega
        go_wp2_with fail
        go_quiet (fail)
        go_wp2_with fail
        go_quiet (fail)
        go_wp2_with fail
        go_ret
        exact ⟨ret_bool ((decide_eq_false (by omega)).trans (ltB_no (Nat.le_of_lt (val_lt_of oy ox He.out.symm h))).symm), below_drewN (below_drewN hb _) _⟩

def FbRel (Q : Nat → Nat → Nat → Prop) (xs ys : List Nat) (s : Nat) (w : World) (i cy : Value) (wr : World) : Prop :=
  ∃ (k c : Nat) (zs : List Nat), k ≤ 4 ∧ i = .int .i64 (k : Int) ∧ cy = .int .u64 (c : Int) ∧ c ≤ 1 ∧ zs.length = 4 ∧ Ok zs ∧ Own wr s 35 .u64 xs ∧ Own wr (s + 1) 35 .u64 ys ∧ Own wr (s + 1 + 1) 35 .u64 [0, 0, 0, 0] ∧ Own wr (s + 1 + 1 + 1) 35 .u64 zs ∧ Below s w wr ∧ Q k (val (zs.take k)) c
def QSub (xs ys : List Nat) (k V c : Nat) : Prop := V + val (ys.take k) = val (xs.take k) + pw k * c
def QAdd (xs ys : List Nat) (k V c : Nat) : Prop := V + pw k * c = val (xs.take k) + val (ys.take k)
theorem FbRel.step {Q : Nat → Nat → Nat → Prop} {xs ys zs : List Nat} {s k c' z n : Nat} {w wr : World} {iv cv : Int} (hk : k < 4) (hc : c' ≤ 1) (hz : zs.length = 4) (oz : Ok zs) (hzl : z < 18446744073709551616) (o1 : Own wr s 35 .u64 xs) (o2 : Own wr (s + 1) 35 .u64 ys) (o3 : Own wr (s + 1 + 1) 35 .u64 [0, 0, 0, 0])
    (o4 : Own wr (s + 1 + 1 + 1) 35 .u64 (zs.set k z)) (hb : Below s w wr) (hi : iv = (k : Int) + 1) (hcv : cv = (c' : Int)) (h : Q (k + 1) (val (zs.take k) + pw k * z) c') : FbRel Q xs ys s w (.int .i64 iv) (.int .u64 cv) (wr.drewN n) := by
  subst hi hcv
  refine ⟨k + 1, c', zs.set k z, by omega, rfl, rfl, hc, by simpa using hz, oz.set hzl k, o1.drewN n, o2.drewN n, o3.drewN n, o4.drewN n, below_drewN hb n, ?_⟩
  rw [val_set_take (by omega)]
  exact h
theorem minus_wrap {x y c : Nat} (hx : x < 18446744073709551616) (hy : y < 18446744073709551616) (hc : c ≤ 1) : IntKind.u64.wrap (IntKind.u64.wrap ((x : Int) - (y : Int)) - (c : Int)) = (subLo x y c : Nat) := by
  rw [IntKind.wrap_u64, IntKind.wrap_u64]
  unfold subLo
  omega
theorem plus_wrap {x y c : Nat} : IntKind.u64.wrap (IntKind.u64.wrap ((x : Int) + (y : Int)) + (c : Int)) = (addLo x y c : Nat) := by
  rw [IntKind.wrap_u64, IntKind.wrap_u64]
  unfold addLo
  omega

set_option maxHeartbeats 2000000 in
/-- chirographref03.minus -/
theorem rminus_any (xs ys : List Nat) (w : World) (hx : xs.length = 4) (hy : ys.length = 4) (ox : Ok xs) (oy : Ok ys) (hlt : val ys ≤ val xs) :
    Calls Try.prog 53 #[.agg (lim .u64 xs), .agg (lim .u64 ys)] w (FrPost (val xs - val ys) w) := by
  have hal1 : Try.prog.arrayLen 35 = 4 := by kernel_rfl
  have Hx := Lib.hid hx
  have Hy := Lib.hid hy
  have Hlt := Lib.hid hlt
  clear hx hy hlt
  obtain ⟨W, hW⟩ : ∃ W, (((w.alloc (.cells (lim .u64 xs) 35)).alloc (.cells (lim .u64 ys) 35)).alloc (.cells (lim .u64 [0, 0, 0, 0]) 35)).alloc (.cells (lim .u64 [0, 0, 0, 0]) 35) = W := ⟨_, rfl⟩
  have o1 : Own W w.heap.size 35 .u64 xs := by rw [← hW]; exact (((Own.new w _ _ _).alloc _).alloc _).alloc _
  have o2 : Own W (w.heap.size + 1) 35 .u64 ys := by rw [← hW]; exact ((own_new1 w _ _ _ _).alloc _).alloc _
  have o3 : Own W (w.heap.size + 1 + 1) 35 .u64 [0, 0, 0, 0] := by rw [← hW]; exact (own_new2 w _ _ _ _ _).alloc _
  have o4 : Own W (w.heap.size + 1 + 1 + 1) 35 .u64 [0, 0, 0, 0] := by
    rw [← hW]
    have := Own.new (((w.alloc (.cells (lim .u64 xs) 35)).alloc (.cells (lim .u64 ys) 35)).alloc (.cells (lim .u64 [0, 0, 0, 0]) 35)) 35 .u64 [0, 0, 0, 0]
    rwa [World.size_alloc, World.size_alloc, World.size_alloc] at this
  have b0 : Below w.heap.size w W := by rw [← hW]; exact ((((Below.refl w.heap.size w).alloc (Nat.le_refl _) _).alloc (by simp) _).alloc (by simp; omega) _).alloc (by simp; omega) _
  have start : FbRel (QSub xs ys) xs ys w.heap.size w (.int .i64 0) (.int .u64 0) W :=
    ⟨0, 0, [0, 0, 0, 0], by decide, rfl, rfl, by decide, rfl, Ok.replicate 4, o1, o2, o3, o4, b0, by unfold QSub; simp [val]⟩
  clear o1 o2 o3 o4 b0
  go_enter Try.func53, Try.ntmps53
  go_wp2_with (first | refine wpList_build_to rfl 35 _ rfl (lim .u64 [0, 0, 0, 0]) (by kernel_rfl) ?_ | refine wpList_store_newG rfl 35 (.tmp 5) (.tmp 8) rfl .u64 [0, 0, 0, 0] (w.heap.size + 1 + 1 + 1) rfl (by simp) rfl 35 _ (by kernel_rfl) rfl ?_)
  rw [show (((w.alloc (.cells (lim .u64 xs) 35)).alloc (.cells (lim .u64 ys) 35)).alloc (.cells #[.int .u64 0, .int .u64 0, .int .u64 0, .int .u64 0] 35)).alloc (.cells (lim .u64 [0, 0, 0, 0]) 35) = W from hW]
  clear hW
  go_loopw [7, 6] (FbRel (QSub xs ys) xs ys w.heap.size w) (fun i _ _ => 4 - (intOf i).toNat)
  case atStart => exact start
  case round =>
    clear start
    obtain ⟨k, c, zs, hk, rfl, rfl, hc, hz, oz, o1, o2, o3, o4, hb, hq⟩ := hrel
    have Hq := Lib.hid hq
    have Hz := Lib.hid hz
    clear hq
    by_cases hk4 : k < 4
    · have hk4' : (k : Int) < 4 := by omega
      have hc1 := o1.cell (i := k) (by have := Hx.out; omega)
      have hc2 := o2.cell (i := k) (by have := Hy.out; omega)
      have hc4 := o4.cell (i := k) (by omega)
      have hf4 := o4.frozen k
      have bx := ox.getD k
      have bY := oy.getD k
      generalize hxk : nth xs k = x at *
      generalize hyk : nth ys k = y at *
      have hw := minus_wrap bx bY hc
      have zl := subLo_lt x y c
      have Hq1 : Hid (QSub xs ys (k + 1) (val (zs.take k) + pw k * subLo x y c) (subHi x y c)) := Lib.hid (by
        unfold QSub
        rw [val_take_succ ys, val_take_succ xs, pw_succ, hxk, hyk]
        exact sub_step _ _ _ _ _ _ _ bx bY hc Hq.out)
      have hcl := subHi_le x y c
      have HCV1 : Hid (x < y ∨ x = y ∧ c = 1 → (1 : Int) = ((subHi x y c : Nat) : Int)) := Lib.hid (fun h => by unfold subHi; rw [if_pos (by omega)]; rfl)
      have HCV0 : Hid (¬ x < y → ¬ (x = y ∧ c = 1) → (0 : Int) = ((subHi x y c : Nat) : Int)) := Lib.hid (fun h h' => by unfold subHi; rw [if_neg (by omega)]; rfl)
      generalize subLo x y c = z at *
      generalize subHi x y c = c' at *
      clear hz
      go_wp2_with fail
      go_region
      go_wp2_with fail
      have p1 := o1.drew.far (p := ⟨w.heap.size + 1 + 1 + 1, k, none⟩) (by intro h; simp at h; try omega) (.int .u64 (z : Nat))
      have p2 := o2.drew.far (p := ⟨w.heap.size + 1 + 1 + 1, k, none⟩) (by intro h; simp at h; try omega) (.int .u64 (z : Nat))
      have p3 := o3.drew.far (p := ⟨w.heap.size + 1 + 1 + 1, k, none⟩) (by intro h; simp at h; try omega) (.int .u64 (z : Nat))
      have p4 := o4.drew.set k z
      have pb := hb.drew.setCell (p := ⟨w.heap.size + 1 + 1 + 1, k, none⟩) (by show w.heap.size ≤ w.heap.size + 1 + 1 + 1; omega) (.int .u64 (z : Nat))
      have hd1 := p1.cell (i := k) (by have := Hx.out; omega)
      have hd2 := p2.cell (i := k) (by have := Hy.out; omega)
      have hd4 := p4.cell (i := k) (by rw [List.length_set]; have := Hz.out; omega)
      rw [hxk] at hd1
      rw [hyk] at hd2
      rw [nth_set (by have := Hz.out; omega), if_pos rfl] at hd4
      clear hc1 hc2 hc4 hf4 o1 o2 o3 o4 hb hxk hyk
      change Code.wp _ _ _ _ ((World.drew wr).setCell _ _)
      generalize (World.drew wr).setCell ⟨w.heap.size + 1 + 1 + 1, k, none⟩ (.int .u64 (z : Nat)) = w6 at *
      rcases Nat.lt_trichotomy x y with hcmp | hcmp | hcmp
      · have hlt1 : decide (((x : Nat) : Int) < ((y : Nat) : Int)) = true := by simp; omega
        have hlt2 : decide (x < y) = true := by simp; omega
        have hcv : Hid ((1 : Int) = ((c' : Nat) : Int)) := Lib.hid (HCV1.out (Or.inl hcmp))
        clear hcmp
        go_quiet (fail)
        go_wp2_with fail
        exact ⟨FbRel.step hk4 hcl Hz.out oz zl p1 p2 p3 p4 pb rfl hcv.out Hq1.out, by simp [intOf]; omega⟩
      · have hlt1 : decide (((x : Nat) : Int) < ((y : Nat) : Int)) = false := by simp; omega
        have hlt2 : decide (x < y) = false := by simp; omega
        have heq1 : (((x : Nat) : Int) == ((y : Nat) : Int)) = true := by simp; omega
        have heq2 : decide (x = y) = true := by simp; omega
        rcases (show c = 0 ∨ c = 1 by omega) with hc0 | hc0
        · have hc1 : (((c : Nat) : Int) == 1) = false := by rw [hc0]; rfl
          have hcv : Hid ((0 : Int) = ((c' : Nat) : Int)) := Lib.hid (HCV0.out (by omega) (by omega))
          clear hcmp hc0
          go_quiet (fail)
          go_wp2_with fail
          exact ⟨FbRel.step hk4 hcl Hz.out oz zl p1 p2 p3 p4 pb rfl hcv.out Hq1.out, by simp [intOf]; omega⟩
        · have hc1 : (((c : Nat) : Int) == 1) = true := by rw [hc0]; rfl
          have hcv : Hid ((1 : Int) = ((c' : Nat) : Int)) := Lib.hid (HCV1.out (Or.inr ⟨hcmp, hc0⟩))
          clear hcmp hc0
          go_quiet (fail)
          go_wp2_with fail
          exact ⟨FbRel.step hk4 hcl Hz.out oz zl p1 p2 p3 p4 pb rfl hcv.out Hq1.out, by simp [intOf]; omega⟩
      · have hlt1 : decide (((x : Nat) : Int) < ((y : Nat) : Int)) = false := by simp; omega
        have hlt2 : decide (x < y) = false := by simp; omega
        have heq1 : (((x : Nat) : Int) == ((y : Nat) : Int)) = false := by simp; omega
        have heq2 : decide (x = y) = false := by simp; omega
        have hcv : Hid ((0 : Int) = ((c' : Nat) : Int)) := Lib.hid (HCV0.out (by omega) (by omega))
        clear hcmp
        go_quiet (fail)
        go_wp2_with fail
        exact ⟨FbRel.step hk4 hcl Hz.out oz zl p1 p2 p3 p4 pb rfl hcv.out Hq1.out, by simp [intOf]; omega⟩
    · obtain rfl : k = 4 := by omega
      have hvx := val_lt ox
      rw [Hx.out] at hvx
      have hvy := val_lt oy
      rw [Hy.out] at hvy
      have hvz := val_lt oz
      rw [hz] at hvz
      have hv := Hq.out
      have hlt := Hlt.out
      unfold QSub at hv
      rw [val_take_all _ (by omega), val_take_all _ (by have := Hx.out; have := Hy.out; omega), val_take_all _ (by have := Hx.out; have := Hy.out; omega)] at hv
      have hval : zs = fl (val xs - val ys) := fl_of hz oz (by
        rcases (show c = 0 ∨ c = 1 by omega) with rfl | rfl <;> omega)
      have Hval := Lib.hid hval
      clear hvx hvy hvz hv hval hz hlt
      go_wp2_with (first | refine own_load o4 rfl 35 (.tmp 5) rfl rfl 4 33 Hz.out (by kernel_rfl) (by kernel_rfl) ?_ | refine wpList_store_row rfl 35 (.tmp 4) (.tmp 44) rfl (w.heap.size + 1 + 1) (lim .u64 zs) rfl rfl 35 _ o3 (by rw [lim_size, Hz.out]; kernel_rfl) (by rw [lim_size, lim_size, Hz.out]; rfl) (lim_one _ _) ?_)
      have q2' : Own (wr.setRow (w.heap.size + 1 + 1) (lim .u64 zs)) (w.heap.size + 1 + 1) 35 .u64 zs := setRow_heap _ _ _ _ _ _ o3
      exact bodyPost_ret (results_cell_row rfl _ _ (w.heap.size + 1 + 1) 35 (lim .u64 zs) (0, 0) (.array 4 33) rfl q2' (by kernel_rfl) rfl (by rw [lim_size, Hz.out]; kernel_rfl)) rfl ⟨by rw [Hval.out], below_setRow hb (by omega) _⟩

set_option maxHeartbeats 2000000 in
/-- chirographref03.plus -/
theorem rplus_any (xs ys : List Nat) (w : World) (hx : xs.length = 4) (hy : ys.length = 4) (ox : Ok xs) (oy : Ok ys) (hlt : val xs + val ys < pw 4) :
    Calls Try.prog 44 #[.agg (lim .u64 xs), .agg (lim .u64 ys)] w (FrPost (val xs + val ys) w) := by
  have hal1 : Try.prog.arrayLen 35 = 4 := by kernel_rfl
  have Hx := Lib.hid hx
  have Hy := Lib.hid hy
  have Hlt := Lib.hid hlt
  clear hx hy hlt
  obtain ⟨W, hW⟩ : ∃ W, (((w.alloc (.cells (lim .u64 xs) 35)).alloc (.cells (lim .u64 ys) 35)).alloc (.cells (lim .u64 [0, 0, 0, 0]) 35)).alloc (.cells (lim .u64 [0, 0, 0, 0]) 35) = W := ⟨_, rfl⟩
  have o1 : Own W w.heap.size 35 .u64 xs := by rw [← hW]; exact (((Own.new w _ _ _).alloc _).alloc _).alloc _
  have o2 : Own W (w.heap.size + 1) 35 .u64 ys := by rw [← hW]; exact ((own_new1 w _ _ _ _).alloc _).alloc _
  have o3 : Own W (w.heap.size + 1 + 1) 35 .u64 [0, 0, 0, 0] := by rw [← hW]; exact (own_new2 w _ _ _ _ _).alloc _
  have o4 : Own W (w.heap.size + 1 + 1 + 1) 35 .u64 [0, 0, 0, 0] := by
    rw [← hW]
    have := Own.new (((w.alloc (.cells (lim .u64 xs) 35)).alloc (.cells (lim .u64 ys) 35)).alloc (.cells (lim .u64 [0, 0, 0, 0]) 35)) 35 .u64 [0, 0, 0, 0]
    rwa [World.size_alloc, World.size_alloc, World.size_alloc] at this
  have b0 : Below w.heap.size w W := by rw [← hW]; exact ((((Below.refl w.heap.size w).alloc (Nat.le_refl _) _).alloc (by simp) _).alloc (by simp; omega) _).alloc (by simp; omega) _
  have start : FbRel (QAdd xs ys) xs ys w.heap.size w (.int .i64 0) (.int .u64 0) W :=
    ⟨0, 0, [0, 0, 0, 0], by decide, rfl, rfl, by decide, rfl, Ok.replicate 4, o1, o2, o3, o4, b0, by unfold QAdd; simp [val]⟩
  clear o1 o2 o3 o4 b0
  go_enter Try.func44, Try.ntmps44
  go_wp2_with (first | refine wpList_build_to rfl 35 _ rfl (lim .u64 [0, 0, 0, 0]) (by kernel_rfl) ?_ | refine wpList_store_newG rfl 35 (.tmp 5) (.tmp 8) rfl .u64 [0, 0, 0, 0] (w.heap.size + 1 + 1 + 1) rfl (by simp) rfl 35 _ (by kernel_rfl) rfl ?_)
  rw [show (((w.alloc (.cells (lim .u64 xs) 35)).alloc (.cells (lim .u64 ys) 35)).alloc (.cells #[.int .u64 0, .int .u64 0, .int .u64 0, .int .u64 0] 35)).alloc (.cells (lim .u64 [0, 0, 0, 0]) 35) = W from hW]
  clear hW
  go_loopw [7, 6] (FbRel (QAdd xs ys) xs ys w.heap.size w) (fun i _ _ => 4 - (intOf i).toNat)
  case atStart => exact start
  case round =>
    clear start
    obtain ⟨k, c, zs, hk, rfl, rfl, hc, hz, oz, o1, o2, o3, o4, hb, hq⟩ := hrel
    have Hq := Lib.hid hq
    have Hz := Lib.hid hz
    clear hq
    by_cases hk4 : k < 4
    · have hk4' : (k : Int) < 4 := by omega
      have hc1 := o1.cell (i := k) (by have := Hx.out; omega)
      have hc2 := o2.cell (i := k) (by have := Hy.out; omega)
      have hc4 := o4.cell (i := k) (by omega)
      have hf4 := o4.frozen k
      have bx := ox.getD k
      have bY := oy.getD k
      generalize hxk : nth xs k = x at *
      generalize hyk : nth ys k = y at *
      have hw := plus_wrap (x := x) (y := y) (c := c)
      have zl := addLo_lt x y c
      have Hq1 : Hid (QAdd xs ys (k + 1) (val (zs.take k) + pw k * addLo x y c) (addHi x y c)) := Lib.hid (by
        unfold QAdd
        rw [val_take_succ ys, val_take_succ xs, pw_succ, hxk, hyk]
        exact add_step _ _ _ _ _ _ _ Hq.out)
      have hcl := addHi_le bx bY hc
      have HCV1 : Hid (addLo x y c < x ∨ addLo x y c = x ∧ c = 1 → (1 : Int) = ((addHi x y c : Nat) : Int)) := Lib.hid (fun h => by unfold addLo at h; unfold addHi; omega)
      have HCV0 : Hid (¬ addLo x y c < x → ¬ (addLo x y c = x ∧ c = 1) → (0 : Int) = ((addHi x y c : Nat) : Int)) := Lib.hid (fun h h' => by unfold addLo at h h'; unfold addHi; omega)
      generalize addLo x y c = z at *
      generalize addHi x y c = c' at *
      clear hz
      go_wp2_with fail
      go_region
      go_wp2_with fail
      have p1 := o1.drew.far (p := ⟨w.heap.size + 1 + 1 + 1, k, none⟩) (by intro h; simp at h; try omega) (.int .u64 (z : Nat))
      have p2 := o2.drew.far (p := ⟨w.heap.size + 1 + 1 + 1, k, none⟩) (by intro h; simp at h; try omega) (.int .u64 (z : Nat))
      have p3 := o3.drew.far (p := ⟨w.heap.size + 1 + 1 + 1, k, none⟩) (by intro h; simp at h; try omega) (.int .u64 (z : Nat))
      have p4 := o4.drew.set k z
      have pb := hb.drew.setCell (p := ⟨w.heap.size + 1 + 1 + 1, k, none⟩) (by show w.heap.size ≤ w.heap.size + 1 + 1 + 1; omega) (.int .u64 (z : Nat))
      have hd1 := p1.cell (i := k) (by have := Hx.out; omega)
      have hd2 := p2.cell (i := k) (by have := Hy.out; omega)
      have hd4 := p4.cell (i := k) (by rw [List.length_set]; have := Hz.out; omega)
      rw [hxk] at hd1
      rw [hyk] at hd2
      rw [nth_set (by have := Hz.out; omega), if_pos rfl] at hd4
      clear hc1 hc2 hc4 hf4 o1 o2 o3 o4 hb hxk hyk
      change Code.wp _ _ _ _ ((World.drew wr).setCell _ _)
      generalize (World.drew wr).setCell ⟨w.heap.size + 1 + 1 + 1, k, none⟩ (.int .u64 (z : Nat)) = w6 at *
      rcases Nat.lt_trichotomy z x with hcmp | hcmp | hcmp
      · have hlt1 : decide (((z : Nat) : Int) < ((x : Nat) : Int)) = true := by simp; omega
        have hlt2 : decide (z < x) = true := by simp; omega
        have hcv : Hid ((1 : Int) = ((c' : Nat) : Int)) := Lib.hid (HCV1.out (Or.inl hcmp))
        clear hcmp
        go_quiet (fail)
        go_wp2_with fail
        exact ⟨FbRel.step hk4 hcl Hz.out oz zl p1 p2 p3 p4 pb rfl hcv.out Hq1.out, by simp [intOf]; omega⟩
      · have hlt1 : decide (((z : Nat) : Int) < ((x : Nat) : Int)) = false := by simp; omega
        have hlt2 : decide (z < x) = false := by simp; omega
        have heq1 : (((z : Nat) : Int) == ((x : Nat) : Int)) = true := by simp; omega
        have heq2 : decide (z = x) = true := by simp; omega
        rcases (show c = 0 ∨ c = 1 by omega) with hc0 | hc0
        · have hc1 : (((c : Nat) : Int) == 1) = false := by rw [hc0]; rfl
          have hcv : Hid ((0 : Int) = ((c' : Nat) : Int)) := Lib.hid (HCV0.out (by omega) (by omega))
          clear hcmp hc0
          go_quiet (fail)
          go_wp2_with fail
          exact ⟨FbRel.step hk4 hcl Hz.out oz zl p1 p2 p3 p4 pb rfl hcv.out Hq1.out, by simp [intOf]; omega⟩
        · have hc1 : (((c : Nat) : Int) == 1) = true := by rw [hc0]; rfl
          have hcv : Hid ((1 : Int) = ((c' : Nat) : Int)) := Lib.hid (HCV1.out (Or.inr ⟨hcmp, hc0⟩))
          clear hcmp hc0
          go_quiet (fail)
          go_wp2_with fail
          exact ⟨FbRel.step hk4 hcl Hz.out oz zl p1 p2 p3 p4 pb rfl hcv.out Hq1.out, by simp [intOf]; omega⟩
      · have hlt1 : decide (((z : Nat) : Int) < ((x : Nat) : Int)) = false := by simp; omega
        have hlt2 : decide (z < x) = false := by simp; omega
        have heq1 : (((z : Nat) : Int) == ((x : Nat) : Int)) = false := by simp; omega
        have heq2 : decide (z = x) = false := by simp; omega
        have hcv : Hid ((0 : Int) = ((c' : Nat) : Int)) := Lib.hid (HCV0.out (by omega) (by omega))
        clear hcmp
        go_quiet (fail)
        go_wp2_with fail
        exact ⟨FbRel.step hk4 hcl Hz.out oz zl p1 p2 p3 p4 pb rfl hcv.out Hq1.out, by simp [intOf]; omega⟩
    · obtain rfl : k = 4 := by omega
      have hvx := val_lt ox
      rw [Hx.out] at hvx
      have hvy := val_lt oy
      rw [Hy.out] at hvy
      have hvz := val_lt oz
      rw [hz] at hvz
      have hv := Hq.out
      have hlt := Hlt.out
      unfold QAdd at hv
      rw [val_take_all _ (by omega), val_take_all _ (by have := Hx.out; have := Hy.out; omega), val_take_all _ (by have := Hx.out; have := Hy.out; omega)] at hv
      have hval : zs = fl (val xs + val ys) := fl_of hz oz (by
        rcases (show c = 0 ∨ c = 1 by omega) with rfl | rfl <;> omega)
      have Hval := Lib.hid hval
      clear hvx hvy hvz hv hval hz hlt
      go_wp2_with (first | refine own_load o4 rfl 35 (.tmp 5) rfl rfl 4 33 Hz.out (by kernel_rfl) (by kernel_rfl) ?_ | refine wpList_store_row rfl 35 (.tmp 4) (.tmp 44) rfl (w.heap.size + 1 + 1) (lim .u64 zs) rfl rfl 35 _ o3 (by rw [lim_size, Hz.out]; kernel_rfl) (by rw [lim_size, lim_size, Hz.out]; rfl) (lim_one _ _) ?_)
      have q2' : Own (wr.setRow (w.heap.size + 1 + 1) (lim .u64 zs)) (w.heap.size + 1 + 1) 35 .u64 zs := setRow_heap _ _ _ _ _ _ o3
      exact bodyPost_ret (results_cell_row rfl _ _ (w.heap.size + 1 + 1) 35 (lim .u64 zs) (0, 0) (.array 4 33) rfl q2' (by kernel_rfl) rfl (by rw [lim_size, Hz.out]; kernel_rfl)) rfl ⟨by rw [Hval.out], below_setRow hb (by omega) _⟩
end Go.Proofs.Ytoocoobgidoceaa
