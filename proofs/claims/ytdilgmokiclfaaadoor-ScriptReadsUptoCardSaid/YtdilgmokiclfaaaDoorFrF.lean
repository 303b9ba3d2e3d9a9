import Derived.Test.YtdilgmokiclfaaaDoorFrE
import Derived.Test.YtdilgmokiclfaaaDoorNatAll
import Derived.BigQuiet
namespace Go.Proofs.YtdilgmokiclfaaaDoor
open Go.RowKit
set_option linter.unusedVariables false
set_option maxRecDepth 100000

theorem wpList_store_newG {P : Program} {ops : Array Oper} {rest : List Oper} {o : Oper} {a : Act} {w : World} {Q : Exit → Act → World → Prop} (hgd : o.guard = none) (ty : TypeId) (x y : Operand) (ho : o.op = .store ty x y)
    (k : IntKind) (zs : List Nat) (g : Nat) (hx : a.eval x = .pointer (some ⟨g, 0, none⟩)) (hg : g = w.heap.size) (hy : a.eval y = .agg (lim k zs))
    (t : TypeId) (old : Array Value) (hi : (P.info? ty).map (·.size) = some zs.length)
    (hold : old.size = zs.length) (h : wpList P ops Q rest (a.put o.dst undef) (w.alloc (.cells (lim k zs) t))) : wpList P ops Q (o :: rest) a (w.alloc (.cells old t)) := by
  subst hg
  exact wpList_store_new hgd ty x y ho k zs hx hy t old hi hold h

set_option maxHeartbeats 400000 in
/-- chirographref03.R -/
theorem rR_any (w : World) :
    Calls Tryd.prog 63 #[] w fun e w' => e = .returned (.agg (lim .u64 rL)) ∧ Below w.heap.size w w' := by
  go_enter Tryd.func63, Tryd.ntmps63
  have o1 := Own.new w 24 .u64 rL
  go_wp2_with (first | refine wpList_build_to rfl 24 _ rfl (lim .u64 rL) (by kernel_rfl) ?_ | refine wpList_store_new rfl 24 (.tmp 0) (.tmp 1) rfl .u64 rL rfl rfl 24 _ (by kernel_rfl) rfl ?_)
  exact bodyPost_ret (results_cell_row rfl _ _ w.heap.size 24 (lim .u64 rL) (0, 0) (.array 4 22) rfl o1 (by kernel_rfl) rfl (by kernel_rfl)) rfl ⟨rfl, (Below.refl _ _).alloc (Nat.le_refl _) _⟩

def FlRel (xs ys : List Nat) (s : Nat) (w : World) (i : Value) (wr : World) : Prop :=
  ∃ k : Nat, k ≤ 4 ∧ i = .int .i64 ((k : Int) - 1) ∧ val xs / pw k = val ys / pw k ∧ Own wr s 24 .u64 xs ∧ Own wr (s + 1) 24 .u64 ys ∧ Below s w wr
set_option maxHeartbeats 1000000 in
/-- chirographref03.Less -/
theorem rless_any (xs ys : List Nat) (w : World) (hx : xs.length = 4) (hy : ys.length = 4) (ox : Ok xs) (oy : Ok ys) :
    Calls Tryd.prog 62 #[.agg (lim .u64 xs), .agg (lim .u64 ys)] w fun e w' => e = .returned (.bool (ltB (val xs) (val ys))) ∧ Below w.heap.size w w' := by
  have hal1 : Tryd.prog.arrayLen 24 = 4 := by kernel_rfl
  have o1 := (Own.new w 24 .u64 xs).alloc (.cells (lim .u64 ys) 24)
  have o2 := own_new1 w (.cells (lim .u64 xs) 24) 24 .u64 ys
  have b0 := ((Below.refl w.heap.size w).alloc (Nat.le_refl _) (.cells (lim .u64 xs) 24)).alloc (by simp) (.cells (lim .u64 ys) 24)
  have Hx := Lib.hid hx
  have Hy := Lib.hid hy
  have start : FlRel xs ys w.heap.size w (.int .i64 3) ((w.alloc (.cells (lim .u64 xs) 24)).alloc (.cells (lim .u64 ys) 24)) :=
    ⟨4, by decide, rfl, by rw [val_top ox (by omega), val_top oy (by omega)], o1, o2, b0⟩
  clear o1 o2 b0 hx hy
  go_enter Tryd.func62, Tryd.ntmps62
  go_wp2_with fail
  go_loopw [5] (FlRel xs ys w.heap.size w) (fun i _ => (intOf i + 1).toNat)
  case atStart => exact start
  case round =>
    clear start
    obtain ⟨k, hk, hi, he, o1, o2, hb⟩ := hrel
    have He := Lib.hid he
    clear he
    rcases k with _ | j
    · subst hi
      go_wp2
      go_ret
      exact ⟨ret_bool (ltB_no (by have := He.out; rw [pw_zero, Nat.div_one, Nat.div_one] at this; omega)).symm, hb⟩
    · obtain rfl : _ = Value.int .i64 (j : Int) := hi.trans (int_eq (by omega))
      clear hi
      have hc1 := o1.cell (i := j) (by have := Hx.out; omega)
      have hc2 := o2.cell (i := j) (by have := Hy.out; omega)
      have hj1 : (j : Int) < 4 := by omega
      have hj0 : (0 : Int) ≤ (j : Int) := by omega
      rcases Nat.lt_trichotomy (nth xs j) (nth ys j) with h | h | h
      · have hne : (((nth xs j : Nat) : Int) != ((nth ys j : Nat) : Int)) = true := by simp; omega
        have hgt : decide (((nth xs j : Nat) : Int) < ((nth ys j : Nat) : Int)) = true := by simp; omega
        go_wp2_with fail
        go_quiet (fail)
        go_wp2_with fail
        go_quiet (fail)
        go_wp2_with fail
        go_ret
        exact ⟨ret_bool (ltB_yes (val_lt_of ox oy He.out h)).symm, below_drewN (below_drewN hb _) _⟩
      · have hne : (((nth xs j : Nat) : Int) != ((nth ys j : Nat) : Int)) = false := by rw [h]; simp
        have H := Lib.hid h
        clear h
        go_wp2_with fail
        go_quiet (fail)
        go_wp2_with fail
        exact ⟨⟨j, by omega, rfl, val_eq_of ox oy He.out H.out, o1.drewN _, o2.drewN _, below_drewN hb _⟩, by simp [intOf]⟩
      · have hne : (((nth xs j : Nat) : Int) != ((nth ys j : Nat) : Int)) = true := by simp; omega
        have hgt : decide (((nth xs j : Nat) : Int) < ((nth ys j : Nat) : Int)) = false := by simp; omega
        go_wp2_with fail
        go_quiet (fail)
        go_wp2_with fail
        go_quiet (fail)
        go_wp2_with fail
        go_ret
        exact ⟨ret_bool ((decide_eq_false (by omega)).trans (ltB_no (Nat.le_of_lt (val_lt_of oy ox He.out.symm h))).symm), below_drewN (below_drewN hb _) _⟩

def FbRel (Q : Nat → Nat → Nat → Prop) (xs ys : List Nat) (s : Nat) (w : World) (i cy : Value) (wr : World) : Prop :=
  ∃ (k c : Nat) (zs : List Nat), k ≤ 4 ∧ i = .int .i64 (k : Int) ∧ cy = .int .u64 (c : Int) ∧ c ≤ 1 ∧ zs.length = 4 ∧ Ok zs ∧ Own wr s 24 .u64 xs ∧ Own wr (s + 1) 24 .u64 ys ∧ Own wr (s + 1 + 1) 24 .u64 [0, 0, 0, 0] ∧ Own wr (s + 1 + 1 + 1) 24 .u64 zs ∧ Below s w wr ∧ Q k (val (zs.take k)) c
def QSub (xs ys : List Nat) (k V c : Nat) : Prop := V + val (ys.take k) = val (xs.take k) + pw k * c
def QAdd (xs ys : List Nat) (k V c : Nat) : Prop := V + pw k * c = val (xs.take k) + val (ys.take k)
theorem FbRel.step {Q : Nat → Nat → Nat → Prop} {xs ys zs : List Nat} {s k c' z n : Nat} {w wr : World} {iv cv : Int} (hk : k < 4) (hc : c' ≤ 1) (hz : zs.length = 4) (oz : Ok zs) (hzl : z < 18446744073709551616) (o1 : Own wr s 24 .u64 xs) (o2 : Own wr (s + 1) 24 .u64 ys) (o3 : Own wr (s + 1 + 1) 24 .u64 [0, 0, 0, 0])
    (o4 : Own wr (s + 1 + 1 + 1) 24 .u64 (zs.set k z)) (hb : Below s w wr) (hi : iv = (k : Int) + 1) (hcv : cv = (c' : Int)) (h : Q (k + 1) (val (zs.take k) + pw k * z) c') : FbRel Q xs ys s w (.int .i64 iv) (.int .u64 cv) (wr.drewN n) := by
  subst hi hcv
  refine ⟨k + 1, c', zs.set k z, by omega, rfl, rfl, hc, by simpa using hz, oz.set hzl k, o1.drewN n, o2.drewN n, o3.drewN n, o4.drewN n, below_drewN hb n, ?_⟩
  rw [val_set_take (by omega)]
  exact h
theorem minus_wrap {x y c : Nat} (hx : x < 18446744073709551616) (hy : y < 18446744073709551616) (hc : c ≤ 1) : IntKind.u64.wrap (IntKind.u64.wrap ((x : Int) - (y : Int)) - (c : Int)) = (subLo x y c : Nat) := by
  rw [IntKind.wrap_u64, IntKind.wrap_u64]
  unfold subLo
  omega
theorem plus_wrap {x y c : Nat} : IntKind.u64.wrap (IntKind.u64.wrap ((x : Int) + (y : Int)) + (c : Int)) = (addLo x y c : Nat) := by
  rw [IntKind.wrap_u64, IntKind.wrap_u64]
  unfold addLo
  omega

end Go.Proofs.YtdilgmokiclfaaaDoor
