import Derived.Test.YtboaahjpjemfpaaProg
import Derived.Test.YtboaahjpjemfpaaMem
import Derived.Test.YtboaahjpjemfpaaSpMath
import Derived.StillTailTactics
import Derived.Deep.WholeRow
import Derived.Laws.BitsAllLaws
import Derived.Laws.Tables
import Derived.Laws.CopyOwn
namespace Go.Proofs.Ytboaahjpjemfpaa
open Go.RowKit
set_option linter.unusedVariables false

section
variable {P : Program}
theorem lim_one (k : IntKind) (zs : List Nat) : (lim k zs).all (·.oneCell') = true := by
  rw [Array.all_eq_true_iff_forall_mem]
  intro v hv
  simp only [lim, List.mem_toArray, List.mem_map] at hv
  obtain ⟨x, _, rfl⟩ := hv
  rfl
/-- A literal of numbers, built. -/
theorem wpList_build_to {ops : Array Oper} {rest : List Oper} {o : Oper} {a : Act} {w : World} {Q : Exit → Act → World → Prop} (hg : o.guard = none) (t : TypeId) (parts : Array (Nat × Operand)) (ho : o.op = .build t parts) (cells : Array Value)
    (hf : P.built t (parts.map fun (i, x) => (i, a.eval x)).toList = some cells)
    (h : wpList P ops Q rest (a.put o.dst (.agg cells)) w) : wpList P ops Q (o :: rest) a w :=
  wpList_build hg t parts ho (by rw [hf]; rfl) (by rw [hf]; exact h)
/-- A whole row of numbers laid into the block made last. -/
theorem wpList_store_new {ops : Array Oper} {rest : List Oper} {o : Oper} {a : Act} {w : World} {Q : Exit → Act → World → Prop} (hgd : o.guard = none) (ty : TypeId) (x y : Operand) (ho : o.op = .store ty x y)
    (k : IntKind) (zs : List Nat) (hx : a.eval x = .pointer (some ⟨w.heap.size, 0, none⟩)) (hy : a.eval y = .agg (lim k zs))
    (t : TypeId) (old : Array Value) (hi : (P.info? ty).map (·.size) = some zs.length)
    (hold : old.size = zs.length) (h : wpList P ops Q rest (a.put o.dst undef) (w.alloc (.cells (lim k zs) t))) : wpList P ops Q (o :: rest) a (w.alloc (.cells old t)) :=
  wpList_store_row hgd ty x y ho w.heap.size (lim k zs) hx hy t old (heap_alloc_new w _) (by rw [lim_size]; exact hi) (by rw [lim_size]; exact hold) (lim_one k zs) (by rw [World.setRow_alloc_new]; exact h)
end

set_option maxHeartbeats 400000 in
/-- math/bits.RotateLeft64 -/
theorem rot_any (x n : Nat) (w : World) (hx : x < 18446744073709551616) (hn : n < 64) :
    Calls Try.prog 18 #[.int .u64 (x : Int), .int .i64 (n : Int)] w fun e w' => e = .returned (.int .u64 (rotl x n : Nat)) ∧ w' = w := by
  have hb : bits .and .u64 (n : Int) 63 = (n : Int) := by
    rw [show (63 : Int) = ((63 : Nat) : Int) from rfl, u64_and_nat n 63 (by omega) (by decide), nat_mask6, Nat.mod_eq_of_lt hn]
  have h1 : (n : Int) ≤ 64 := by omega
  have hs : IntKind.u64.wrap (64 - (n : Int)) = ((64 - n : Nat) : Int) := by rw [IntKind.wrap_u64]; omega
  have h2 : ((64 - n : Nat) : Int) ≤ 64 := by omega
  have h0 : (0 : Int) ≤ ((64 - n : Nat) : Int) := by omega
  go_enter Try.func18, Try.ntmps18
  go_wp2
  go_ret
  refine ⟨congrArg Ending.returned (congrArg (Value.int .u64) ?_), rfl⟩
  have e1 : IntKind.u64.wrap ((x : Int) * 2 ^ n) = ((x * 2 ^ n % 18446744073709551616 : Nat) : Int) := by
    rw [IntKind.wrap_u64, show ((2 : Int) ^ n) = ((2 ^ n : Nat) : Int) by simp, ← Int.natCast_mul]; rfl
  have e2 : (x : Int) / 2 ^ (64 - n) = ((x / 2 ^ (64 - n) : Nat) : Int) := by
    rw [show ((2 : Int) ^ (64 - n)) = ((2 ^ (64 - n) : Nat) : Int) by simp]; rfl
  rw [e1, e2, u64_or_nat _ _ (Nat.mod_lt _ (by decide)) (Nat.lt_of_le_of_lt (Nat.div_le_self _ _) hx), rotl_shift (by omega) hx]

set_option maxHeartbeats 400000 in
/-- sponge.turn -/
theorem turn_any (i : Nat) (w : World) (hi : i < 25) :
    Calls Try.prog 19 #[.int .i64 (i : Int)] w fun e w' => e = .returned (.int .i64 (trn i : Nat)) ∧ Below w.heap.size w w' := by
  have hal : Try.prog.arrayLen 41 = 25 := by kernel_rfl
  go_enter Try.func19, Try.ntmps19
  have hc := (Own.new w 41 .i64 trl).cell (i := i) hi
  have hf := (Own.new w 41 .i64 trl).frozen i
  go_wp2_with (first | refine wpList_build_to rfl 41 _ rfl (lim .i64 trl) (by kernel_rfl) ?_ | refine wpList_store_new rfl 41 (.tmp 3) (.tmp 4) rfl .i64 trl rfl rfl 41 _ (by kernel_rfl) rfl ?_)
  go_ret
  exact ⟨rfl, (Below.refl _ _).alloc (Nat.le_refl _) _⟩

set_option maxHeartbeats 400000 in
/-- sponge.constant -/
theorem constant_any (i : Nat) (w : World) (hi : i < 24) :
    Calls Try.prog 14 #[.int .i64 (i : Int)] w fun e w' => e = .returned (.int .u64 (nth rcs i : Nat)) ∧ Below w.heap.size w w' := by
  have hal : Try.prog.arrayLen 39 = 24 := by kernel_rfl
  go_enter Try.func14, Try.ntmps14
  have hc := (Own.new w 39 .u64 rcs).cell (i := i) hi
  have hf := (Own.new w 39 .u64 rcs).frozen i
  go_wp2_with (first | refine wpList_build_to rfl 39 _ rfl (lim .u64 rcs) (by kernel_rfl) ?_ | refine wpList_store_new rfl 39 (.tmp 3) (.tmp 4) rfl .u64 rcs rfl rfl 39 _ (by kernel_rfl) rfl ?_)
  go_ret
  exact ⟨rfl, (Below.refl _ _).alloc (Nat.le_refl _) _⟩

theorem own_load {P : Program} {ops : Array Oper} {rest : List Oper} {o : Oper} {a : Act} {w : World} {Q : Exit → Act → World → Prop} {g : Nat} {T : TypeId} {k : IntKind} {zs : List Nat} (own : Own w g T k zs)
    (hgd : o.guard = none) (ty : TypeId) (x : Operand) (ho : o.op = .load ty x) (hx : a.eval x = .pointer (some ⟨g, 0, none⟩)) (n : Nat) (e : TypeId) (hn : zs.length = n)
    (hu : P.underlying ty = some (.array n e)) (hi : (P.info? ty).map (·.size) = some n)
    (h : wpList P ops Q rest (a.put o.dst (.agg (lim k zs))) w) : wpList P ops Q (o :: rest) a w :=
  wpList_load_row hgd ty x ho g hx T (lim k zs) (0, 0) _ own hu rfl (by rw [lim_size, hn]; exact hi) h

theorem own_new1 (w : World) (A : Obj) (T : TypeId) (k : IntKind) (zs : List Nat) : Own ((w.alloc A).alloc (.cells (lim k zs) T)) (w.heap.size + 1) T k zs := by
  have := Own.new (w.alloc A) T k zs
  rwa [World.size_alloc] at this
theorem own_new2 (w : World) (A B : Obj) (T : TypeId) (k : IntKind) (zs : List Nat) : Own (((w.alloc A).alloc B).alloc (.cells (lim k zs) T)) (w.heap.size + 2) T k zs := by
  have := Own.new ((w.alloc A).alloc B) T k zs
  rwa [World.size_alloc, World.size_alloc] at this
theorem run_index_lim (zs : List Nat) (j : Nat) (w : World) (h : zs.length = 25) (hj : j < 25) :
    (Instr.index 23 (.agg (lim .u64 zs)) (.int .i64 (j : Int))).run Try.prog w = .ok (.int .u64 (nth zs j : Nat)) w := by
  have hu : Try.prog.underlying 23 = some (.array 25 22) := by kernel_rfl
  have hix := lim_get (k := .u64) (zs := zs) (i := j) (by omega)
  have hj' : (j : Int) < 25 := by omega
  simp [Instr.index, run_underlying hu, asIntOf, hix, go_sem]
  intro h; omega

structure ColEq (zs cc : List Nat) : Prop where
  eq : colN zs 25 = cc
structure MovEq (zs cc mm : List Nat) : Prop where
  eq : movN zs cc 25 = mm
structure RndEq (zs : List Nat) (c : Nat) (rr : List Nat) : Prop where
  eq : roundS zs c = rr
def ColRel (zs : List Nat) (s : Nat) (w : World) (i : Value) (wr : World) : Prop :=
  ∃ j : Nat, j ≤ 25 ∧ i = .int .i64 (j : Int) ∧ Own wr s 23 .u64 zs ∧ Own wr (s + 1) 23 .u64 (List.replicate 25 0) ∧ Own wr (s + 2) 36 .u64 (colN zs j) ∧ Below s w wr ∧ wr.heap.size = s + 3
def MovRel (zs c : List Nat) (s : Nat) (w : World) (i : Value) (wr : World) : Prop :=
  ∃ j : Nat, j ≤ 25 ∧ i = .int .i64 (j : Int) ∧ Own wr s 23 .u64 zs ∧ Own wr (s + 1) 23 .u64 (List.replicate 25 0) ∧ Own wr (s + 2) 36 .u64 c ∧ Own wr (s + 3) 23 .u64 (movN zs c j) ∧ Below s w wr
def ChiRel (zs m : List Nat) (s : Nat) (w : World) (i : Value) (wr : World) : Prop :=
  ∃ j : Nat, j ≤ 25 ∧ i = .int .i64 (j : Int) ∧ Own wr s 23 .u64 (chiN zs m j) ∧ Own wr (s + 1) 23 .u64 (List.replicate 25 0) ∧ Own wr (s + 3) 23 .u64 m ∧ Below s w wr

theorem ColRel.step {zs : List Nat} {s j : Nat} {w wr wr' : World} {v : Int} (hj : j < 25) (o1 : Own wr s 23 .u64 zs) (o2 : Own wr (s + 1) 23 .u64 (List.replicate 25 0)) (o3 : Own wr (s + 2) 36 .u64 (colN zs j)) (hb : Below s w wr) (hs : wr.heap.size = s + 3)
    (ew : wr.setCell ⟨s + 2, j % 5, none⟩ (.int .u64 v) = wr') (e1 : v = (nth (colN zs j) (j % 5) ^^^ nth zs j : Nat)) : ColRel zs s w (.int .i64 ((j + 1 : Nat) : Int)) wr' := by
  subst ew e1
  exact ⟨j + 1, by omega, rfl, o1.far (by simp) _, o2.far (by simp) _, o3.set _ _, hb.setCell (p := ⟨s + 2, j % 5, none⟩) (by show s ≤ s + 2; omega) _, by rw [World.size_setCell]; exact hs⟩

theorem MovRel.step {zs cc : List Nat} {s j d v : Nat} {w wr wr' : World} (hj : j < 25) (o1 : Own wr s 23 .u64 zs) (o2 : Own wr (s + 1) 23 .u64 (List.replicate 25 0)) (o3 : Own wr (s + 2) 36 .u64 cc) (o4 : Own wr (s + 3) 23 .u64 (movN zs cc j)) (hb : Below s w wr)
    (ew : wr.setCell ⟨s + 3, d, none⟩ (.int .u64 (v : Int)) = wr') (ed : d = dst j) (e1 : v = rotl (theta1 zs cc j) (trn j)) : MovRel zs cc s w (.int .i64 ((j + 1 : Nat) : Int)) wr' := by
  subst ew e1 ed
  exact ⟨j + 1, by omega, rfl, o1.far (by simp) _, o2.far (by simp) _, o3.far (by simp) _, o4.set _ _, hb.setCell (p := ⟨s + 3, dst j, none⟩) (by show s ≤ s + 3; omega) _⟩
theorem ChiRel.step {zs m : List Nat} {s j : Nat} {v : Int} {w wr wr' : World} (hj : j < 25) (o1 : Own wr s 23 .u64 (chiN zs m j)) (o2 : Own wr (s + 1) 23 .u64 (List.replicate 25 0)) (o3 : Own wr (s + 3) 23 .u64 m) (hb : Below s w wr)
    (ew : wr.setCell ⟨s, j, none⟩ (.int .u64 v) = wr') (e1 : v = (chi1 m j : Nat)) : ChiRel zs m s w (.int .i64 ((j + 1 : Nat) : Int)) wr' := by
  subst ew e1
  exact ⟨j + 1, by omega, rfl, o1.set _ _, o2.far (by simp) _, o3.far (by simp) _, hb.setCell (p := ⟨s, j, none⟩) (Nat.le_refl _) _⟩

set_option maxHeartbeats 1000000 in
/-- sponge.round -/
theorem round_any (zs : List Nat) (c : Nat) (w : World) (ha : zs.length = 25) (oa : Ok zs) (hc : c < 18446744073709551616) :
    Calls Try.prog 13 #[.agg (lim .u64 zs), .int .u64 (c : Int)] w fun e w' => e = .returned (.agg (lim .u64 (roundS zs c))) ∧ Below w.heap.size w w' := by
  have hal : Try.prog.arrayLen 23 = 25 := by kernel_rfl
  have hal5 : Try.prog.arrayLen 36 = 5 := by kernel_rfl
  go_enter Try.func13, Try.ntmps13
  go_wp2_with (refine own_load (((Own.new w 23 .u64 zs).alloc _).alloc _) rfl 23 (.tmp 2) rfl rfl 25 22 ha (by kernel_rfl) (by kernel_rfl) ?_)
  go_loopw [18] (ColRel zs w.heap.size w) (fun i _ => 25 - (intOf i).toNat)
  case atStart => exact ⟨0, by omega, rfl, ((Own.new w 23 .u64 zs).alloc _).alloc _, (own_new1 w _ 23 .u64 (List.replicate 25 0)).alloc _, own_new2 w _ _ 36 .u64 (List.replicate 5 0), (((Below.refl _ _).alloc (Nat.le_refl _) _).alloc (by simp) _).alloc (by simp; omega) _, by simp⟩
  case round =>
    obtain ⟨j, hj, rfl, o1, o2, o3, hb, hs⟩ := hrel
    by_cases hj25 : j < 25
    · have hc1 := o3.cell (i := j % 5) (by rw [colN_length]; omega)
      have hf1 := o3.frozen (j % 5)
      have hix := run_index_lim zs j wr ha hj25
      go_wp2_with fail
      refine ⟨ColRel.step hj25 o1 o2 o3 hb hs rfl (u64_xor_nat _ _ ((colN_ok oa j).getD _) (oa.getD _)), by simp [intOf]; omega⟩
    · obtain rfl : j = 25 := by omega
      clear hj hj25
      have occ := colN_ok oa 25
      have lcc := colN_length zs 25
      have hnew : Own (wr.alloc (.cells (lim .u64 (List.replicate 25 0)) 23)) (w.heap.size + 3) 23 .u64 (List.replicate 25 0) := by rw [← hs]; exact Own.new wr _ _ _
      have hMR : MovRel zs (colN zs 25) w.heap.size w (.int .i64 0) (wr.alloc (.cells (lim .u64 (List.replicate 25 0)) 23)) :=
        ⟨0, by omega, rfl, o1.alloc _, o2.alloc _, o3.alloc _, hnew, hb.alloc (by omega) _⟩
      have hsz : wr.heap.size = w.heap.size + 1 + 1 + 1 := hs
      have oa1 := o1.alloc (.cells (lim .u64 (List.replicate 25 0)) 23)
      clear hnew
      generalize hcc : colN zs 25 = cc at *
      have HCC := ColEq.mk hcc
      clear hcc
      go_wp2_with (refine own_load oa1 rfl 23 (.tmp 2) rfl rfl 25 22 ha (by kernel_rfl) (by kernel_rfl) ?_)
      clear oa1 o1 o2 o3 hb hs hsz
      go_loopw [31] (MovRel zs cc w.heap.size w) (fun i _ => 25 - (intOf i).toNat)
      case atStart => exact hMR
      case round =>
        clear hMR
        obtain ⟨j, hj, rfl, o1, o2, o3, o4, hb⟩ := hrel
        by_cases hj25 : j < 25
        · have hix := run_index_lim zs j wr ha hj25
          obtain ⟨x, hx⟩ : ∃ x, j % 5 = x := ⟨_, rfl⟩
          obtain ⟨y, hy⟩ : ∃ y, j / 5 = y := ⟨_, rfl⟩
          have hx' : (j : Int) % 5 = (x : Int) := by omega
          have hy' : (j : Int) / 5 = (y : Int) := by omega
          have hx5 : x < 5 := by omega
          have hy5 : y < 5 := by omega
          obtain ⟨p, hp⟩ : ∃ p, (x + 4) % 5 = p := ⟨_, rfl⟩
          obtain ⟨q, hq⟩ : ∃ q, (x + 1) % 5 = q := ⟨_, rfl⟩
          have hw4 : IntKind.i64.wrap ((x : Int) + 4) = ((x + 4 : Nat) : Int) := by rw [IntKind.wrap_i64]; omega
          have hw1 : IntKind.i64.wrap ((x : Int) + 1) = ((x + 1 : Nat) : Int) := by rw [IntKind.wrap_i64]; omega
          have hp' : (IntKind.i64.wrap ((x : Int) + 4)).tmod 5 = (p : Int) := by rw [hw4, ← hp]; rfl
          have hq' : (IntKind.i64.wrap ((x : Int) + 1)).tmod 5 = (q : Int) := by rw [hw1, ← hq]; rfl
          clear hw4 hw1
          have hp5 : (p : Int) < 5 := by omega
          have hq5 : (q : Int) < 5 := by omega
          have hc1 := o3.cell (i := p) (by omega)
          have hc2 := o3.cell (i := q) (by omega)
          have Hr := Lib.hid (fun k => rot_any (nth cc q) 1 (wr.drewN k) (occ.getD _) (by decide))
          have hth : bits .xor .u64 (nth zs j : Int) (bits .xor .u64 (nth cc p : Int) (rotl (nth cc q) 1 : Int)) = ((theta1 zs cc j : Nat) : Int) := by
            rw [u64_xor_nat _ _ (occ.getD _) (rotl_lt (occ.getD _) _), u64_xor_nat _ _ (oa.getD _) (xor_lt (occ.getD _) (rotl_lt (occ.getD _) _))]
            subst hp hq hx
            rfl
          have thl := theta1_lt oa occ j
          have ht64 : trn j < 64 := by unfold trn; exact trl_lt j
          go_wp2_with fail
          go_quiet ((go_at_call 18; exact Calls.quiet_of_same (Hr.out _)))
          go_wp2_with fail
          clear hc1 hc2
          refine (turn_any j _ hj25).mono ?_
          rintro e w1 ⟨rfl, b1⟩
          have o1' := (o1.drewN nq).bel b1
          have o2' := (o2.drewN nq).bel b1
          have o3' := (o3.drewN nq).bel b1
          have o4' := (o4.drewN nq).bel b1
          have hb1 := (below_drewN hb nq).trans (b1.mono (below_drewN hb nq).size)
          clear o1 o2 o3 o4 hb b1
          obtain ⟨r, hr⟩ : ∃ r, (2 * x + 3 * y) % 5 = r := ⟨_, rfl⟩
          have hr5 : r < 5 := by omega
          have hrr : (2 * (x : Int) + 3 * (y : Int)) % 5 = (r : Int) := by omega
          have hc4 := o4'.cell (i := y + 5 * r) (by rw [movN_length]; omega)
          have hf4 := o4'.frozen (y + 5 * r)
          go_wp2_with fail
          refine (rot_any _ _ w1 thl ht64).mono ?_
          rintro e w2 ⟨rfl, rfl⟩
          go_wp2_with fail
          exact ⟨MovRel.step hj25 o1' o2' o3' o4' hb1 rfl (by subst hx hy hr; rfl) rfl, by simp [intOf]; omega⟩
        · obtain rfl : j = 25 := by omega
          clear hj hj25
          have omm := movN_ok oa occ 25
          have lmm := movN_length zs cc 25
          have hCR : ChiRel zs (movN zs cc 25) w.heap.size w (.int .i64 0) wr := ⟨0, by omega, rfl, o1, o2, o4, hb⟩
          clear o1 o2 o3 hb
          generalize hmm : movN zs cc 25 = mm at *
          have HMM := MovEq.mk hmm
          clear hmm
          go_wp2_with (refine own_load o4 rfl 23 (.tmp 8) rfl rfl 25 22 lmm (by kernel_rfl) (by kernel_rfl) ?_)
          clear o4
          go_loopw [69] (ChiRel zs mm w.heap.size w) (fun i _ => 25 - (intOf i).toNat)
          case atStart => exact hCR
          case round =>
            clear hCR
            obtain ⟨j, hj, rfl, o1, o2, o3, hb⟩ := hrel
            by_cases hj25 : j < 25
            · have hix := run_index_lim mm j wr lmm hj25
              obtain ⟨x, hx⟩ : ∃ x, j % 5 = x := ⟨_, rfl⟩
              obtain ⟨r, hr⟩ : ∃ r, j - j % 5 = r := ⟨_, rfl⟩
              have hx' : (j : Int) % 5 = (x : Int) := by omega
              have hr' : (j : Int) - (x : Int) = (r : Int) := by omega
              have hx5 : x < 5 := by omega
              have hr5 : r ≤ 20 := by omega
              obtain ⟨p, hp⟩ : ∃ p, (x + 1) % 5 = p := ⟨_, rfl⟩
              obtain ⟨q, hq⟩ : ∃ q, (x + 2) % 5 = q := ⟨_, rfl⟩
              have hp' : ((x : Int) + 1) % 5 = (p : Int) := by omega
              have hq' : ((x : Int) + 2) % 5 = (q : Int) := by omega
              have hc1 := o3.cell (i := r + p) (by omega)
              have hc2 := o3.cell (i := r + q) (by omega)
              have hc3 := o1.cell (i := j) (by rw [chiN_length]; omega)
              have hf3 := o1.frozen j
              have hw1 : IntKind.i64.wrap ((x : Int) + 1) = ((x + 1 : Nat) : Int) := by rw [IntKind.wrap_i64]; omega
              have hw2 : IntKind.i64.wrap ((x : Int) + 2) = ((x + 2 : Nat) : Int) := by rw [IntKind.wrap_i64]; omega
              have hp2 : (IntKind.i64.wrap ((x : Int) + 1)).tmod 5 = (p : Int) := by rw [hw1, ← hp]; rfl
              have hq2 : (IntKind.i64.wrap ((x : Int) + 2)).tmod 5 = (q : Int) := by rw [hw2, ← hq]; rfl
              clear hw1 hw2
              obtain ⟨u, hu⟩ : ∃ u, r + p = u := ⟨_, rfl⟩
              obtain ⟨v, hv⟩ : ∃ v, r + q = v := ⟨_, rfl⟩
              have hu' : (r : Int) + (p : Int) = (u : Int) := by omega
              have hv' : (r : Int) + (q : Int) = (v : Int) := by omega
              have hu2 : IntKind.i64.wrap (u : Int) = (u : Int) := by rw [IntKind.wrap_i64]; omega
              have hv2 : IntKind.i64.wrap (v : Int) = (v : Int) := by rw [IntKind.wrap_i64]; omega
              have hu25 : (u : Int) < 25 := by omega
              have hv25 : (v : Int) < 25 := by omega
              have hj25' : (j : Int) < 25 := by omega
              rw [hu] at hc1
              rw [hv] at hc2
              go_wp2_with fail
              have HU := Lib.hid (show j - j % 5 + (j % 5 + 1) % 5 = u by subst hx hr hp hu; rfl)
              have HV := Lib.hid (show j - j % 5 + (j % 5 + 2) % 5 = v by subst hx hr hq hv; rfl)
              clear hp hq hu hv
              go_still_tail 20, (by kernel_rfl)
              change wpList _ _ _ _ _ wr.drew
              have o1d := o1.drew
              have o2d := o2.drew
              have o3d := o3.drew
              have hbd : Below w.heap.size w wr.drew := below_drewN hb 1
              have hc3d := o1d.cell (i := j) (by rw [chiN_length]; omega)
              have hf3d := o1d.frozen j
              clear o1 o2 o3 hb hc1 hc2 hc3 hf3
              generalize wr.drew = w2 at *
              go_wp2_with fail
              refine ⟨ChiRel.step hj25 o1d o2d o3d hbd rfl ?_, by simp [intOf]; omega⟩
              have e0 : (if IntKind.u64.signed = true then (-1 : Int) else IntKind.u64.max) = ((18446744073709551615 : Nat) : Int) := rfl
              rw [e0, u64_xor_nat _ _ (by decide) (omm.getD _), u64_and_nat _ _ (xor_lt (by decide) (omm.getD _)) (omm.getD _), u64_xor_nat _ _ (omm.getD _) (and_lt (omm.getD _))]
              unfold chi1
              rw [HU.out, HV.out]
            · obtain rfl : j = 25 := by omega
              have hc0 := o1.cell (i := 0) (by rw [chiN_length]; omega)
              have hf0 := o1.frozen 0
              have lch := chiN_length zs mm 25
              have och := chiN_ok oa omm 25
              have HR : RndEq zs c ((chiN zs mm 25).set 0 (nth (chiN zs mm 25) 0 ^^^ c)) := RndEq.mk (by unfold roundS; simp only [HCC.eq, HMM.eq])
              clear HCC HMM
              have e0 : bits .xor .u64 (nth (chiN zs mm 25) 0 : Int) (c : Int) = ((nth (chiN zs mm 25) 0 ^^^ c : Nat) : Int) := u64_xor_nat _ _ (och.getD _) hc
              have o1' := o1.set 0 (nth (chiN zs mm 25) 0 ^^^ c)
              have o2' := o2.far (p := ⟨w.heap.size, 0, none⟩) (by simp) (.int .u64 ((nth (chiN zs mm 25) 0 ^^^ c : Nat) : Int))
              have hb' := hb.setCell (p := ⟨w.heap.size, 0, none⟩) (Nat.le_refl _) (.int .u64 ((nth (chiN zs mm 25) 0 ^^^ c : Nat) : Int))
              clear o1 o2 o3 hb hj hj25 lmm omm
              generalize hx : nth (chiN zs mm 25) 0 ^^^ c = x0 at *
              have lr : ((chiN zs mm 25).set 0 x0).length = 25 := by rw [List.length_set, lch, ha]
              generalize hr : (chiN zs mm 25).set 0 x0 = rr at *
              rw [ha] at lch
              go_wp2_with (first | refine own_load o1' rfl 23 (.tmp 2) rfl rfl 25 22 lr (by kernel_rfl) (by kernel_rfl) ?_ | refine wpList_store_row rfl 23 (.tmp 4) (.tmp 105) rfl (w.heap.size + 1) (lim .u64 rr) rfl rfl 23 _ o2' (by rw [lim_size, lr]; kernel_rfl) (by rw [lim_size, lim_size, lr]; rfl) (lim_one _ _) ?_)
              have o3' : Own ((wr.setCell ⟨w.heap.size, 0, none⟩ (.int .u64 (x0 : Int))).setRow (w.heap.size + 1) (lim .u64 rr)) (w.heap.size + 1) 23 .u64 rr := setRow_heap _ _ _ _ _ _ o2'
              refine bodyPost_ret (results_cell_row rfl _ _ (w.heap.size + 1) 23 (lim .u64 rr) (0, 0) (.array 25 22) rfl o3' (by kernel_rfl) rfl (by rw [lim_size, lr]; kernel_rfl)) rfl ⟨by rw [HR.eq], below_setRow hb' (by omega) _⟩
end Go.Proofs.Ytboaahjpjemfpaa
