import Derived.Test.YtdilgmokiclfaaaDoorMontX
import Derived.Test.YtdilgmokiclfaaaDoorSpAll
import Derived.Deep.CutRange
import Derived.Deep.RegionWith
import Derived.DeepKeys
import Derived.Laws.StructEq
namespace Go.Proofs.YtdilgmokiclfaaaDoor
open Go.RowKit
set_option linter.unusedVariables false
set_option maxRecDepth 100000

def rL : List Nat := [18446744069414584321, 6034159408538082302, 3691218898639771653, 8353516859464449352]
def sqL : List Nat := [14526898881837571181, 3129137299524312099, 419701826671360399, 524908885293268753]
def oneL : List Nat := [1, 0, 0, 0]
def rN : Nat := 52435875175126190479447740508185965837690552500527637822603658699938581184513
theorem rL_val : val rL = rN := by decide +kernel
theorem rL_ok : Ok rL := by unfold Ok rL; decide +kernel
theorem rL_len : rL.length = 4 := rfl
theorem sqL_ok : Ok sqL := by unfold Ok sqL; decide +kernel
theorem oneL_ok : Ok oneL := by unfold Ok oneL; decide +kernel
theorem rN_odd : rN % 2 = 1 := by decide +kernel
theorem rN_two : 2 * rN < pw 4 := by decide +kernel
theorem rN_three : pw 4 < 3 * rN := by decide +kernel
theorem rN_pos : 0 < rN := by decide +kernel
theorem sqL_val : val sqL = pw 4 * pw 4 % rN := by decide +kernel
theorem oneL_val : val oneL = 1 := by decide +kernel
theorem rL_odd : nth rL 0 % 2 = 1 := by decide +kernel
theorem rL_neg : NegIs (nth rL 0) 18446744069414584319 := ⟨by decide +kernel, by decide +kernel, by decide +kernel⟩

/-- A number of 256 bits, as limbs. -/
def fl (v : Nat) : List Nat := [v % 18446744073709551616, v / pw 1 % 18446744073709551616, v / pw 2 % 18446744073709551616, v / pw 3 % 18446744073709551616]
theorem fl_len (v : Nat) : (fl v).length = 4 := rfl
theorem fl_ok (v : Nat) : Ok (fl v) := by
  unfold fl
  refine Ok.cons (Nat.mod_lt _ (by decide)) (Ok.cons (Nat.mod_lt _ (by decide)) (Ok.cons (Nat.mod_lt _ (by decide)) (Ok.cons (Nat.mod_lt _ (by decide)) Ok.nil)))
theorem fl_val {v : Nat} (h : v < pw 4) : val (fl v) = v := by
  unfold fl
  simp only [val, show pw 1 = 18446744073709551616 from rfl, show pw 2 = 18446744073709551616 * 18446744073709551616 from rfl, show pw 3 = 18446744073709551616 * (18446744073709551616 * 18446744073709551616) from rfl, show pw 4 = 18446744073709551616 * (18446744073709551616 * (18446744073709551616 * 18446744073709551616)) from rfl] at *
  omega
theorem fl_of {zs : List Nat} {v : Nat} (hl : zs.length = 4) (ho : Ok zs) (hv : val zs = v) : zs = fl v := by
  refine val_inj ho (fl_ok v) (by rw [hl, fl_len]) ?_
  rw [hv, fl_val]
  rw [← hv, ← hl]
  exact val_lt ho
theorem rN_lt : rN < pw 4 := by have := rN_two; have := rN_pos; omega

/-- In the form in which it is multiplied. -/
def mgt (a : Nat) : Nat := a * pw 4 % rN
theorem mgt_lt (a : Nat) : mgt a < rN := Nat.mod_lt _ rN_pos
theorem mgt_val (a : Nat) : val (fl (mgt a)) = mgt a := fl_val (Nat.lt_trans (mgt_lt a) rN_lt)
theorem mgt_mod (a : Nat) : mgt (a % rN) = mgt a := by unfold mgt; rw [Nat.mod_mul_mod]
theorem cancel {x y : Nat} (h : x * pw 4 % rN = y * pw 4 % rN) : x % rN = y % rN := by
  rw [pw_two] at h
  exact mul_cancel_mod rN_odd _ h
theorem mgt_prod {a b x : Nat} (hx : x < rN) (h : x * pw 4 % rN = mgt a * mgt b % rN) : x = mgt (a * b) := by
  have h1 : x * pw 4 % rN = (a * b * pw 4) * pw 4 % rN := by
    rw [h]
    unfold mgt
    rw [← Nat.mul_mod, Nat.mul_mul_mul_comm, Nat.mul_assoc (a * b)]
  have h2 := cancel h1
  rw [Nat.mod_eq_of_lt hx] at h2
  exact h2
theorem mgt_in {a x : Nat} (hx : x < rN) (h : x * pw 4 % rN = a * (pw 4 * pw 4 % rN) % rN) : x = mgt a := by
  have h1 : x * pw 4 % rN = (a * pw 4) * pw 4 % rN := by
    rw [h, Nat.mul_mod_mod, Nat.mul_assoc]
  have h2 := cancel h1
  rw [Nat.mod_eq_of_lt hx] at h2
  exact h2
theorem mgt_out {a x : Nat} (hx : x < rN) (h : x * pw 4 % rN = mgt a * 1 % rN) : x = a % rN := by
  have h1 : x * pw 4 % rN = a * pw 4 % rN := by
    rw [h, Nat.mul_one]; unfold mgt; rw [Nat.mod_mod]
  have h2 := cancel h1
  rw [Nat.mod_eq_of_lt hx] at h2
  exact h2
theorem mgt_add (a b : Nat) : (mgt a + mgt b) % rN = mgt (a + b) := by
  unfold mgt
  rw [← Nat.add_mod, Nat.add_mul]
end Go.Proofs.YtdilgmokiclfaaaDoor
namespace Go.Proofs.YtdilgmokiclfaaaDoor
open Go.RowKit
set_option linter.unusedVariables false
set_option maxRecDepth 100000

theorem wpList_store_new1 {P : Program} {ops : Array Oper} {rest : List Oper} {o : Oper} {a : Act} {w : World} {A : Obj} {Q : Exit → Act → World → Prop} (hgd : o.guard = none) (ty : TypeId) (x y : Operand) (ho : o.op = .store ty x y)
    (k : IntKind) (zs : List Nat) (hx : a.eval x = .pointer (some ⟨w.heap.size + 1, 0, none⟩)) (hy : a.eval y = .agg (lim k zs))
    (t : TypeId) (old : Array Value) (hi : (P.info? ty).map (·.size) = some zs.length)
    (hold : old.size = zs.length) (h : wpList P ops Q rest (a.put o.dst undef) ((w.alloc A).alloc (.cells (lim k zs) t))) : wpList P ops Q (o :: rest) a ((w.alloc A).alloc (.cells old t)) := by
  have e : (w.alloc A).heap.size = w.heap.size + 1 := by simp
  exact wpList_store_new hgd ty x y ho k zs (by rw [hx, e]) hy t old hi hold h
theorem OwnX.own {w : World} {g : Nat} {T : TypeId} {zs : List Nat} (h : OwnX [] w g T zs) : Own w g T .u64 zs := by
  have e : lim .u64 zs ++ ([] : List Value).toArray = lim .u64 zs := by simp
  unfold OwnX at h; rw [e] at h; exact h
theorem Own.grew {w w' : World} {g go : Nat} {T : TypeId} {zs : List Nat} (h : Own w g T .u64 zs) (hg : w.grownBy w' (some go)) (hne : g ≠ go) : Own w' g T .u64 zs :=
  (hg.block g h.lt (fun e => hne (by injection e))).trans h
def FrPost (v : Nat) (w : World) (e : Ending) (w' : World) : Prop := e = .returned (.agg (lim .u64 (fl v))) ∧ Below w.heap.size w w'

set_option maxHeartbeats 400000 in
/-- core.R -/
theorem coreR_any (w : World) :
    Calls Tryd.prog 71 #[] w fun e w' => e = .returned (.agg (lim .u64 rL)) ∧ Below w.heap.size w w' := by
  go_enter Tryd.func71, Tryd.ntmps71
  have o1 := Own.new w 24 .u64 rL
  go_wp2_with (first | refine wpList_build_to rfl 24 _ rfl (lim .u64 rL) (by kernel_rfl) ?_ | refine wpList_store_new rfl 24 (.tmp 0) (.tmp 1) rfl .u64 rL rfl rfl 24 _ (by kernel_rfl) rfl ?_)
  exact bodyPost_ret (results_cell_row rfl _ _ w.heap.size 24 (lim .u64 rL) (0, 0) (.array 4 22) rfl o1 (by kernel_rfl) rfl (by kernel_rfl)) rfl ⟨rfl, (Below.refl _ _).alloc (Nat.le_refl _) _⟩

end Go.Proofs.YtdilgmokiclfaaaDoor
namespace Go.Proofs.YtdilgmokiclfaaaDoor
open Go.RowKit
set_option linter.unusedVariables false
set_option maxRecDepth 100000

end Go.Proofs.YtdilgmokiclfaaaDoor
namespace Go.Proofs.YtdilgmokiclfaaaDoor
open Go.RowKit
set_option linter.unusedVariables false
set_option maxRecDepth 100000

theorem addHi_le {x y c : Nat} (hx : x < 18446744073709551616) (hy : y < 18446744073709551616) (hc : c ≤ 1) : addHi x y c ≤ 1 := add_carry hx hy hc
theorem plus_val {a0 a1 a2 a3 b0 b1 b2 b3 z0 z1 z2 z3 c0 c1 c2 c3 : Nat} (h0 : z0 + 18446744073709551616 * c0 = a0 + b0 + 0) (h1 : z1 + 18446744073709551616 * c1 = a1 + b1 + c0) (h2 : z2 + 18446744073709551616 * c2 = a2 + b2 + c1) (h3 : z3 + 18446744073709551616 * c3 = a3 + b3 + c2)
    (hlt : val [a0, a1, a2, a3] + val [b0, b1, b2, b3] < pw 4) : val [z0, z1, z2, z3] = val [a0, a1, a2, a3] + val [b0, b1, b2, b3] := by
  simp only [val, show pw 4 = 18446744073709551616 * (18446744073709551616 * (18446744073709551616 * 18446744073709551616)) from rfl] at *
  omega
theorem add_eq (x y c : Nat) : addLo x y c + 18446744073709551616 * addHi x y c = x + y + c := by unfold addLo addHi; omega

end Go.Proofs.YtdilgmokiclfaaaDoor
namespace Go.Proofs.YtdilgmokiclfaaaDoor
open Go.RowKit
set_option linter.unusedVariables false
set_option maxRecDepth 100000

theorem eqItems_lim4 (xs ys : List Nat) (hx : xs.length = 4) (hy : ys.length = 4) (w : World) : ∀ is : List Nat, (∀ i ∈ is, i < 4) →
    (Op.eqItems 9999 22 1 (lim .u64 xs) (lim .u64 ys) is).run Tryd.prog w = .ok (is.all fun i => nth xs i == nth ys i) w
  | [], _ => by simp [Op.eqItems]
  | i :: is, h => by
    have hi := h i (by simp)
    have hk : Tryd.prog.plainKey 22 = true := by kernel_rfl
    have p1 := run_part_plain (P := Tryd.prog) w hk (lim_get (k := .u64) (zs := xs) (i := i) (by omega))
    have p2 := run_part_plain (P := Tryd.prog) w hk (lim_get (k := .u64) (zs := ys) (i := i) (by omega))
    have p3 := run_equalIn_int (P := Tryd.prog) w 9998 22 .u64 .u64 (nth xs i : Int) (nth ys i : Int) (by kernel_rfl)
    have ih := eqItems_lim4 xs ys hx hy w is (fun j hj => h j (by simp [hj]))
    simp only [Op.eqItems, Nat.mul_one, Sem.run_bind, p1, p2, p3, Result.andThen_ok]
    rw [List.all_cons]
    by_cases e : nth xs i = nth ys i
    · rw [e]
      simp [ih]
    · have e' : ((nth xs i : Int) == (nth ys i : Int)) = false := by simp; omega
      have e2 : (nth xs i == nth ys i) = false := by simp [e]
      rw [e', e2]
      simp
theorem eq_lim4 (xs ys : List Nat) (hx : xs.length = 4) (hy : ys.length = 4) (w : World) :
    (Op.equalIn 10000 24 (.agg (lim .u64 xs)) (.agg (lim .u64 ys))).run Tryd.prog w = .ok (decide (xs = ys)) w := by
  have hi : ∃ i, Tryd.prog.info? 22 = some i := by
    have : (Tryd.prog.info? 22).isSome = true := by kernel_rfl
    exact Option.isSome_iff_exists.1 this
  obtain ⟨i, hi⟩ := hi
  have hc : Tryd.prog.cellsOf 22 = 1 := by kernel_rfl
  have h := run_equalIn_array (P := Tryd.prog) w 9999 (t := 24) (e := 22) (n := 4) (lim .u64 xs) (lim .u64 ys) (by kernel_rfl) hi
  rw [h, hc, eqItems_lim4 xs ys hx hy w _ (fun j hj => List.mem_range.1 hj)]
  congr 1
  by_cases e : xs = ys
  · subst e; simp
  · rw [decide_eq_false e, List.all_eq_false]
    apply Classical.byContradiction
    intro hn
    refine e (List.ext_getElem (by omega) fun j h1 h2 => ?_)
    apply Classical.byContradiction
    intro hne
    refine hn ⟨j, by simp; omega, ?_⟩
    rw [nth_eq h1, nth_eq h2]
    simpa using hne
theorem eq_four (f0 f1 f2 f3 : Nat) (w : World) : (Op.equalIn 10000 24 (.agg #[.int .u64 (f0 : Nat), .int .u64 (f1 : Nat), .int .u64 (f2 : Nat), .int .u64 (f3 : Nat)]) (.agg #[.int .u64 (f0 : Nat), .int .u64 (f1 : Nat), .int .u64 (f2 : Nat), .int .u64 (f3 : Nat)])).run Tryd.prog w = .ok true w := by
  have h := eq_lim4 [f0, f1, f2, f3] [f0, f1, f2, f3] rfl rfl w
  rw [decide_eq_true rfl] at h
  exact h
end Go.Proofs.YtdilgmokiclfaaaDoor
