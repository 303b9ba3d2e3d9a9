import Derived.Test.YtboaahjpjemfpaaSpAl
import Derived.Test.YtboaahjpjemfpaaSpR4
import Derived.DeepKeys
import Derived.Laws.StructEq
namespace Go.Proofs.Ytboaahjpjemfpaa
open Go.RowKit
set_option linter.unusedVariables false

theorem step_load_rowG {P : Program} {ops : Array Oper} {o : Oper} {a : Act} {w : World} {K : Act → World → Prop} {Q : Exit → Act → World → Prop} {E : Prop} {g : Nat} {T : TypeId} {k : IntKind} {zs : List Nat} (own : Own w g T k zs)
    (hw : Region.wanted o (yielded ops a.tmps) = true) (ty : TypeId) (x : Operand) (ho : o.op = .load ty x) (hx : a.eval x = .pointer (some ⟨g, 0, none⟩)) (n : Nat) (e : TypeId) (hn : zs.length = n)
    (hu : P.underlying ty = some (.array n e)) (hi : (P.info? ty).map (·.size) = some n)
    (h : K (a.put o.dst (.agg (lim k zs))) w) : if Region.wanted o (yielded ops a.tmps) = true then Oper.wp P o a w K Q else E := by
  rw [if_pos hw]
  exact wp_load_row ty x ho g hx T (lim k zs) (0, 0) _ own hu rfl (by rw [lim_size, hn]; exact hi) h
theorem eqItems_lim (xs ys : List Nat) (hx : xs.length = 25) (hy : ys.length = 25) (w : World) : ∀ is : List Nat, (∀ i ∈ is, i < 25) →
    (Op.eqItems 9999 22 1 (lim .u64 xs) (lim .u64 ys) is).run Try.prog w = .ok (is.all fun i => nth xs i == nth ys i) w
  | [], _ => by simp [Op.eqItems]
  | i :: is, h => by
    have hi := h i (by simp)
    have hk : Try.prog.plainKey 22 = true := by kernel_rfl
    have p1 := run_part_plain (P := Try.prog) w hk (lim_get (k := .u64) (zs := xs) (i := i) (by omega))
    have p2 := run_part_plain (P := Try.prog) w hk (lim_get (k := .u64) (zs := ys) (i := i) (by omega))
    have p3 := run_equalIn_int (P := Try.prog) w 9998 22 .u64 .u64 (nth xs i : Int) (nth ys i : Int) (by kernel_rfl)
    have ih := eqItems_lim xs ys hx hy w is (fun j hj => h j (by simp [hj]))
    simp only [Op.eqItems, Nat.mul_one, Sem.run_bind, p1, p2, p3, Result.andThen_ok]
    rw [List.all_cons]
    by_cases e : nth xs i = nth ys i
    · rw [e]
      simp [ih]
    · have e' : ((nth xs i : Int) == (nth ys i : Int)) = false := by simp; omega
      have e2 : (nth xs i == nth ys i) = false := by simp [e]
      rw [e', e2]
      simp
theorem eq_lim (xs ys : List Nat) (hx : xs.length = 25) (hy : ys.length = 25) (w : World) :
    (Op.equalIn 10000 23 (.agg (lim .u64 xs)) (.agg (lim .u64 ys))).run Try.prog w = .ok (decide (xs = ys)) w := by
  have hi : ∃ i, Try.prog.info? 22 = some i := by
    have : (Try.prog.info? 22).isSome = true := by kernel_rfl
    exact Option.isSome_iff_exists.1 this
  obtain ⟨i, hi⟩ := hi
  have hc : Try.prog.cellsOf 22 = 1 := by kernel_rfl
  have h := run_equalIn_array (P := Try.prog) w 9999 (t := 23) (e := 22) (n := 25) (lim .u64 xs) (lim .u64 ys) (by kernel_rfl) hi
  rw [h, hc, eqItems_lim xs ys hx hy w _ (fun j hj => List.mem_range.1 hj)]
  congr 1
  by_cases e : xs = ys
  · subst e; simp
  · rw [decide_eq_false e, List.all_eq_false]
    apply Classical.byContradiction
    intro hn
    refine e (List.ext_getElem (by omega) fun j h1 h2 => ?_)
    apply Classical.byContradiction
    intro hne
    refine hn ⟨j, by simp; omega, ?_⟩
    rw [nth_eq h1, nth_eq h2]
    simpa using hne
end Go.Proofs.Ytboaahjpjemfpaa
