/- Chapter 24: Parse's closures; what Parse answers. -/
import Derived.Test.YtdilgmokiclfaaaDoorScZb
import Derived.Test.YtdilgmokiclfaaaDoorScF
import Derived.Test.YtdilgmokiclfaaaDoorScM
namespace Go.Proofs.YtdilgmokiclfaaaDoor
open Go.RowKit
set_option linter.unusedVariables false
set_option maxRecDepth 100000

theorem results_cell_tmp2 {fn : Func} {p u v : Tmp} {ty : TypeId} (h : fn.results = #[.cell p ty, .tmp u, .tmp v]) (tmps : Array Value) (P : Program) (w : World) :
    (results fn tmps).run P w =
      ((asAddr (tmps.getD p undef)).run P w).andThen fun a w₁ => ((loadVar ty a).run P w₁).andThen fun x w₂ => .ok (.tuple #[x, tmps.getD u undef, tmps.getD v undef]) w₂ := by
  simp only [results, h]
  simp [Sem.run_bind, Result.andThen]
/-- A plan's cells. -/
def plC (t0 t1 t2 t3 : Nat) (B O I : Value) : Array Value := #[.int .u64 (t0 : Nat), .int .u64 (t1 : Nat), .int .u64 (t2 : Nat), .int .u64 (t3 : Nat), B, O, I]
def plZ : Array Value := #[.int .u64 0, .int .u64 0, .int .u64 0, .int .u64 0, .slice none 0 0, .slice none 0 0, .slice none 0 0]
theorem plZ_C : plZ = plC 0 0 0 0 (.slice none 0 0) (.slice none 0 0) (.slice none 0 0) := rfl
theorem results_pl {fn : Func} {p u v : Tmp} {W : World} {g : Nat} {t0 t1 t2 t3 : Nat} {B O I : Value} (hf : fn.results = #[.cell p 28, .tmp u, .tmp v]) (tmps : Array Value) (hp : tmps.getD p undef = .pointer (some ⟨g, 0, none⟩)) (h : Bk W g 28 (plC t0 t1 t2 t3 B O I)) :
    (results fn tmps).run Tryd.prog W = .ok (.tuple #[.agg (plC t0 t1 t2 t3 B O I), tmps.getD u undef, tmps.getD v undef]) W := by
  rw [results_cell_tmp2 hf, hp]
  simp [asAddr, run_loadVar_row W g 28 _ (plC t0 t1 t2 t3 B O I) (0, 0) _ h Tryd.underlying28 rfl (by kernel_rfl), Result.andThen]
theorem drewN_same (w : World) (n : Nat) : (w.drewN n).os = w.os ∧ (w.drewN n).tape = w.tape ∧ (w.drewN n).output = w.output ∧ (w.drewN n).heap = w.heap := by
  induction n with
  | zero => exact ⟨rfl, rfl, rfl, rfl⟩
  | succ n ih => exact ih
/-- What Parse$1 does to the world: the rest at b, the number at g. -/
structure NxW (b g : Nat) (s : ByteArray) (no : Int) (w w' : World) : Prop where
  s : Bk w' b 9 #[.string s]
  n : Bk w' g 3 #[.int .i64 no]
  size : w.heap.size ≤ w'.heap.size
  blk : ∀ j, j < w.heap.size → j ≠ b → j ≠ g → w'.heap[j]? = w.heap[j]?
  os : w'.os = w.os
  tape : w'.tape = w.tape
  output : w'.output = w.output
set_option maxHeartbeats 2000000 in
/-- Parse$1 -/
theorem pnext_any (s : ByteArray) (no : Int) (b g : Nat) (w : World) (hs : s.size ≤ 50000000) (h0 : 0 ≤ no) (h1 : no ≤ 1000) (x : Bk w b 9 #[.string s]) (y : Bk w g 3 #[.int .i64 no]) (he : Env w) (hbg : b < g) :
    Calls Tryd.prog 28 #[.pointer (some ⟨b, 0, none⟩), .pointer (some ⟨g, 0, none⟩)] w fun e w' => e = .returned (.tuple #[.string (cutA s), .bool (cutI s)]) ∧ NxW b g (cutR s) (no + 1) w w' := by
  obtain ⟨m, hm⟩ := he.m
  have D1 := Lib.hid (Tryd.strings_Cut s ⟨#[10]⟩ m w (by omega) hm)
  have x0 : w.cell? ⟨b, 0, none⟩ = some (.string s) := x.cell rfl
  have fx : w.frozen? ⟨b, 0, none⟩ = false := x.frozen 0
  have y0 : w.cell? ⟨g, 0, none⟩ = some (.int .i64 no) := y.cell rfl
  have fy : w.frozen? ⟨g, 0, none⟩ = false := y.frozen 0
  clear he hm hs
  go_enter Tryd.func28, Tryd.ntmps28
  go_wp2_with fail
  refine (D1.out).mono ?_
  rintro e w1 ⟨rfl, n, rfl⟩
  have x1 := x.drewN n
  have y1 := y.drewN n
  have ho1 := drewN_same w n
  have hz1 : (w.drewN n).heap.size = w.heap.size := by rw [ho1.2.2.2]
  generalize w.drewN n = W1 at *
  have x0 : W1.cell? ⟨b, 0, none⟩ = some (.string s) := x1.cell rfl
  have fx : W1.frozen? ⟨b, 0, none⟩ = false := x1.frozen 0
  have y0 : W1.cell? ⟨g, 0, none⟩ = some (.int .i64 no) := y1.cell rfl
  have fy : W1.frozen? ⟨g, 0, none⟩ = false := y1.frozen 0
  have y2 := y1.set 0 (.int .i64 (no + 1))
  have x2 := x1.far (p := ⟨g, 0, none⟩) (by show b ≠ g; omega) (.int .i64 (no + 1))
  have x3 := x2.set 0 (.string (cutR s))
  have y3 := y2.far (p := ⟨b, 0, none⟩) (by show g ≠ b; omega) (.string (cutR s))
  have fx2 := x2.frozen 0
  go_wp2_with fail
  go_ret2
  refine ⟨rfl, ⟨x3, y3, ?_, fun j hj hb hg => ?_, ho1.1, ho1.2.1, ho1.2.2.1⟩⟩
  · rw [World.size_setCell, World.size_setCell, hz1]; exact Nat.le_refl _
  · refine (Below.heap_setCell _ ⟨b, 0, none⟩ _ j hb).trans ((Below.heap_setCell _ ⟨g, 0, none⟩ _ j hg).trans ?_)
    rw [ho1.2.2.2]
set_option maxHeartbeats 2000000 in
/-- Parse$2 -/
theorem pfail_any (no : Int) (g : Nat) (w : World) (y : Bk w g 3 #[.int .i64 no]) :
    Calls Tryd.prog 30 #[.pointer (some ⟨g, 0, none⟩)] w fun e w' => e = .returned (.tuple #[.agg plZ, .int .i64 90, .int .i64 no]) ∧ Below w.heap.size w w' := by
  have y1 := y.alloc (.cells plZ 28)
  have b1 := (Below.refl w.heap.size w).alloc (Nat.le_refl _) (.cells plZ 28)
  have z1 := Bk.new w 28 plZ
  unfold plZ at y1 b1 z1
  go_enter Tryd.func30, Tryd.ntmps30
  go_upto_region 1 with fail
  generalize w.alloc (.cells #[.int .u64 0, .int .u64 0, .int .u64 0, .int .u64 0, .slice none 0 0, .slice none 0 0, .slice none 0 0] 28) = W1 at *
  have y2 : W1.drew.cell? ⟨g, 0, none⟩ = some (.int .i64 no) := y1.cell rfl
  have f0 : W1.drew.frozen? ⟨w.heap.size, 0, none⟩ = false := z1.frozen 0
  have f1 : W1.drew.frozen? ⟨w.heap.size, 1, none⟩ = false := z1.frozen 1
  have f2 : W1.drew.frozen? ⟨w.heap.size, 2, none⟩ = false := z1.frozen 2
  have f3 : W1.drew.frozen? ⟨w.heap.size, 3, none⟩ = false := z1.frozen 3
  have f4 : W1.drew.frozen? ⟨w.heap.size, 4, none⟩ = false := z1.frozen 4
  have f5 : W1.drew.frozen? ⟨w.heap.size, 5, none⟩ = false := z1.frozen 5
  have f6 : W1.drew.frozen? ⟨w.heap.size, 6, none⟩ = false := z1.frozen 6
  have v0 : W1.cell? ⟨w.heap.size, 0, none⟩ = some (.int .u64 0) := z1.cell rfl
  have e0 : W1.frozen? ⟨w.heap.size, 0, none⟩ = false := z1.frozen 0
  have v1 : W1.cell? ⟨w.heap.size, 1, none⟩ = some (.int .u64 0) := z1.cell rfl
  have e1 : W1.frozen? ⟨w.heap.size, 1, none⟩ = false := z1.frozen 1
  have v2 : W1.cell? ⟨w.heap.size, 2, none⟩ = some (.int .u64 0) := z1.cell rfl
  have e2 : W1.frozen? ⟨w.heap.size, 2, none⟩ = false := z1.frozen 2
  have v3 : W1.cell? ⟨w.heap.size, 3, none⟩ = some (.int .u64 0) := z1.cell rfl
  have e3 : W1.frozen? ⟨w.heap.size, 3, none⟩ = false := z1.frozen 3
  have v4 : W1.cell? ⟨w.heap.size, 4, none⟩ = some (.slice none 0 0) := z1.cell rfl
  have e4 : W1.frozen? ⟨w.heap.size, 4, none⟩ = false := z1.frozen 4
  have v5 : W1.cell? ⟨w.heap.size, 5, none⟩ = some (.slice none 0 0) := z1.cell rfl
  have e5 : W1.frozen? ⟨w.heap.size, 5, none⟩ = false := z1.frozen 5
  have v6 : W1.cell? ⟨w.heap.size, 6, none⟩ = some (.slice none 0 0) := z1.cell rfl
  have e6 : W1.frozen? ⟨w.heap.size, 6, none⟩ = false := z1.frozen 6
  have y3 : W1.cell? ⟨g, 0, none⟩ = some (.int .i64 no) := y1.cell rfl
  have hgz : ¬ g = w.heap.size := by have := y.lt; omega
  go_region_law (fail)
  all_goals go_wp2_with fail
  all_goals (
    have hz : Bk (((((((W1.setCell ⟨w.heap.size, 0, none⟩ (.int .u64 0)).setCell ⟨w.heap.size, 1, none⟩ (.int .u64 0)).setCell ⟨w.heap.size, 2, none⟩ (.int .u64 0)).setCell ⟨w.heap.size, 3, none⟩ (.int .u64 0)).setCell ⟨w.heap.size, 4, none⟩ (.slice none 0 0)).setCell ⟨w.heap.size, 5, none⟩ (.slice none 0 0)).setCell ⟨w.heap.size, 6, none⟩ (.slice none 0 0)) w.heap.size 28 (plC 0 0 0 0 (.slice none 0 0) (.slice none 0 0) (.slice none 0 0)) := (((((((z1.set 0 (.int .u64 0)).set 1 (.int .u64 0)).set 2 (.int .u64 0)).set 3 (.int .u64 0)).set 4 (.slice none 0 0)).set 5 (.slice none 0 0)).set 6 (.slice none 0 0))
    have hb : Below w.heap.size w (((((((W1.setCell ⟨w.heap.size, 0, none⟩ (.int .u64 0)).setCell ⟨w.heap.size, 1, none⟩ (.int .u64 0)).setCell ⟨w.heap.size, 2, none⟩ (.int .u64 0)).setCell ⟨w.heap.size, 3, none⟩ (.int .u64 0)).setCell ⟨w.heap.size, 4, none⟩ (.slice none 0 0)).setCell ⟨w.heap.size, 5, none⟩ (.slice none 0 0)).setCell ⟨w.heap.size, 6, none⟩ (.slice none 0 0)) := (((((((b1.setCell (p := ⟨w.heap.size, 0, none⟩) (Nat.le_refl _) (.int .u64 0)).setCell (p := ⟨w.heap.size, 1, none⟩) (Nat.le_refl _) (.int .u64 0)).setCell (p := ⟨w.heap.size, 2, none⟩) (Nat.le_refl _) (.int .u64 0)).setCell (p := ⟨w.heap.size, 3, none⟩) (Nat.le_refl _) (.int .u64 0)).setCell (p := ⟨w.heap.size, 4, none⟩) (Nat.le_refl _) (.slice none 0 0)).setCell (p := ⟨w.heap.size, 5, none⟩) (Nat.le_refl _) (.slice none 0 0)).setCell (p := ⟨w.heap.size, 6, none⟩) (Nat.le_refl _) (.slice none 0 0))
    generalize (((((((W1.setCell ⟨w.heap.size, 0, none⟩ (.int .u64 0)).setCell ⟨w.heap.size, 1, none⟩ (.int .u64 0)).setCell ⟨w.heap.size, 2, none⟩ (.int .u64 0)).setCell ⟨w.heap.size, 3, none⟩ (.int .u64 0)).setCell ⟨w.heap.size, 4, none⟩ (.slice none 0 0)).setCell ⟨w.heap.size, 5, none⟩ (.slice none 0 0)).setCell ⟨w.heap.size, 6, none⟩ (.slice none 0 0)) = W2 at *
    refine bodyPost_ret (results_pl rfl _ rfl hz.drew) rfl ⟨?_, hb.drew⟩
    rfl)
end Go.Proofs.YtdilgmokiclfaaaDoor
