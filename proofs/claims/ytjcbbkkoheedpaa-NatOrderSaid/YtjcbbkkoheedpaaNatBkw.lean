import Derived.Test.YtjcbbkkoheedpaaNatPut
import Derived.RangeFuncNested
import Derived.RangeFuncBound
import Derived.RangeFuncCalls
import Derived.RangeFuncLeaves
import Derived.Shelf.Abstract
import Derived.Shelf.RegionOpen
import Derived.WalkKit
import Derived.OwnWalkIn
import Derived.TacticsInMore
import Derived.LoopNIn
import Derived.LoopIn
namespace Go.Proofs.Ytjcbbkkoheedpaa
open Go.RowKit Go.Shelf
set_option linter.unusedVariables false
attribute [local go_sem] Oper.semAt_some

/-- Whatever lay below m, but for block ob, lies as it lay. -/
def KeepBut (m ob : Nat) (W W' : World) : Prop := ∀ b, b < m → b ≠ ob → W'.heap[b]? = W.heap[b]?
theorem KeepBut.refl (m ob : Nat) (W : World) : KeepBut m ob W W := fun _ _ _ => rfl
theorem KeepBut.trans {m ob : Nat} {A B C : World} (h : KeepBut m ob A B) (k : KeepBut m ob B C) : KeepBut m ob A C := fun b hb hne => (k b hb hne).trans (h b hb hne)
theorem KeepBut.cell {m ob : Nat} {A B : World} (h : KeepBut m ob A B) {p : Addr} (hb : p.block < m) (hne : p.block ≠ ob) : B.cell? p = A.cell? p := World.cell?_of_block (h p.block hb hne)
def bkw (xs : List Nat) (n k : Nat) : Nat × Nat := (n - 1 - k, nth xs (n - 1 - k))
def bkws (xs : List Nat) (n k : Nat) : List (Nat × Nat) := (List.range k).map (bkw xs n)
theorem bkws_succ (xs : List Nat) (n k : Nat) : bkws xs n (k + 1) = bkws xs n k ++ [bkw xs n k] := by simp [bkws, List.range_succ]
theorem bkws_length (xs : List Nat) (n k : Nat) : (bkws xs n k).length = k := by simp [bkws]
def bkwE (x : Nat × Nat) : Array Value := #[.int .i64 (x.1 : Int), .int .u64 (x.2 : Int)]

set_option maxRecDepth 100000 in
set_option maxHeartbeats 2000000 in
/-- slices.Backward's closure -/
theorem back1_in (F : Fence) (n : Nat) (h7 : F.fn 46) (hro : F.round = none) (hn : 1 ≤ n) (l Bs m ob len cap : Nat) (A : Option Addr) (xs : List Nat) (hlen : len ≤ 16) (hxl : xs.length = len) (hBm : Bs < m) (hBo : Bs ≠ ob) (J Jx : List (Nat × Nat) → World → Prop)
    (hY : ∀ pre x W, J pre W → pre.length < len → YieldAt F (n - 1) Try.prog l (bkwE x) W fun e W' =>
      (e = .returned (.bool true) ∧ J (pre ++ [x]) W' ∧ KeepBut m ob W W') ∨ (e = .returned (.bool false) ∧ Jx (pre ++ [x]) W'))
    (W : World) (hBs : W.cell? ⟨Bs, 0, none⟩ = some (.slice A len cap)) (hc : 0 < len → ∃ b off, A = some ⟨b, off, none⟩ ∧ b < m ∧ b ≠ ob ∧ ∀ j, j < len → W.cell? ⟨b, off + j, none⟩ = some (.int .u64 (nth xs j : Nat))) (h0 : J [] W) :
    CallsIn F n Try.prog 46 #[.func (.yield l) #[] #[], .pointer (some ⟨Bs, 0, none⟩)] W fun e W' => (∃ v, e = .returned v) ∧
      ((∃ ys, ys = bkws xs len len ∧ J ys W') ∨ (∃ pre, (∃ k, k ≤ len ∧ pre = bkws xs len k) ∧ Jx pre W')) := by
  refine callsIn_of_wp Try.func46 rfl h7 ?_ hro
  simp only [Try.ntmps46, List.size_toArray, List.length_cons, List.length_nil, Nat.reduceAdd, Nat.reduceSub, Array.replicate_succ, Array.replicate_zero, List.push_toArray, List.append_toArray, List.nil_append, List.cons_append]
  have hlen' : (len : Int) ≤ 16 := by omega
  gi_wp2
  gi_loopw [3] (fun i wr => ∃ k : Nat, k ≤ len ∧ i = .int .i64 ((len : Int) - 1 - (k : Int)) ∧ J (bkws xs len k) wr ∧ KeepBut m ob W wr)
    (fun i _ => (intOf i + 1).toNat)
  case atStart => exact ⟨0, Nat.zero_le _, by simp, h0, KeepBut.refl _ _ _⟩
  case round =>
    obtain ⟨k, hk, rfl, hJs, hnx⟩ := hrel
    by_cases hlt : k < len
    · obtain ⟨b, off, rfl, hbm, hbo, hcells⟩ := hc (by omega)
      obtain ⟨p, hp⟩ : ∃ p, len - 1 - k = p := ⟨_, rfl⟩
      have hpl : p < len := by omega
      have hp' : (len : Int) - 1 - (k : Int) = (p : Int) := by omega
      have hpi : (p : Int) < (len : Int) := by omega
      have hcx : wr.cell? ⟨b, off + p, none⟩ = some (.int .u64 (nth xs p : Nat)) := (hnx.cell (p := ⟨b, off + p, none⟩) hbm hbo).trans (hcells p hpl)
      have hbx : wr.cell? ⟨Bs, 0, none⟩ = some (.slice (some ⟨b, off, none⟩) len cap) := (hnx.cell (p := ⟨Bs, 0, none⟩) hBm hBo).trans hBs
      have hbk : bkw xs len k = (p, nth xs p) := by rw [bkw, hp]
      obtain ⟨fn, tmps, assign, body, hy, hR⟩ := hY _ (p, nth xs p) wr hJs (by rw [bkws_length]; exact hlt)
      dsimp only [bkwE] at hy
      gi_wp2
      refine hR.mono ?_
      rintro e W3 (⟨rfl, hJ3, hk3⟩ | ⟨rfl, hJx3⟩)
      · gi_wp2
        go_roundw
        case rel => exact ⟨k + 1, by omega, by congr 1; omega, by rw [bkws_succ, hbk]; exact hJ3, hnx.trans hk3⟩
        case measure => simp [intOf]; omega
      · gi_wp2
        refine bodyPost_ret (results_none rfl _ _ _) rfl ?_
        exact ⟨⟨_, rfl⟩, .inr ⟨_, ⟨k + 1, by omega, by rw [bkws_succ, hbk]⟩, hJx3⟩⟩
    · obtain rfl : k = len := by omega
      gi_wp2
      go_end0
      exact ⟨⟨_, rfl⟩, .inl ⟨_, rfl, hJs⟩⟩

set_option maxHeartbeats 1000000 in
/-- slices.Backward: the slice is boxed; the function value captures the box. -/
theorem back_in (F : Fence) (n : Nat) (h5 : F.fn 38) (hro : F.round = none) (a : Option Addr) (len cap : Nat) (w : World) :
    CallsIn F n Try.prog 38 #[.slice a len cap] w fun e w' => e = .returned (.func (.func 46) #[] #[.pointer (some ⟨w.heap.size, 0, none⟩)]) ∧ w' = w.alloc (.cells #[.slice a len cap] 22) := by
  refine callsIn_of_wp Try.func38 rfl h5 ?_ hro
  simp only [Try.ntmps38, List.size_toArray, List.length_cons, List.length_nil, Nat.reduceAdd, Nat.reduceSub, Array.replicate_succ, Array.replicate_zero, List.push_toArray, List.append_toArray, List.nil_append, List.cons_append]
  gi_wp2
  go_ret
  exact ⟨rfl, rfl⟩

/-- What slices.Backward hands back gives the row's numbers, the last first. -/
theorem back_stops (F : Fence) (n : Nat) (h7 : F.fn 46) (hro : F.round = none) (hn : 1 ≤ n) (Bs m ob len cap : Nat) (A : Option Addr) (xs : List Nat) (hlen : len ≤ 16) (hxl : xs.length = len) (hBm : Bs < m) (hBo : Bs ≠ ob) (w : World) (hm : m ≤ w.heap.size)
    (hBs : w.cell? ⟨Bs, 0, none⟩ = some (.slice A len cap)) (hc : 0 < len → ∃ b off, A = some ⟨b, off, none⟩ ∧ b < m ∧ b ≠ ob ∧ ∀ j, j < len → w.cell? ⟨b, off + j, none⟩ = some (.int .u64 (nth xs j : Nat))) :
    SeqStopsK F n Try.prog 46 #[.pointer (some ⟨Bs, 0, none⟩)] bkwE (KeepBut m ob) (fun ys => ys = bkws xs len len) (fun pre => ∃ k, k ≤ len ∧ pre = bkws xs len k) len w := fun l J Jx W hW _ _ hY h0 => by
  have hc' := (hW.cell (p := ⟨Bs, 0, none⟩) (show Bs < w.heap.size by omega)).trans hBs
  refine back1_in F n h7 hro hn l Bs m ob len cap A xs hlen hxl hBm hBo J Jx hY W hc' (fun h => ?_) h0
  obtain ⟨b, off, hA, hb, hbo, hcs⟩ := hc h
  exact ⟨b, off, hA, hb, hbo, fun j hj => (hW.cell (p := ⟨b, off + j, none⟩) (show b < w.heap.size by omega)).trans (hcs j hj)⟩
end Go.Proofs.Ytjcbbkkoheedpaa
