import Derived.Test.YtdilgmokiclfaaaDoorFrD
import Derived.Test.YtdilgmokiclfaaaDoorSpAll
import Derived.Deep.RegionWith
namespace Go.Proofs.YtdilgmokiclfaaaDoor
open Go.RowKit
set_option linter.unusedVariables false
set_option maxRecDepth 100000
theorem bytesN_lt (s : ByteArray) : ∀ x ∈ bytesN s, x < 256 := fun x hx => by
  unfold bytesN at hx
  obtain ⟨b, _, rfl⟩ := List.mem_map.1 hx
  exact b.toNat_lt
theorem index_strF (s : ByteArray) (j : Nat) (w : World) (hj : j < s.size) : (Instr.index 9 (.string s) (.int .i64 (j : Int))).run Tryd.prog w = .ok (.int .u8 (nth (bytesN s) j : Nat)) w := by
  have hu : Tryd.prog.underlying 9 = some .string := by kernel_rfl
  have hd : j < s.data.size := hj
  have e : nth (bytesN s) j = (s.data[j]'hd).toNat := by
    unfold bytesN nth
    rw [List.getD_eq_getElem?_getD, List.getElem?_map, Array.getElem?_toList, Array.getElem?_eq_getElem hd]
    rfl
  rw [e]
  simp only [Instr.index, Sem.run_bind, run_underlying hu, asIntOf, Sem.run_pure, Result.andThen_ok]
  simp only [Int.toNat_natCast, getElem?_pos s j hj]
  have h0 : (0 : Int) ≤ (j : Int) := by omega
  simp [h0, go_sem]
  rfl
/-- The number that the bytes are, the first one the highest. -/
def hN (l : List Nat) : Nat := l.foldl (fun h c => h * 256 + c) 0
theorem hN_succ {l : List Nat} {k : Nat} (h : k < l.length) : hN (l.take (k + 1)) = hN (l.take k) * 256 + nth l k := by
  unfold hN
  rw [List.take_add_one, List.foldl_append, nth_eq h, List.getElem?_eq_getElem h]
  rfl
theorem fl_zero : [0, 0, 0, 0] = fl (mgt (hN [])) := by
  show _ = fl (0 * pw 4 % rN)
  rw [Nat.zero_mul]; rfl
theorem fl4 (v : Nat) : ∃ a0 a1 a2 a3, fl v = [a0, a1, a2, a3] := ⟨_, _, _, _, rfl⟩
theorem own_four {w : World} {g : Nat} {T : TypeId} {zs : List Nat} {a0 a1 a2 a3 : Nat} (h : Own w g T .u64 zs) (hz : zs.length = 4) :
    Own ((((w.setCell ⟨g, 0, none⟩ (.int .u64 (a0 : Nat))).setCell ⟨g, 1, none⟩ (.int .u64 (a1 : Nat))).setCell ⟨g, 2, none⟩ (.int .u64 (a2 : Nat))).setCell ⟨g, 3, none⟩ (.int .u64 (a3 : Nat))) g T .u64 [a0, a1, a2, a3] := by
  have := (((h.set 0 a0).set 1 a1).set 2 a2).set 3 a3
  match zs, hz with
  | [z0, z1, z2, z3], _ => exact this
theorem own_four_far {w : World} {g b : Nat} {T : TypeId} {zs : List Nat} {a0 a1 a2 a3 : Nat} (h : Own w b T .u64 zs) (hb : b ≠ g) :
    Own ((((w.setCell ⟨g, 0, none⟩ (.int .u64 (a0 : Nat))).setCell ⟨g, 1, none⟩ (.int .u64 (a1 : Nat))).setCell ⟨g, 2, none⟩ (.int .u64 (a2 : Nat))).setCell ⟨g, 3, none⟩ (.int .u64 (a3 : Nat))) b T .u64 zs :=
  (((h.far hb _).far hb _).far hb _).far hb _
theorem below_four {B g : Nat} {v w : World} {a0 a1 a2 a3 : Nat} (h : Below B v w) (hb : B ≤ g) :
    Below B v ((((w.setCell ⟨g, 0, none⟩ (.int .u64 (a0 : Nat))).setCell ⟨g, 1, none⟩ (.int .u64 (a1 : Nat))).setCell ⟨g, 2, none⟩ (.int .u64 (a2 : Nat))).setCell ⟨g, 3, none⟩ (.int .u64 (a3 : Nat))) :=
  (((h.setCell (p := ⟨g, 0, none⟩) hb _).setCell (p := ⟨g, 1, none⟩) hb _).setCell (p := ⟨g, 2, none⟩) hb _).setCell (p := ⟨g, 3, none⟩) hb _
theorem Own.c4 {w : World} {g : Nat} {T : TypeId} {a0 a1 a2 a3 : Nat} (h : Own w g T .u64 [a0, a1, a2, a3]) :
    w.cell? ⟨g, 0, none⟩ = some (.int .u64 (a0 : Nat)) ∧ w.cell? ⟨g, 1, none⟩ = some (.int .u64 (a1 : Nat)) ∧ w.cell? ⟨g, 2, none⟩ = some (.int .u64 (a2 : Nat)) ∧ w.cell? ⟨g, 3, none⟩ = some (.int .u64 (a3 : Nat)) :=
  ⟨h.cell (i := 0) (by simp), h.cell (i := 1) (by simp), h.cell (i := 2) (by simp), h.cell (i := 3) (by simp)⟩

attribute [local irreducible] hN mgt
end Go.Proofs.YtdilgmokiclfaaaDoor
