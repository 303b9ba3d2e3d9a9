import Derived.WalkKit
import Derived.Test.YtoocoobgidoceaaNatMath
import Derived.Lib.Hide
import Derived.Deep.Draws
import Derived.Deep.QuietTactic
import Derived.BigQuiet
namespace Go.Proofs.Ytoocoobgidoceaa
open Go.RowKit

/-- The cells of a row of numbers of one kind. -/
def lim (k : IntKind) (zs : List Nat) : Array Value := (zs.map fun x : Nat => Value.int k (x : Int)).toArray
theorem lim_size (k : IntKind) (zs : List Nat) : (lim k zs).size = zs.length := by simp [lim]
theorem lim_get {k : IntKind} {zs : List Nat} {i : Nat} (h : i < zs.length) : (lim k zs)[i]? = some (.int k (nth zs i : Nat)) := by
  simp [lim, nth_eq h, List.getElem?_eq_getElem h]
theorem lim_set (k : IntKind) (zs : List Nat) (i x : Nat) : (lim k zs).setIfInBounds i (.int k (x : Int)) = lim k (zs.set i x) := by
  simp [lim, List.map_set]

/-- Block g of the heap is this row of numbers, none frozen. -/
def Own (w : World) (g : Nat) (T : TypeId) (k : IntKind) (zs : List Nat) : Prop := w.heap[g]? = some (.cells (lim k zs) T (0, 0))
section
variable {w w' : World} {g : Nat} {T : TypeId} {k : IntKind} {zs : List Nat}
theorem Own.lt (h : Own w g T k zs) : g < w.heap.size := by
  rcases Nat.lt_or_ge g w.heap.size with hlt | hge
  · exact hlt
  · unfold Own at h; rw [Array.getElem?_eq_none hge] at h; cases h
theorem Own.cell (h : Own w g T k zs) {i : Nat} (hi : i < zs.length) : w.cell? ⟨g, i, none⟩ = some (.int k (nth zs i : Nat)) :=
  (cell_of_row w g i _ T (0, 0) h).trans (lim_get hi)
theorem Own.frozen (h : Own w g T k zs) (i : Nat) : w.frozen? ⟨g, i, none⟩ = false := by
  unfold Own at h; simp [World.frozen?, h]
theorem Own.drew (h : Own w g T k zs) : Own w.drew g T k zs := h
theorem Own.drewN (h : Own w g T k zs) (n : Nat) : Own (w.drewN n) g T k zs := h
theorem Own.alloc (h : Own w g T k zs) (o : Obj) : Own (w.alloc o) g T k zs := (Below.heap_alloc w o g h.lt).trans h
theorem Own.new (w : World) (T : TypeId) (k : IntKind) (zs : List Nat) : Own (w.alloc (.cells (lim k zs) T)) w.heap.size T k zs := heap_alloc_new w _
theorem Own.set (h : Own w g T k zs) (i x : Nat) : Own (w.setCell ⟨g, i, none⟩ (.int k (x : Int))) g T k (zs.set i x) := by
  unfold Own at h ⊢
  simp [World.setCell, Array.getElem?_modify, h, lim_set]
theorem Own.far (h : Own w g T k zs) {p : Addr} (hp : g ≠ p.block) (u : Value) : Own (w.setCell p u) g T k zs := (Below.heap_setCell w p u g hp).trans h
theorem Own.below (h : Own w g T k zs) {B : Nat} (hb : Below B w w') (hg : g < B) : Own w' g T k zs := (hb.block g hg).trans h
theorem Own.bel (h : Own w g T k zs) (hb : Below w.heap.size w w') : Own w' g T k zs := h.below hb h.lt
end

/-- The slice that begins at A reads as this row of numbers, as far as the row goes. -/
def Sl (w : World) (k : IntKind) (A : Option Addr) (xs : List Nat) : Prop :=
  0 < xs.length → ∃ b off, A = some ⟨b, off, none⟩ ∧ b < w.heap.size ∧ ∀ i, i < xs.length → w.cell? ⟨b, off + i, none⟩ = some (.int k (nth xs i : Nat))
section
variable {w w' : World} {k : IntKind} {A : Option Addr} {xs : List Nat}
theorem Sl.nil (w : World) (k : IntKind) (A : Option Addr) : Sl w k A [] := fun h => absurd h (by simp)
theorem Sl.same (h : Sl w k A xs) (hs : w.heap.size ≤ w'.heap.size) (hc : ∀ b o, b < w.heap.size → w'.cell? ⟨b, o, none⟩ = w.cell? ⟨b, o, none⟩) : Sl w' k A xs := fun hp => by
  obtain ⟨b, off, rfl, hb, hx⟩ := h hp
  exact ⟨b, off, rfl, by omega, fun i hi => (hc b _ hb).trans (hx i hi)⟩
theorem Sl.bel (h : Sl w k A xs) (hb : Below w.heap.size w w') : Sl w' k A xs := h.same hb.size fun b o hlt => hb.cell (p := ⟨b, o, none⟩) hlt
theorem Sl.at2 (h : Sl w k A xs) (hb : Below w.heap.size w w') (hp : 0 < xs.length) :
    ∃ b off, A = some ⟨b, off, none⟩ ∧ b < w.heap.size ∧ ∀ i, i < xs.length → w'.cell? ⟨b, off + i, none⟩ = some (.int k (nth xs i : Nat)) := by
  obtain ⟨b, off, rfl, hlt, hx⟩ := h hp
  exact ⟨b, off, rfl, hlt, fun i hi => (hb.cell (p := ⟨b, off + i, none⟩) hlt).trans (hx i hi)⟩
theorem cell_far {b g i j : Nat} (h : b ≠ g) {u : Value} (hc : w.cell? ⟨b, i, none⟩ = some u) (v : Value) : (w.setCell ⟨g, j, none⟩ v).cell? ⟨b, i, none⟩ = some u :=
  (World.cell?_setCell_other w _ _ v (by intro e; injection e with e1; exact h e1.symm)).trans hc
theorem Sl.take (h : Sl w k A xs) (n : Nat) : Sl w k A (xs.take n) := fun hp => by
  have hl : (xs.take n).length ≤ xs.length := by rw [List.length_take]; omega
  obtain ⟨b, off, rfl, hb, hx⟩ := h (by omega)
  refine ⟨b, off, rfl, hb, fun i hi => ?_⟩
  rw [hx i (by omega), nth_take (by rw [List.length_take] at hi; omega)]
theorem Sl.of_own {g : Nat} {T : TypeId} (h : Own w g T k xs) : Sl w k (some ⟨g, 0, none⟩) xs := fun _ =>
  ⟨g, 0, rfl, h.lt, fun i hi => by rw [Nat.zero_add]; exact h.cell hi⟩
end

theorem below_drewN {B : Nat} {a w : World} (h : Below B a w) (n : Nat) : Below B a (w.drewN n) := ⟨h.os, h.tape, h.output, h.size, h.block⟩
/-- Old cells and marks, behind whatever kept them. -/
theorem old_cells {W w1 : World} (hb : Below W.heap.size W w1) : (∀ b o, b < W.heap.size → w1.cell? ⟨b, o, none⟩ = W.cell? ⟨b, o, none⟩) :=
  fun b o h => hb.cell (p := ⟨b, o, none⟩) h
end Go.Proofs.Ytoocoobgidoceaa
