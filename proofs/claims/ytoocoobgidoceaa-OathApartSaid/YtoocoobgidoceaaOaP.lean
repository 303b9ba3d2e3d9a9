import Derived.Test.YtoocoobgidoceaaOaK
import Derived.Test.YtoocoobgidoceaaOaRow
import Derived.Deep.Slices
import Derived.Deep.SlicePairs
import Derived.Deep.Strs
namespace Go.Proofs.Ytoocoobgidoceaa
open Go.ChangeShapes Go.WideShapes Go.RowKit Go.Deep
set_option linter.unusedVariables false

/-- A row of parts that came in. -/
theorem open_parts {H : Type} {enc : TypeId × Value → H} {W : World} {r : Reach} {b0 : Nat} {base : Nat} {held : Bool} {v : Value} {d : DataW H} {p : List MemPlace}
    (hv : Value.okWide Try.prog W r b0 39 v) (h : DataW.Trod enc Try.prog W base (fun _ => true) held 39 v d p) :
    ∃ (A : Option Addr) (n c : Nat) (ps : List Part3), v = .slice A n c ∧ ps.length = n ∧ Pl W A ps ∧ n ≤ c ∧ c ≤ maxLen := by
  obtain ⟨a, len, cap, rfl⟩ := okWide_slice Try.underlying39 hv
  obtain ⟨fuel, hf⟩ := h
  rcases open_slice Try.underlying39 hf with ⟨hcs, _⟩ | ⟨x, l, c, m, nn, D, Pl', hcs, hb, hl, hm, hmm, _, hx⟩
  · simp [Value.cells] at hcs
    obtain ⟨rfl, rfl, rfl⟩ := hcs
    exact ⟨none, 0, 0, [], rfl, rfl, fun h => by simp at h, Nat.le_refl _, Nat.zero_le _⟩
  · simp [Value.cells] at hcs
    obtain ⟨rfl, rfl, rfl⟩ := hcs
    have hmc : m = cap := by simpa using hmm
    have ce : Try.prog.cellsOf 41 = 3 := by kernel_rfl
    have cs : Try.prog.cellsOf 9 = 1 := by kernel_rfl
    have cb : Try.prog.cellsOf 4 = 1 := by kernel_rfl
    have each : ∀ i, i < len → ∃ q : Part3, W.cell? (x.add (i * 3)) = some (.string q.1) ∧ W.cell? (x.add (i * 3 + 1)) = some (.string q.2.1) ∧ W.cell? (x.add (i * 3 + 2)) = some (.bool q.2.2) := by
      intro i hi
      obtain ⟨cs', h1, h2⟩ := hx i (by omega)
      rw [ce] at h1
      obtain ⟨_, hlen, hcell⟩ := World.cells?_some h1
      obtain ⟨y0, y1, y2, n', _, _, g0, g1, g2⟩ := trod_struct3 Try.underlying41 h2
      match cs', hlen with
      | [v0, v1, v2], _ =>
        simp [cs, cb] at g0 g1 g2
        obtain ⟨z0, hz0, _⟩ := DataW.trod_string Try.underlying9 g0
        obtain ⟨z1, hz1, _⟩ := DataW.trod_string Try.underlying9 g1
        obtain ⟨z2, hz2, _⟩ := DataW.trod_bool Try.underlying4 g2
        simp only [List.cons.injEq, and_true] at hz0 hz1 hz2
        subst hz0 hz1 hz2
        have e0 := hcell 0 (by omega)
        have e1 := hcell 1 (by omega)
        have e2 := hcell 2 (by omega)
        rw [add_add] at e0 e1 e2
        exact ⟨(z0, z1, z2), by simpa using e0, by simpa using e1, by simpa using e2⟩
    obtain ⟨q, hq⟩ := choose_lt each
    refine ⟨some x, len, cap, (List.range len).map q, rfl, by simp, fun hp => ?_, hl, hm⟩
    have hpl : 0 < len := by simpa using hp
    obtain ⟨b, off, spot⟩ := x
    have hc := (hq 0 hpl).1
    have hspot : spot = none := by
      have := World.cell?_spot hc
      simpa [Addr.add] using this
    subst hspot
    refine ⟨b, off, rfl, ?_, fun i hi => ?_⟩
    · have := World.block_lt_of_cell? _ _ hc
      simpa [Addr.add] using this
    · have hil : i < len := by simpa using hi
      obtain ⟨k0, k1, k2⟩ := hq i hil
      rw [add_flat] at k0 k1 k2
      simp only [List.getElem_map, List.getElem_range]
      exact ⟨k0, by rw [Nat.add_assoc]; exact k1, by rw [Nat.add_assoc]; exact k2⟩
end Go.Proofs.Ytoocoobgidoceaa
