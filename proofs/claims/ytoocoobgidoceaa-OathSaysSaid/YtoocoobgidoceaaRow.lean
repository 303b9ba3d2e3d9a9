import Derived.Test.YtoocoobgidoceaaMem
import Derived.OpenShut
namespace Go.Proofs.Ytoocoobgidoceaa
open Go.RowKit
set_option linter.unusedVariables false

/-- A slice of integers that came in: nil, or a row of cells. -/
def IsRow (k : IntKind) (w : World) (a : Option Addr) (len cap : Nat) (zs : List Int) : Prop :=
  (a = none ∧ len = 0 ∧ cap = 0 ∧ zs = []) ∨
  ∃ x, a = some x ∧ len ≤ cap ∧ cap ≤ maxLen ∧ zs.length = cap ∧ (∀ i, i < zs.length → w.cell? (x.add i) = some (.int k (zs.getD i 0))) ∧ ∀ n ∈ zs, (Lit.int k n).wf = true

theorem row_any {k : IntKind} {w : World} {a : Option Addr} {len cap : Nat} {zs : List Int} (h : IsRow k w a len cap zs) (h0 : ∀ n : Int, (Lit.int k n).wf = true → 0 ≤ n) :
    ∃ xs : List Nat, xs.length = len ∧ (∀ x ∈ xs, (Lit.int k (x : Int)).wf = true) ∧ Sl w k a xs ∧ len ≤ cap ∧ cap ≤ maxLen := by
  rcases h with ⟨rfl, rfl, rfl, rfl⟩ | ⟨x, rfl, hl, hm, hz, hcell, hwz⟩
  · exact ⟨[], rfl, (fun x hx => by cases hx), Sl.nil _ _ _, Nat.le_refl _, Nat.zero_le _⟩
  · have hlen : ((zs.take len).map Int.toNat).length = len := by rw [List.length_map, List.length_take, hz]; omega
    have hnat : ∀ i, i < len → ((nth ((zs.take len).map Int.toNat) i : Nat) : Int) = zs.getD i 0 := by
      intro i hi
      have hi2 : i < zs.length := by omega
      rw [nth_eq (by omega), List.getD_eq_getElem?_getD, List.getElem?_eq_getElem hi2]
      simp only [List.getElem_map, List.getElem_take, Option.getD_some]
      exact Int.toNat_of_nonneg (h0 _ (hwz _ (List.getElem_mem hi2)))
    refine ⟨(zs.take len).map Int.toNat, hlen, ?_, ?_, hl, hm⟩
    · intro y hy
      obtain ⟨z, hz1, rfl⟩ := List.mem_map.1 hy
      have hz2 := hwz z (List.mem_of_mem_take hz1)
      rw [Int.toNat_of_nonneg (h0 _ hz2)]
      exact hz2
    · intro hp
      rw [hlen] at hp
      obtain ⟨b, off, spot⟩ := x
      have hc := hcell 0 (by omega)
      have hspot : spot = none := by simpa [Addr.add] using World.cell?_spot hc
      subst hspot
      refine ⟨b, off, rfl, ?_, fun i hi => ?_⟩
      · have := World.block_lt_of_cell? _ _ hc
        simpa [Addr.add] using this
      · rw [hlen] at hi
        have hc2 := hcell i (by omega)
        rw [hnat i hi, ← hc2]
        congr 1
        unfold Addr.add
        split
        · subst i; rfl
        · rfl
theorem row_u64 {w : World} {a : Option Addr} {len cap : Nat} {zs : List Int} (h : IsRow .u64 w a len cap zs) :
    ∃ xs : List Nat, xs.length = len ∧ Ok xs ∧ Sl w .u64 a xs ∧ len ≤ cap ∧ cap ≤ maxLen := by
  obtain ⟨xs, h1, h2, h3⟩ := row_any h (fun n hn => (bounds_u64 hn).1)
  exact ⟨xs, h1, fun x hx => by have := (bounds_u64 (h2 x hx)).2; omega, h3⟩
theorem row_u8 {w : World} {a : Option Addr} {len cap : Nat} {zs : List Int} (h : IsRow .u8 w a len cap zs) :
    ∃ xs : List Nat, xs.length = len ∧ (∀ x ∈ xs, x < 256) ∧ Sl w .u8 a xs ∧ len ≤ cap ∧ cap ≤ maxLen := by
  obtain ⟨xs, h1, h2, h3⟩ := row_any h (fun n hn => (bounds_u8 hn).1)
  exact ⟨xs, h1, fun x hx => by have := (bounds_u8 (h2 x hx)).2; omega, h3⟩
end Go.Proofs.Ytoocoobgidoceaa
