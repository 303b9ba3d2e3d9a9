import Derived.Test.YtoocoobgidoceaaOaT
namespace Go.Proofs.Ytoocoobgidoceaa
open Go.RowKit
set_option linter.unusedVariables false

theorem Pl.take {w : World} {A : Option Addr} {ps : List Part3} (h : Pl w A ps) (m : Nat) : Pl w A (ps.take m) := fun hp => by
  have hl : 0 < ps.length := by rw [List.length_take] at hp; omega
  obtain ⟨b, off, rfl, hb, hc⟩ := h hl
  refine ⟨b, off, rfl, hb, fun i hi => ?_⟩
  have hi' : i < ps.length := by rw [List.length_take] at hi; omega
  rw [List.getElem_take]
  exact hc i hi'
theorem oathApart_any (A1 A2 : Option Addr) (n1 c1 n2 c2 : Nat) (ps qs : List Part3) (w : World) (hn1 : ps.length = n1) (hn2 : qs.length = n2) (s1 : Pl w A1 ps) (s2 : Pl w A2 qs) (h1 : n1 ≤ c1) (h1' : c1 ≤ maxLen) (h2 : n2 ≤ c2) (h2' : c2 ≤ maxLen) :
    Calls Try.prog 6 #[.slice A1 n1 c1, .slice A2 n2 c2] w fun e w' => e = .returned (.bool true) ∧ Below w.heap.size w w' :=
  apart_t A1 A2 n1 c1 n2 c2 (min n1 20) (min n2 20) (ps.take (min n1 20)) (qs.take (min n2 20)) w (by rw [List.length_take, hn1]; omega) (by rw [List.length_take, hn2]; omega) (s1.take _) (s2.take _) h1 h1' h2 h2' rfl rfl
end Go.Proofs.Ytoocoobgidoceaa
