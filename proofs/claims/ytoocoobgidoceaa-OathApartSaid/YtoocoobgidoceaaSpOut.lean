import Derived.Test.YtoocoobgidoceaaSpAl
import Derived.Test.YtoocoobgidoceaaSpShM
import Derived.Deep.AppendLies
namespace Go.Proofs.Ytoocoobgidoceaa
open Go.RowKit
set_option linter.unusedVariables false

def outL (Z : List Nat) (j : Nat) : List Value := (List.range j).map fun i => Value.int .u8 (sqz1 Z i : Nat)
theorem outL_succ (Z : List Nat) (j : Nat) : outL Z (j + 1) = outL Z j ++ [Value.int .u8 (sqz1 Z j : Nat)] := by simp [outL, List.range_succ]
theorem conv_row {w : World} {B g cap n : Nat} {l : List Nat} (h : w.ownsRow B 5 1 (.slice (some ⟨g, 0, none⟩) n cap) n (l.map fun x : Nat => Value.int .u8 (x : Int))) :
    (convert 22 9 (.slice (some ⟨g, 0, none⟩) n cap)).run Try.prog w = .ok (.string (strB l)) w := by
  have hl : l.length = n := by simpa using h.1
  have hadd : ∀ i, (⟨g, 0, none⟩ : Addr).add i = ⟨g, 0 + i, none⟩ := fun i => by unfold Addr.add; split <;> simp_all
  refine run_convert_bytes_arg (P := Try.prog) w 22 5 (by kernel_rfl) (by kernel_rfl) g 0 n cap (l.map fun x : Nat => (x : Int)) (by rw [List.length_map, hl]) (fun i hi => ?_) 9 (by kernel_rfl)
  have := h.cells rfl i (.int .u8 (nth l i : Nat)) (by rw [List.getElem?_map, List.getElem?_eq_getElem (by omega), nth_eq (by omega)]; rfl)
  rw [hadd] at this
  rw [this]
  congr 2
  unfold nth
  rw [List.getD_eq_getElem?_getD, List.getD_eq_getElem?_getD, List.getElem?_map, List.getElem?_eq_getElem (by omega)]
  rfl

end Go.Proofs.Ytoocoobgidoceaa
