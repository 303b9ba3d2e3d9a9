import Derived.Test.YtoocoobgidoceaaOaR
import Derived.Deep.RegionWith
import Derived.Deep.AppendLies
namespace Go.Proofs.Ytoocoobgidoceaa
open Go.RowKit
set_option linter.unusedVariables false

theorem info_part : ∃ i, Try.prog.info? 41 = some i ∧ i.zero = some (.agg #[.string ⟨#[]⟩, .string ⟨#[]⟩, .bool false]) ∧ i.size = 3 ∧ i.bytes = 40 := by
  have h : (Try.prog.info? 41).map (fun i => (i.zero, i.size, i.bytes)) = some (some (.agg #[.string ⟨#[]⟩, .string ⟨#[]⟩, .bool false]), 3, 40) := by kernel_rfl
  obtain ⟨i, hi, h⟩ := Option.map_eq_some_iff.1 h
  injection h with h1 h2
  injection h2 with h2 h3
  exact ⟨i, hi, h1, h2, h3⟩
theorem cellsP_one (ps : List Part3) : ∀ u ∈ cellsP ps, u.oneCell' = true := by
  intro u hu
  unfold cellsP at hu
  obtain ⟨p, _, hp⟩ := List.mem_flatMap.1 hu
  simp only [List.mem_cons, List.not_mem_nil, or_false] at hp
  rcases hp with rfl | rfl | rfl <;> rfl
theorem pl_cells {w : World} {b off : Nat} {ps : List Part3} (hc : ∀ i (h : i < ps.length), w.cell? ⟨b, off + i * 3, none⟩ = some (.string (ps[i]).1) ∧ w.cell? ⟨b, off + i * 3 + 1, none⟩ = some (.string (ps[i]).2.1) ∧ w.cell? ⟨b, off + i * 3 + 2, none⟩ = some (.bool (ps[i]).2.2)) :
    ∀ (j : Nat) (u : Value), (cellsP ps)[j]? = some u → w.cell? ((⟨b, off, none⟩ : Addr).add j) = some u := by
  intro j u hj
  have hl : j < ps.length * 3 := by
    rcases Nat.lt_or_ge j (ps.length * 3) with h | h
    · exact h
    · rw [List.getElem?_eq_none (by rw [cellsP_length]; exact h)] at hj; cases hj
  obtain ⟨i, t, ht, rfl⟩ : ∃ i t, t < 3 ∧ j = i * 3 + t := ⟨j / 3, j % 3, Nat.mod_lt _ (by decide), by omega⟩
  have hi : i < ps.length := by omega
  obtain ⟨g0, g1, g2⟩ := cellsP_get hi
  obtain ⟨k0, k1, k2⟩ := hc i hi
  rw [add_flat]
  match t, ht with
  | 0, _ => rw [Nat.add_zero] at hj ⊢; rw [g0] at hj; rw [← hj]; exact k0
  | 1, _ => rw [g1] at hj; rw [← hj, ← Nat.add_assoc]; exact k1
  | 2, _ => rw [g2] at hj; rw [← hj, ← Nat.add_assoc]; exact k2
/-- 'append([]Part{}, l...)'. -/
theorem run_app_parts {w : World} {B m c g : Nat} {A : Option Addr} {ps : List Part3} (hm : ps.length = m) (sp : Pl w A ps) (h : w.ownsRow B 41 3 (.slice (some ⟨g, 0, none⟩) 0 0) 0 []) (hn : m ≤ 20) (hB : B ≤ w.heap.size) (ty : TypeId) :
    ∃ g' cap w', (Builtin.append_ #[39, 39] ty #[.slice (some ⟨g, 0, none⟩) 0 0, .slice A m c]).run Try.prog w = .ok (.slice (some ⟨g', 0, none⟩) m cap) w' ∧
      w'.ownsRow B 41 3 (.slice (some ⟨g', 0, none⟩) m cap) m (cellsP ps) ∧ w.grownBy w' (some g) ∧ (g' = g ∨ g' = w.heap.size) ∧ g' < w'.heap.size := by
  obtain ⟨i, hi, hz, hsz, hby⟩ := info_part
  by_cases h0 : m = 0
  · subst h0
    obtain rfl : ps = [] := List.eq_nil_of_length_eq_zero hm
    have hsrc : Src Try.prog i.size 39 (.slice A 0 c) 0 [] w := by
      refine ⟨.inl ⟨41, by kernel_rfl⟩, fun w' => by simp [Builtin.lenOf], ?_, ?_, by simp, by simp⟩
      · cases A with
        | none => simp [Builtin.firstCells]
        | some b => exact run_firstCells_some (P := Try.prog) w i.size 0 b 0 c [] (by simp) (fun j u hj => by simp at hj)
      · cases A with
        | none => simp [Builtin.firstCells]
        | some b => exact run_firstCells_some (P := Try.prog) w.drew i.size 0 b 0 c [] (by simp) (fun j u hj => by simp at hj)
    have hrun := run_append_nothing (P := Try.prog) w 39 39 ty 41 i (by kernel_rfl) hi (some ⟨g, 0, none⟩) 0 0 (Nat.le_refl _) (.slice A 0 c) hsrc
    exact ⟨g, 0, w, hrun, h, ⟨rfl, rfl, rfl, Nat.le_refl _, fun _ _ _ => rfl⟩, .inl rfl, (h.lt g rfl).2⟩
  · obtain ⟨b, off, rfl, _, hc⟩ := sp (by omega)
    obtain ⟨g', cap, w', h1, h2, h3, h4, h5⟩ := run_append_lies (P := Try.prog) w 39 ty B 41 i (.agg #[.string ⟨#[]⟩, .string ⟨#[]⟩, .bool false]) 3 40 (by kernel_rfl) hi hz hsz hby rfl (by decide) (.slice (some ⟨g, 0, none⟩) 0 0) 0 [] h ⟨b, off, none⟩ m c (cellsP ps) (by rw [cellsP_length, hm]) (pl_cells hc) (cellsP_one ps) (by omega) (by unfold maxLen; omega) (by omega) hB w.heap.size rfl
    rw [Nat.zero_add] at h1 h2
    refine ⟨g', cap, w', h1, h2, h3, ?_, h5⟩
    rcases h4 with h4 | h4
    · injection h4 with h4; exact .inl h4.symm
    · exact .inr h4
theorem step_app_parts {ops : Array Oper} {o : Oper} {a : Act} {w : World} {K : Act → World → Prop} {Q : Exit → Act → World → Prop} {E : Prop} (hgd : o.guard = none) (s x : Operand)
    (ho : o.op = .call { callee := .builtin .append, args := #[s, x], argTypes := #[39, 39] }) {B m c g : Nat} {A : Option Addr} {ps : List Part3}
    (hs : a.eval s = .slice (some ⟨g, 0, none⟩) 0 0) (hx : a.eval x = .slice A m c) (hm : ps.length = m) (sp : Pl w A ps) (h : w.ownsRow B 41 3 (.slice (some ⟨g, 0, none⟩) 0 0) 0 []) (hn : m ≤ 20) (hB : B ≤ w.heap.size)
    (hK : ∀ g' cap w', w'.ownsRow B 41 3 (.slice (some ⟨g', 0, none⟩) m cap) m (cellsP ps) → w.grownBy w' (some g) → (g' = g ∨ g' = w.heap.size) → g' < w'.heap.size → K (a.put o.dst (.slice (some ⟨g', 0, none⟩) m cap)) w') :
    if Region.wanted o (yielded ops a.tmps) = true then Oper.wp Try.prog o a w K Q else E := by
  have hw : Region.wanted o (yielded ops a.tmps) = true := by simp [Region.wanted, hgd]
  rw [if_pos hw]
  obtain ⟨g', cap, w', hr, h2, h3, h4, h5⟩ := run_app_parts (c := c) hm sp h hn hB o.type
  unfold Oper.wp execOp
  simp only [ho, resolve, invoke, builtin, Sem.run_bind, Sem.run_pure, Result.andThen_ok, List.map_toArray, List.map_cons, List.map_nil, hs, hx, hr]
  exact hK g' cap w' h2 h3 h4 h5
/-- The two copies. -/
def ApCut (ps qs : List Part3) (m1 m2 : Nat) (w : World) (v1 v2 : Value) (wx : World) : Prop :=
  ∃ g1 g2 k1 k2, v1 = .slice (some ⟨g1, 0, none⟩) m1 k1 ∧ v2 = .slice (some ⟨g2, 0, none⟩) m2 k2 ∧ g1 ≠ g2 ∧ wx.ownsRow w.heap.size 41 3 v1 m1 (cellsP ps) ∧ wx.ownsRow w.heap.size 41 3 v2 m2 (cellsP qs) ∧ Below w.heap.size w wx
end Go.Proofs.Ytoocoobgidoceaa
