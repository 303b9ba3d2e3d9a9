/- Chapter 24: strings.Builder's WriteString and WriteByte, walked. -/
import Derived.Test.YtdilgmokiclfaaaDoorScI
import Derived.Lib.Builder
import Derived.Lib.AppendStr
import Derived.Laws.Externs
namespace Go.Proofs.YtdilgmokiclfaaaDoor
open Go.RowKit
set_option linter.unusedVariables false
set_option maxRecDepth 100000

def BdAt (B b : Nat) (bs : List Nat) (w : World) : Prop := Lib.BuilderAt 42 5 B b (.pointer (some ⟨b, 0, none⟩)) (u8s bs) w
def Bd (B b : Nat) (bs : List Nat) (w : World) : Prop := Lib.IsBuilder 42 5 B b (u8s bs) w
/-- Every block but the builder's own and rows of bytes lies as it lay. -/
def Keep (b : Nat) (w w' : World) : Prop := ∀ (k : Nat) (cs : Array Value) (T : TypeId) (fr : Nat × Nat), w.heap[k]? = some (.cells cs T fr) → T ≠ 5 → k ≠ b → w'.heap[k]? = some (.cells cs T fr)
theorem Keep.refl (b : Nat) (w : World) : Keep b w w := fun _ _ _ _ h _ _ => h
theorem Keep.trans {b : Nat} {w w' w'' : World} (h : Keep b w w') (h2 : Keep b w' w'') : Keep b w w'' := fun k cs T fr hk hT hb => h2 k cs T fr (h k cs T fr hk hT hb) hT hb
theorem Keep.of_below {b : Nat} {w w' : World} (h : Below w.heap.size w w') : Keep b w w' := fun k cs T fr hk hT hb => (h.block k (Array.getElem?_eq_some_iff.1 hk).1).trans hk
theorem Keep.setCell {b : Nat} {w w' : World} (h : Keep b w w') (j : Nat) (v : Value) : Keep b w (w'.setCell ⟨b, j, none⟩ v) := fun k cs T fr hk hT hb => (Below.heap_setCell w' ⟨b, j, none⟩ v k hb).trans (h k cs T fr hk hT hb)
theorem Keep.grown {b B n : Nat} {w w' w2 : World} {v : Value} {xs : List Value} (h : Keep b w w') (hown : w'.ownsRow B 5 1 v n xs) (hg : w'.grownBy w2 v.ownBlock) : Keep b w w2 := fun k cs T fr hk hT hb => by
  have hk' := h k cs T fr hk hT hb
  refine (hg.block k (Array.getElem?_eq_some_iff.1 hk').1 (fun e => ?_)).trans hk'
  rcases hown.2 with ⟨rfl, _⟩ | ⟨g, cap, cur, rfl, _, hcell, _⟩
  · cases e
  · have e' : k = g := Option.some.inj e
    subst e'
    rw [hk'] at hcell
    cases hcell
    exact hT rfl
theorem info_bd : ∃ j, Tryd.prog.info? 42 = some j ∧ j.size = 2 := by
  have h : (Tryd.prog.info? 42).map (·.size) = some 2 := by kernel_rfl
  obtain ⟨j, h1, h2⟩ := Option.map_eq_some_iff.1 h
  exact ⟨j, h1, h2⟩
theorem lies_bd : liesAt Tryd.prog Tryd.prog.depth 42 (2 / Tryd.prog.cellsOf 42) 0 42 1 = true := by kernel_rfl
set_option maxHeartbeats 1000000 in
/-- copyCheck at a builder in use -/
theorem check_used (b : Nat) (w : World) (h0 : w.cell? ⟨b, 0, none⟩ = some (.pointer (some ⟨b, 0, none⟩))) :
    Calls Tryd.prog 45 #[.pointer (some ⟨b, 0, none⟩)] w fun e w' => e = .returned (.tuple #[]) ∧ w' = w := by
  obtain ⟨j, hj, hjs⟩ := info_bd
  go_enter Tryd.func45, Tryd.ntmps45
  go_wp2_with fail
  rw [Lib.run_neq_ptr_same w _ Tryd.underlying39 hj]
  go_wp2_with fail
  go_end0
  exact ⟨rfl, rfl⟩
set_option maxHeartbeats 1000000 in
/-- copyCheck at a fresh builder -/
theorem check_fresh (b : Nat) (w : World) (h0 : w.cell? ⟨b, 0, none⟩ = some (.pointer none)) (hsh : w.shape? b = some (42, 2)) (hfz : w.frozen? ⟨b, 0, none⟩ = false) :
    Calls Tryd.prog 45 #[.pointer (some ⟨b, 0, none⟩)] w fun e w' => e = .returned (.tuple #[]) ∧ w' = w.setCell ⟨b, 0, none⟩ (.pointer (some ⟨b, 0, none⟩)) := by
  obtain ⟨j, hj, hjs⟩ := info_bd
  go_enter Tryd.func45, Tryd.ntmps45
  go_wp2_with fail
  rw [Lib.run_to_unsafe w ⟨b, 0, none⟩ Tryd.underlying39 Tryd.underlying106 hj (by rw [hjs]; decide) hsh (Nat.zero_lt_succ 1)]
  simp only [Result.andThen]
  rw [Oper.upon_value]
  go_wp2_with fail
  rw [run_callFunc_extern Tryd.func67 (by kernel_rfl) (by kernel_rfl) (by kernel_rfl) (e := Extern.AbiNoEscape.same) (by kernel_rfl)]
  rw [Lib.run_noEscape]
  simp only [Result.andThen]
  rw [Oper.upon_value]
  go_wp2_with fail
  rw [Lib.run_from_unsafe w ⟨b, 0, none⟩ Tryd.underlying106 Tryd.underlying39 hj hsh lies_bd]
  simp only [Result.andThen]
  rw [Oper.upon_value]
  go_wp2_with fail
  go_end0
  exact ⟨rfl, rfl⟩
theorem check_any (B b : Nat) (bs : List Nat) (w : World) (h : Bd B b bs w) :
    Calls Tryd.prog 45 #[.pointer (some ⟨b, 0, none⟩)] w fun e w' => e = .returned (.tuple #[]) ∧ BdAt B b bs w' ∧ Below B w w' ∧ Keep b w w' := by
  rcases h with h | h
  · refine (check_fresh b w h.cell0 h.shape h.frozen0).mono ?_
    rintro e w' ⟨rfl, rfl⟩
    exact ⟨rfl, h.used _, (Below.refl B w).setCell (p := ⟨b, 0, none⟩) h.1 _, (Keep.refl b w).setCell 0 _⟩
  · refine (check_used b w h.cell0).mono ?_
    rintro e w' ⟨rfl, rfl⟩
    exact ⟨rfl, h, Below.refl B _, Keep.refl b _⟩
set_option maxHeartbeats 2000000 in
/-- WriteString -/
theorem wstr_any (B b : Nat) (bs : List Nat) (s : ByteArray) (w : World) (h : Bd B b bs w) (hlen : bs.length + s.size ≤ 100000000000000) (hBw : B ≤ w.heap.size) :
    Calls Tryd.prog 16 #[.pointer (some ⟨b, 0, none⟩), .string s] w fun e w' => (∃ v, e = .returned v) ∧ BdAt B b (bs ++ bytesN s) w' ∧ Below B w w' ∧ Keep b w w' := by
  obtain ⟨i0, hi, hz0, hz1, hz2⟩ := info_u8s
  have D1 := Lib.hid (check_any B b bs w h)
  go_enter Tryd.func16, Tryd.ntmps16
  go_wp2_with fail
  refine (D1.out).mono ?_
  rintro e w1 ⟨rfl, h1, hb1, hk1⟩
  obtain ⟨hB, v, hbk, hown, hne⟩ := h1
  rw [u8s_length] at hown
  have c0 : w1.cell? ⟨b, 0, none⟩ = some (.pointer (some ⟨b, 0, none⟩)) := by rw [Lib.cell_of_heap hbk]; rfl
  have c1 : w1.cell? ⟨b, 1, none⟩ = some v := by rw [Lib.cell_of_heap hbk]; rfl
  go_wp2_with (at_builtin; refine Lib.wpList_append_own_string _ rfl _ _ 40 9 rfl B 5 i0 (by kernel_rfl) (by kernel_rfl) hi hz0 hz1 hz2 _ _ _ rfl hown s rfl ?c3 ?c4 ?c5 ?_)
  case c3 => unfold maxLen; omega
  case c4 => omega
  case c5 => have := hb1.size; omega
  intro v' w2 hown' hgrow _
  have hlt : b < w1.heap.size := by
    rcases Nat.lt_or_ge b w1.heap.size with h' | h'
    · exact h'
    · simp [Array.getElem?_eq_none h'] at hbk
  have hb2 : w2.heap[b]? = some (.cells #[.pointer (some ⟨b, 0, none⟩), v] 42 (0, 0)) := by
    rw [hgrow.block b hlt (fun e => hne e.symm)]
    exact hbk
  have d0 : w2.cell? ⟨b, 0, none⟩ = some (.pointer (some ⟨b, 0, none⟩)) := by rw [Lib.cell_of_heap hb2]; rfl
  have d1 : w2.cell? ⟨b, 1, none⟩ = some v := by rw [Lib.cell_of_heap hb2]; rfl
  have f1 : w2.frozen? ⟨b, 1, none⟩ = false := Lib.frozen_of_heap hb2 1
  have hown2 : w2.ownsRow B 5 1 v' (bs ++ bytesN s).length (u8s (bs ++ bytesN s)) := by
    rw [strCells_eq, u8s_append] at hown'
    rw [List.length_append, bytesN_length]
    exact hown'
  obtain ⟨ao, n', cap, rfl⟩ : ∃ ao n' cap, v' = .slice ao n' cap := by
    rcases hown'.2 with ⟨hv, _⟩ | ⟨g, cap, cur, hv, _⟩
    · exact ⟨_, _, _, hv⟩
    · exact ⟨_, _, _, hv⟩
  go_wp2_with fail
  go_ret2
  refine ⟨⟨_, rfl⟩, ?_, ?_, ?_⟩
  · exact Lib.BuilderAt.put (T := 42) (e := 5) hB hb2 (bs' := u8s (bs ++ bytesN s)) (by rw [u8s_length]; exact hown2) (by decide)
  · exact (hb1.grown hgrow (by have := hb1.size; omega) (fun k hk => (hown.lt k hk).1)).setCell (p := ⟨b, 1, none⟩) hB _
  · exact (hk1.grown hown hgrow).setCell 1 _
set_option maxHeartbeats 2000000 in
/-- WriteByte -/
theorem wbyte_any (B b : Nat) (bs : List Nat) (c : Nat) (w : World) (h : Bd B b bs w) (hlen : bs.length + 1 ≤ 100000000000000) (hBw : B ≤ w.heap.size) :
    Calls Tryd.prog 18 #[.pointer (some ⟨b, 0, none⟩), .int .u8 (c : Int)] w fun e w' => (∃ v, e = .returned v) ∧ BdAt B b (bs ++ [c]) w' ∧ Below B w w' ∧ Keep b w w' := by
  obtain ⟨i0, hi, hz0, hz1, hz2⟩ := info_u8s
  have D1 := Lib.hid (check_any B b bs w h)
  go_enter Tryd.func18, Tryd.ntmps18
  go_wp2_with fail
  refine (D1.out).mono ?_
  rintro e w1 ⟨rfl, h1, hb1, hk1⟩
  obtain ⟨hB, v, hbk, hown, hne⟩ := h1
  rw [u8s_length] at hown
  have c0 : w1.cell? ⟨b, 0, none⟩ = some (.pointer (some ⟨b, 0, none⟩)) := by rw [Lib.cell_of_heap hbk]; rfl
  have c1 : w1.cell? ⟨b, 1, none⟩ = some v := by rw [Lib.cell_of_heap hbk]; rfl
  go_wp2_with (at_builtin; refine wpList_append_own _ rfl _ _ 40 rfl B 5 i0 (.int .u8 0) 1 1 (by kernel_rfl) hi hz0 hz1 hz2 rfl (by decide) _ _ _ rfl (hown.alloc _) ⟨w1.heap.size, 0, none⟩ 1 1 [.int .u8 (c : Int)] rfl rfl ?c1 ?c2 ?c3 ?c4 ?c5 ?_)
  case c1 =>
    intro j u hj
    match j, hj with
    | 0, hj => simp at hj; subst hj; simp [Addr.add]
  case c2 => intro u hu; simp at hu; subst hu; rfl
  case c3 => unfold maxLen; omega
  case c4 => omega
  case c5 => have := hb1.size; simp; omega
  intro v' w2 hown' hgrow _
  have hlt : b < w1.heap.size := by
    rcases Nat.lt_or_ge b w1.heap.size with h' | h'
    · exact h'
    · simp [Array.getElem?_eq_none h'] at hbk
  have hb2 : w2.heap[b]? = some (.cells #[.pointer (some ⟨b, 0, none⟩), v] 42 (0, 0)) := by
    rw [hgrow.block b (by simp; omega) (fun e => hne e.symm), Lib.alloc_old w1 _ b hlt]
    exact hbk
  have d0 : w2.cell? ⟨b, 0, none⟩ = some (.pointer (some ⟨b, 0, none⟩)) := by rw [Lib.cell_of_heap hb2]; rfl
  have d1 : w2.cell? ⟨b, 1, none⟩ = some v := by rw [Lib.cell_of_heap hb2]; rfl
  have f1 : w2.frozen? ⟨b, 1, none⟩ = false := Lib.frozen_of_heap hb2 1
  have hown2 : w2.ownsRow B 5 1 v' (bs ++ [c]).length (u8s (bs ++ [c])) := by
    rw [← u8s_append, List.length_append]
    exact hown'
  obtain ⟨g, cap, rfl⟩ : ∃ g cap, v' = .slice (some ⟨g, 0, none⟩) (bs.length + 1) cap := by
    rcases hown'.2 with ⟨_, h0⟩ | ⟨g, cap, cur, hv, _⟩
    · omega
    · exact ⟨g, cap, hv⟩
  go_wp2_with fail
  go_ret
  refine ⟨⟨_, rfl⟩, ?_, ?_, ?_⟩
  · exact Lib.BuilderAt.put (T := 42) (e := 5) hB hb2 (bs' := u8s (bs ++ [c])) (by rw [u8s_length]; exact hown2) (by decide)
  · exact ((hb1.alloc (by have := hb1.size; omega) _).grown hgrow (by have := hb1.size; simp; omega) (fun k hk => (hown.lt k hk).1)).setCell (p := ⟨b, 1, none⟩) hB _
  · exact ((hk1.trans (Keep.of_below ((Below.refl _ _).alloc (Nat.le_refl _) _))).grown (hown.alloc _) hgrow).setCell 1 _
end Go.Proofs.YtdilgmokiclfaaaDoor
