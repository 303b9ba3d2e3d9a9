import Derived.Test.YtdilgmokiclfaaaDoorSpAll
namespace Go.Proofs.YtdilgmokiclfaaaDoor
open Go.RowKit
set_option linter.unusedVariables false

theorem bytesN_byt (s : ByteArray) : Byt (bytesN s) := by
  intro x hx
  simp only [bytesN, List.mem_map] at hx
  obtain ⟨b, _, rfl⟩ := hx
  exact b.toNat_lt
/-- '[]byte(s)', laid. -/
theorem buf_bytes (s : ByteArray) (w : World) (e : TypeId) (cap : Nat) (hc : s.size ≤ cap) :
    Buf (w.drew.alloc (.cells (bytesRow s cap) e ((bytesRow s cap).size, (bytesRow s cap).size + 1))) w.heap.size w.heap.size cap (bytesN s) := by
  refine Buf.of_cells (heap_alloc_new w.drew _) (Nat.le_refl _) (.inr (Nat.le_refl _)) (by rw [bytesN_length]; exact hc) ?_ fun j hj => ?_
  · unfold bytesRow
    rw [Array.size_append, Array.size_map, Array.size_replicate]
    show cap ≤ s.size + (cap - s.size)
    omega
  · rw [bytesN_length] at hj
    have hj' : j < s.data.size := hj
    rw [bytesRow_at s cap j hj']
    unfold bytesN nth
    rw [List.getD_eq_getElem?_getD, List.getElem?_map, Array.getElem?_toList, Array.getElem?_eq_getElem hj']
    rfl

def strB (xs : List Nat) : ByteArray := strOfNums (xs.map fun x : Nat => (x : Int))
def PadRel (bs : List Nat) (n : Nat) (B : Nat) (w : World) (v : Value) (wr : World) : Prop :=
  ∃ k m g cap : Nat, k ≤ padK n ∧ n + 1 + k = m ∧ v = .slice (some ⟨g, 0, none⟩) m cap ∧ Buf wr B g cap (padX bs k) ∧ Below B w wr
theorem nth_drop2 (l : List Nat) (o j : Nat) : nth (l.drop o) j = nth l (o + j) := by
  unfold nth
  rw [List.getD_eq_getElem?_getD, List.getD_eq_getElem?_getD, List.getElem?_drop]
theorem or_u8 (x : Nat) (h : x = 0 ∨ x = 1) : bits .or .u8 (x : Int) 128 = ((x + 128 : Nat) : Int) := by
  rcases h with rfl | rfl <;> decide
theorem info_u8 : (Tryd.prog.info? 5).map (fun i => (i.zero, i.size, i.bytes)) = some (some (.int .u8 0), 1, 1) := by kernel_rfl
theorem made_lim8 (n : Nat) : madeCells #[Value.int .u8 0] n = lim .u8 (List.replicate n 0) := by
  apply Array.ext'
  rw [toList_madeCells_one]
  simp [lim]
theorem run_mk8 (n : Nat) (hn : n ≤ 1000000) (w : World) :
    (Instr.makeSlice 40 (.int .i64 (n : Int)) (.int .i64 (n : Int))).run Tryd.prog w = .ok (.slice (some ⟨w.heap.size, 0, none⟩) n n) (w.alloc (.cells (lim .u8 (List.replicate n 0)) 5)) := by
  obtain ⟨i0, hi, hz0, hz1, hz2⟩ := info_parts info_u8
  have h := run_make (P := Tryd.prog) w 40 5 i0 (.int .u8 0) Tryd.underlying40 hi hz0 .i64 .i64 n n (by omega) (by omega) (by rw [hz2]; omega) (by omega)
  simp only [Int.toNat_natCast, hz1, Nat.mul_one] at h
  rw [h, ← made_lim8]; rfl
theorem conv_own {w : World} {b : Nat} {l : List Nat} {n : Nat} (h : Own w b 5 .u8 l) (hl : l.length = n) : (convert 40 9 (.slice (some ⟨b, 0, none⟩) n n)).run Tryd.prog w = .ok (.string (strB l)) w := by
  refine run_convert_bytes_arg (P := Tryd.prog) w 40 5 (by kernel_rfl) (by kernel_rfl) b 0 n n (l.map fun x : Nat => (x : Int)) (by rw [List.length_map, hl]) (fun i hi => ?_) 9 (by kernel_rfl)
  rw [Nat.zero_add, h.cell (by omega)]
  congr 2
  unfold nth
  rw [List.getD_eq_getElem?_getD, List.getD_eq_getElem?_getD, List.getElem?_map, List.getElem?_eq_getElem (by omega)]
  rfl
theorem conv_bytes (s : ByteArray) (w : World) : ∃ cap W0, (convert 9 40 (.string s)).run Tryd.prog w = .ok (.slice (some ⟨w.heap.size, 0, none⟩) s.size cap) W0 ∧ Buf W0 w.heap.size w.heap.size cap (bytesN s) ∧ Below w.heap.size w W0 :=
  ⟨_, _, run_bytes_of_string (P := Tryd.prog) w 9 40 5 s (by kernel_rfl) (by kernel_rfl) (by kernel_rfl), buf_bytes s w 5 _ (grownCap_ge w s.size 0 5), ((Below.refl _ _).drew).alloc (Nat.le_refl _) _⟩
end Go.Proofs.YtdilgmokiclfaaaDoor
