/- Chapter 24: append(b, s...) onto bytes of a string; the reference's Text. -/
import Derived.Test.YtdilgmokiclfaaaDoorScP
import Derived.Test.YtdilgmokiclfaaaDoorScO
import Derived.Test.YtdilgmokiclfaaaDoorSpH
namespace Go.Proofs.YtdilgmokiclfaaaDoor
open Go.RowKit
set_option linter.unusedVariables false
set_option maxRecDepth 100000

theorem Buf.snoc {w : World} {B g cap : Nat} {xs : List Nat} (hb : Buf w B g cap xs) (h : xs.length < cap) (y : Nat) : Buf (w.setCell ⟨g, xs.length, none⟩ (.int .u8 (y : Int))) B g cap (xs ++ [y]) := by
  have hsp := hb.spare xs.length h
  refine ⟨hb.base, by rw [World.size_setCell]; exact hb.lt, by simp; omega, fun j hj => ?_, fun j hj => ?_⟩
  · have hj' : j < xs.length + 1 := by simpa using hj
    rw [nth_append_one _ _ _ hj']
    by_cases e : j = xs.length
    · subst e
      rw [if_pos rfl]
      exact World.cell?_setCell_same' _ _ _ hsp.1
    · rw [if_neg e, World.cell?_setCell_other _ _ _ _ (by intro k; exact e (by injection k with k1 k2; exact k2.symm))]
      exact hb.cell j (by omega)
  · rw [World.frozen?_setCell]
    refine ⟨?_, (hb.spare j hj).2⟩
    by_cases e : j = xs.length
    · subst e
      rw [World.cell?_setCell_same' _ _ _ hsp.1]; rfl
    · rw [World.cell?_setCell_other _ _ _ _ (by intro k; exact e (by injection k with k1 k2; exact k2.symm))]
      exact (hb.spare j hj).1
theorem Buf.setCells {B g cap : Nat} : ∀ (ys : List Nat) {w : World} {xs : List Nat}, Buf w B g cap xs → xs.length + ys.length ≤ cap → Buf (w.setCells g xs.length (u8s ys)) B g cap (xs ++ ys) ∧ Below B w (w.setCells g xs.length (u8s ys))
  | [], w, xs, h, _ => by simpa [u8s, World.setCells] using ⟨h, Below.refl B w⟩
  | y :: ys, w, xs, h, hl => by
    have h1 := h.snoc (by simp at hl; omega) y
    have ih := Buf.setCells ys h1 (by simp at hl ⊢; omega)
    have e : (xs ++ [y]).length = xs.length + 1 := by simp
    rw [e] at ih
    have e2 : w.setCells g xs.length (u8s (y :: ys)) = (w.setCell ⟨g, xs.length, none⟩ (.int .u8 (y : Int))).setCells g (xs.length + 1) (u8s ys) := rfl
    rw [e2]
    refine ⟨by simpa using ih.1, ((Below.refl B w).setCell (p := ⟨g, xs.length, none⟩) h.base _).trans ih.2⟩
theorem run_buf_str {w : World} {B g cap n : Nat} {xs : List Nat} (hb : Buf w B g cap xs) (hn : xs.length = n) (s : ByteArray) (ty : TypeId) (hBw : B ≤ w.heap.size) (hlen : n + s.size ≤ 100000000) :
    ∃ g' cap' w', (Builtin.append_ #[40, 9] ty #[.slice (some ⟨g, 0, none⟩) n cap, .string s]).run Tryd.prog w = .ok (.slice (some ⟨g', 0, none⟩) (n + s.size) cap') w' ∧ Buf w' B g' cap' (xs ++ bytesN s) ∧ Below B w w' := by
  obtain ⟨i, hi, hz, hsz, hby⟩ := info_u8s
  subst hn
  have ht : Tryd.prog.underlying 40 = some (.slice 5) := by kernel_rfl
  have hu : Tryd.prog.underlying 9 = some .string := by kernel_rfl
  have hcs : Lib.strCells s = u8s (bytesN s) := strCells_eq s
  by_cases hroom : xs.length + s.size ≤ cap
  · have hf := Lib.run_firstCells_string (P := Tryd.prog) w 1 s
    have hst := run_storeCells_cells (P := Tryd.prog) g xs.length (u8s (bytesN s)) 0 w (fun j hj => by
        rw [u8s_length, bytesN_length] at hj
        exact (hb.spare (xs.length + 0 + j) (by omega)).1) (fun j hj => by
        rw [u8s_length, bytesN_length] at hj
        exact (hb.spare (xs.length + 0 + j) (by omega)).2) (u8s_one _)
    rw [← hcs] at hst
    simp only [Nat.add_zero] at hst
    obtain ⟨h1, h2⟩ := Buf.setCells (bytesN s) hb (by rw [bytesN_length]; exact hroom)
    rw [← hcs] at h1 h2
    refine ⟨g, cap, _, ?_, h1, h2⟩
    simp [Builtin.append_, run_underlying ht, run_underlying hu, sizeOf, typeInfo, hi, hsz, Builtin.lenOf, hroom, hf, Addr.add_lit, hst]
  · have holds : ∀ j u, (u8s xs)[j]? = some u → w.cell? ((⟨g, 0, none⟩ : Addr).add j) = some u := fun j u hj => by
      have hj' : j < xs.length := by
        have := (List.getElem?_eq_some_iff.1 hj).1
        rwa [u8s_length] at this
      rw [add_flat, Nat.zero_add, hb.cell j hj']
      unfold u8s at hj
      rw [List.getElem?_map, List.getElem?_eq_getElem hj'] at hj
      rw [nth_eq hj']
      exact hj
    have hr := Lib.run_append_grow_string (P := Tryd.prog) w 40 9 ty 5 i (.int .u8 0) ht hu hi hz ⟨g, 0, none⟩ xs.length cap (u8s xs) (by rw [hsz, u8s_length, Nat.mul_one]) holds s (by omega) (by omega) (by rw [hby]; exact growslice_fits (by omega) (by omega))
    refine ⟨_, _, _, hr, ?_, ((Below.refl B w).drew).alloc hBw _⟩
    rw [hcs]
    refine Buf.of_cells (heap_alloc_new w.drew _) hBw (.inl rfl) (by rw [List.length_append, bytesN_length]; exact grownCap_ge w (xs.length + s.size) cap 5) ?_ fun j hj => ?_
    · have hz1 : (Value.int IntKind.u8 0).cells.size = 1 := rfl
      have hge := grownCap_ge w (xs.length + s.size) cap 5
      simp only [Array.size_append, List.size_toArray, size_zeroCells, hz1, u8s_length, bytesN_length]
      omega
    · have e : ((u8s xs).toArray ++ (u8s (bytesN s)).toArray) = (u8s (xs ++ bytesN s)).toArray := by rw [← u8s_append]; simp
      have hl : j < (u8s (xs ++ bytesN s)).toArray.size := by simpa [u8s_length] using hj
      rw [e, Array.getElem?_append_left hl, List.getElem?_toArray]
      unfold u8s
      rw [List.getElem?_map, List.getElem?_eq_getElem hj, nth_eq hj]
      rfl
theorem wpList_buf_str {ops : Array Oper} {rest : List Oper} {o : Oper} {a : Act} {Q : Exit → Act → World → Prop} {w : World} {B g cap n : Nat} {xs : List Nat} (hb : Buf w B g cap xs) (hn : xs.length = n) (s : ByteArray)
    (hgd : o.guard = none) (sl x : Operand) (ho : o.op = .call { callee := .builtin .append, args := #[sl, x], argTypes := #[40, 9] }) (hs : a.eval sl = .slice (some ⟨g, 0, none⟩) n cap) (hx : a.eval x = .string s)
    (hBw : B ≤ w.heap.size) (hlen : n + s.size ≤ 100000000)
    (h : ∀ g' cap' w', Buf w' B g' cap' (xs ++ bytesN s) → Below B w w' → wpList Tryd.prog ops Q rest (a.put o.dst (.slice (some ⟨g', 0, none⟩) (n + s.size) cap')) w') : wpList Tryd.prog ops Q (o :: rest) a w := by
  refine wpList_plain hgd fun K hK => ?_
  obtain ⟨g', cap', w', hr, h1, h2⟩ := run_buf_str hb hn s o.type hBw hlen
  unfold Oper.wp execOp
  simp only [ho, resolve, invoke, builtin, Sem.run_bind, Sem.run_pure, Result.andThen_ok, List.map_toArray, List.map_cons, List.map_nil, hs, hx, hr]
  exact hK _ _ (h g' cap' w' h1 h2)
theorem conv_buf {w : World} {B g cap n : Nat} {xs : List Nat} (hb : Buf w B g cap xs) (hn : xs.length = n) (ob : Byt xs) :
    (convert 40 9 (.slice (some ⟨g, 0, none⟩) n cap)).run Tryd.prog w = .ok (.string (strN xs)) w :=
  conv_sl hn ob (fun hp => ⟨g, 0, rfl, hb.lt, fun i hi => by rw [Nat.zero_add]; exact hb.cell i hi⟩)
end Go.Proofs.YtdilgmokiclfaaaDoor
