import Derived.Test.YtoocoobgidoceaaProg
import Derived.Test.YtoocoobgidoceaaMem
import Derived.ArgAppend
import Derived.Laws.IdiomStrings
import Derived.Laws.BytesArg
namespace Go.Proofs.Ytoocoobgidoceaa
open Go.RowKit
set_option linter.unusedVariables false

/-- A slice of bytes that the call owns: block g, from its cell 0 on; its cells up to cap are there and may be written. -/
structure Buf (w : World) (B g cap : Nat) (xs : List Nat) : Prop where
  base : B ≤ g
  lt : g < w.heap.size
  fit : xs.length ≤ cap
  cell : ∀ j, j < xs.length → w.cell? ⟨g, j, none⟩ = some (.int .u8 (nth xs j : Nat))
  spare : ∀ j, j < cap → (w.cell? ⟨g, j, none⟩).isSome = true ∧ w.frozen? ⟨g, j, none⟩ = false
def bytesN (s : ByteArray) : List Nat := s.data.toList.map (·.toNat)
theorem bytesN_length (s : ByteArray) : (bytesN s).length = s.size := by unfold bytesN; rw [List.length_map, Array.length_toList]; rfl

section
variable {P : Program} {w w' : World} {B g cap : Nat} {xs : List Nat}
theorem Buf.same (h : Buf w B g cap xs) (hk : w'.heap[g]? = w.heap[g]?) : Buf w' B g cap xs where
  base := h.base
  lt := by
    have h1 : w.heap[g]? = some (w.heap[g]'h.lt) := Array.getElem?_eq_getElem h.lt
    rw [h1] at hk
    exact (Array.getElem?_eq_some_iff.1 hk).1
  fit := h.fit
  cell := fun j hj => (World.cell?_of_block (a := ⟨g, j, none⟩) hk).trans (h.cell j hj)
  spare := fun j hj => by rw [World.cell?_of_block (a := ⟨g, j, none⟩) hk, World.frozen?_of_block (a := ⟨g, j, none⟩) hk]; exact h.spare j hj
theorem Buf.bel (h : Buf w B g cap xs) (hb : Below w.heap.size w w') : Buf w' B g cap xs := h.same (hb.block g h.lt)
theorem Buf.far (h : Buf w B g cap xs) {p : Addr} (hp : g ≠ p.block) (u : Value) : Buf (w.setCell p u) B g cap xs := h.same (Below.heap_setCell w p u g hp)
theorem Buf.alloc (h : Buf w B g cap xs) (o : Obj) : Buf (w.alloc o) B g cap xs := h.same (Below.heap_alloc w o g h.lt)
theorem nth_set2 (l : List Nat) (i x j : Nat) (h : i < l.length) : nth (l.set i x) j = if j = i then x else nth l j := by
  unfold nth
  rw [List.getD_eq_getElem?_getD, List.getD_eq_getElem?_getD, List.getElem?_set]
  by_cases e : i = j
  · subst e; simp [h]
  · rw [if_neg e, if_neg (fun k => e k.symm)]
theorem nth_append_one (l : List Nat) (x j : Nat) (h : j < l.length + 1) : nth (l ++ [x]) j = if j = l.length then x else nth l j := by
  unfold nth
  rw [List.getD_eq_getElem?_getD, List.getD_eq_getElem?_getD]
  by_cases e : j = l.length
  · subst e; simp
  · rw [if_neg e, List.getElem?_append_left (by omega)]
theorem Buf.set (h : Buf w B g cap xs) {i : Nat} (hi : i < xs.length) (x : Nat) : Buf (w.setCell ⟨g, i, none⟩ (.int .u8 (x : Int))) B g cap (xs.set i x) where
  base := h.base
  lt := by rw [World.size_setCell]; exact h.lt
  fit := by rw [List.length_set]; exact h.fit
  cell := fun j hj => by
    rw [List.length_set] at hj
    rw [nth_set2 _ _ _ _ hi]
    by_cases e : j = i
    · subst e
      rw [if_pos rfl]
      exact World.cell?_setCell_same' _ _ _ (h.spare j (Nat.lt_of_lt_of_le hj h.fit)).1
    · rw [if_neg e, World.cell?_setCell_other _ _ _ _ (by intro k; exact e (by injection k with k1 k2; exact k2.symm))]
      exact h.cell j hj
  spare := fun j hj => by
    rw [World.frozen?_setCell]
    refine ⟨?_, (h.spare j hj).2⟩
    by_cases e : j = i
    · subst e
      rw [World.cell?_setCell_same' _ _ _ (h.spare j hj).1]; rfl
    · rw [World.cell?_setCell_other _ _ _ _ (by intro k; exact e (by injection k with k1 k2; exact k2.symm))]
      exact (h.spare j hj).1
/-- A block of bytes just made. -/
theorem Buf.of_cells {cur : Array Value} {e : TypeId} {fz : Nat × Nat} (hg : w.heap[g]? = some (.cells cur e fz)) (hB : B ≤ g) (hfz : fz = (0, 0) ∨ cur.size ≤ fz.1) (hfit : xs.length ≤ cap) (hcap : cap ≤ cur.size)
    (hc : ∀ j, j < xs.length → cur[j]? = some (.int .u8 (nth xs j : Nat))) : Buf w B g cap xs where
  base := hB
  lt := (Array.getElem?_eq_some_iff.1 hg).1
  fit := hfit
  cell := fun j hj => (cell_of_row w g j cur e fz hg).trans (hc j hj)
  spare := fun j hj => by
    refine ⟨?_, ?_⟩
    · rw [cell_of_row w g j cur e fz hg, Array.getElem?_eq_getElem (by omega)]; rfl
    · unfold World.frozen?
      simp only [hg]
      rcases hfz with rfl | hfz
      · simp
      · simp; intro; omega
theorem wpList_buf_append {ops : Array Oper} {rest : List Oper} {o : Oper} {a : Act} {Q : Exit → Act → World → Prop} (hb : Buf w B g cap xs)
    (hgd : o.guard = none) (s x : Operand) (t : TypeId) (hop : o.op = Op.call { callee := Callee.builtin Builtin.append, args := #[s, x], argTypes := #[t, t] })
    (e : TypeId) (h1 : P.underlying t = some (.slice e)) (hinf : (P.info? e).map (fun i => (i.zero, i.size, i.bytes)) = some (some (.int .u8 0), 1, 1))
    (n : Nat) (hn : xs.length = n) (hs : a.eval s = .slice (some ⟨g, 0, none⟩) n cap) (ad : Addr) (c y : Nat) (hx : a.eval x = .slice (some ad) 1 c) (hc : w.cell? ad = some (.int .u8 (y : Int))) (hBw : B ≤ w.heap.size) (hlen : n < 1000000)
    (h : ∀ g' cap' w', Buf w' B g' cap' (xs ++ [y]) → Below B w w' → (∀ k, k < w.heap.size → k ≠ g → w'.heap[k]? = w.heap[k]?) → w.heap.size ≤ w'.heap.size → (g' = g ∨ w.heap.size ≤ g') →
      wpList P ops Q rest (a.put o.dst (.slice (some ⟨g', 0, none⟩) (n + 1) cap')) w') : wpList P ops Q (o :: rest) a w := by
  subst hn
  obtain ⟨i, h2, h345⟩ := Option.map_eq_some_iff.1 hinf
  have h3 : i.zero = some (.int .u8 0) := by injection h345
  have h4 : i.size = 1 := by injection h345 with _ k; injection k
  have h5 : i.bytes = 1 := by injection h345 with _ k; injection k
  have hadd : ad.add 0 = ad := by unfold Addr.add; split <;> simp_all
  refine wpList_append_arg w hgd s x t hop e i (.int .u8 0) 1 1 h1 h2 h3 h4 h5 rfl (by decide) g 0 xs.length cap (xs.map fun x : Nat => Value.int .u8 (x : Int)) hs (by simp) (fun j u hj => ?_) ad 1 c [.int .u8 (y : Int)] hx rfl (fun j u hj => ?_) (by simp [Value.oneCell']) (fun hr j hj => ?_) (by simp only [maxLen]; omega) (by omega) (fun hr => ?_) (fun hg v' w' hown hgr => ?_)
  · have hj' : j < xs.length := by
      have := (List.getElem?_eq_some_iff.1 hj).1
      simpa using this
    rw [Nat.zero_add, hb.cell j hj']
    simp [List.getElem?_eq_getElem hj'] at hj
    rw [← hj, nth_eq hj']
  · have : j = 0 := by
      have := (List.getElem?_eq_some_iff.1 hj).1
      simp at this; exact this
    subst this
    rw [hadd, hc]
    simpa using hj
  · have : j = 0 := by simpa using hj
    subst this
    have := hb.spare xs.length (by omega)
    simpa using this
  · have e1 : w.setCells g (0 + xs.length * 1) [.int .u8 (y : Int)] = w.setCell ⟨g, xs.length, none⟩ (.int .u8 (y : Int)) := by simp [World.setCells]
    rw [e1]
    have hsp := hb.spare xs.length (by omega)
    refine h g cap _ ⟨hb.base, by rw [World.size_setCell]; exact hb.lt, by simp; omega, fun j hj => ?_, fun j hj => ?_⟩ ((Below.refl B w).setCell (p := ⟨g, xs.length, none⟩) hb.base _) (fun k hk hne => Below.heap_setCell w ⟨g, xs.length, none⟩ _ k (fun e => hne e)) (by rw [World.size_setCell]; exact Nat.le_refl _) (.inl rfl)
    · have hj' : j < xs.length + 1 := by simpa using hj
      rw [nth_append_one _ _ _ hj']
      by_cases e : j = xs.length
      · subst e
        rw [if_pos rfl]
        exact World.cell?_setCell_same' _ _ _ hsp.1
      · rw [if_neg e, World.cell?_setCell_other _ _ _ _ (by intro k; exact e (by injection k with k1 k2; exact k2.symm))]
        exact hb.cell j (by omega)
    · rw [World.frozen?_setCell]
      refine ⟨?_, (hb.spare j hj).2⟩
      by_cases e : j = xs.length
      · subst e
        rw [World.cell?_setCell_same' _ _ _ hsp.1]; rfl
      · rw [World.cell?_setCell_other _ _ _ _ (by intro k; exact e (by injection k with k1 k2; exact k2.symm))]
        exact (hb.spare j hj).1
  · rcases hown with ⟨hl, ⟨rfl, h0⟩ | ⟨g', cap', cur, rfl, hg', hgc, hnc, hcm, hcs, htk⟩⟩
    · omega
    · refine h g' cap' w' (Buf.of_cells hgc (by omega) (.inl rfl) (by simp; omega) (by omega) (fun j hj => ?_)) ⟨hgr.os, hgr.tape, hgr.output, hgr.size, fun k hk => hgr.block k (by omega) (by simp)⟩ (fun k hk _ => hgr.block k hk (by simp)) hgr.size (.inr hg')
      have hj' : j < xs.length + 1 := by simpa using hj
      have e1 : cur[j]? = (cur.toList.take ((xs.length + 1) * 1))[j]? := by rw [List.getElem?_take_of_lt (by omega), Array.getElem?_toList]
      rw [e1, htk]
      have e2 : (xs.map (fun x : Nat => Value.int .u8 (x : Int))) ++ [Value.int .u8 (y : Int)] = (xs ++ [y]).map fun x : Nat => Value.int .u8 (x : Int) := by simp
      rw [e2, List.getElem?_map, List.getElem?_eq_getElem (by simpa using hj'), nth_eq (by simpa using hj')]
      rfl
end
end Go.Proofs.Ytoocoobgidoceaa
