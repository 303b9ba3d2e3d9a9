import Derived.Test.YtdilgmokiclfaaaDoorMontE
namespace Go.Proofs.YtdilgmokiclfaaaDoor
open Go.RowKit
set_option linter.unusedVariables false

/-- Block g holds these limbs, and behind them ex. -/
def OwnX (ex : List Value) (w : World) (g : Nat) (T : TypeId) (zs : List Nat) : Prop := w.heap[g]? = some (.cells (lim .u64 zs ++ ex.toArray) T (0, 0))
section
variable {ex : List Value} {w w' : World} {g : Nat} {T : TypeId} {zs : List Nat}
theorem OwnX.lt (h : OwnX ex w g T zs) : g < w.heap.size := (Array.getElem?_eq_some_iff.1 h).1
theorem OwnX.below (h : OwnX ex w g T zs) {B : Nat} (hb : Below B w w') (hg : g < B) : OwnX ex w' g T zs := (hb.block g hg).trans h
theorem OwnX.bel (h : OwnX ex w g T zs) (hb : Below w.heap.size w w') : OwnX ex w' g T zs := h.below hb h.lt
theorem OwnX.alloc (h : OwnX ex w g T zs) (o : Obj) : OwnX ex (w.alloc o) g T zs := (Below.heap_alloc w o g h.lt).trans h
theorem OwnX.grown {go : Nat} (h : OwnX ex w g T zs) (hg : w.grownBy w' (some go)) (hne : g ≠ go) : OwnX ex w' g T zs :=
  (hg.block g h.lt (fun e => hne (by injection e))).trans h
theorem OwnX.cell (h : OwnX ex w g T zs) {i : Nat} (hi : i < zs.length) : w.cell? ⟨g, i, none⟩ = some (.int .u64 (nth zs i : Nat)) :=
  (cell_of_row w g i _ T (0, 0) h).trans (by
    rw [Array.getElem?_append_left (by rw [lim_size]; exact hi)]; exact lim_get hi)
theorem OwnX.sl (h : OwnX ex w g T zs) : Sl w .u64 (some ⟨g, 0, none⟩) zs := fun _ => ⟨g, 0, rfl, h.lt, fun i hi => by rw [Nat.zero_add]; exact h.cell hi⟩
end
theorem lim_append (k : IntKind) (a b : List Nat) : lim k (a ++ b) = lim k a ++ lim k b := by simp [lim]
theorem Own.x {w : World} {g : Nat} {T : TypeId} {a b : List Nat} (h : Own w g T .u64 (a ++ b)) : OwnX (u64s b) w g T a := by
  have e : lim .u64 a ++ (u64s b).toArray = lim .u64 (a ++ b) := by simp [lim, u64s]
  unfold OwnX; rw [e]; exact h
theorem Own.x0 {w : World} {g : Nat} {T : TypeId} {a : List Nat} (h : Own w g T .u64 a) : OwnX [] w g T a := by
  have e : lim .u64 a ++ ([] : List Value).toArray = lim .u64 a := by simp
  unfold OwnX; rw [e]; exact h
/-- copy(out, row), both of k limbs, out a whole row of the call's own. -/
theorem wpList_copy_x {P : Program} {w : World} {ops : Array Oper} {rest : List Oper} {o : Oper} {a : Act} {Q : Exit → Act → World → Prop} (hgd : o.guard = none) (d s : Operand) (dT sT : TypeId)
    (ho : o.op = .call { callee := .builtin .copy, args := #[d, s], argTypes := #[dT, sT] }) (elem : TypeId) (hu : P.underlying dT = some (.slice elem)) (hsz : (P.info? elem).map (·.size) = some 1)
    (go k co cr : Nat) (R : Option Addr) (hd : a.eval d = .slice (some ⟨go, 0, none⟩) k co) (hs : a.eval s = .slice R k cr) (T : TypeId) (zo rs : List Nat) (ex : List Value) (own : OwnX ex w go T zo) (hzo : zo.length = k) (sr : Sl w .u64 R rs) (hr : rs.length = k) (hk : 0 < k)
    (h : ∀ w', OwnX ex w' go T rs → w.grownBy w' (some go) → wpList P ops Q rest (a.put o.dst (goInt k)) w') : wpList P ops Q (o :: rest) a w := by
  obtain ⟨b, off, rfl, _, hc⟩ := sr (by omega)
  have hlen : (rs.map fun x : Nat => Value.int .u64 (x : Int)).length = k := by rw [List.length_map, hr]
  have hcur : w.heap[go]? = some (.cells (lim .u64 zo ++ ex.toArray) T (0, 0)) := own
  refine wpList_copy_own hgd d s dT sT ho elem hu hsz go 0 k co ⟨b, off, none⟩ k cr hd hs (lim .u64 zo ++ ex.toArray) T hcur (rs.map fun x : Nat => Value.int .u64 (x : Int)) (by rw [hlen]; exact (Nat.min_self k).symm) ?_ (by rw [hlen, Array.size_append, lim_size, hzo]; omega) (fun v hv => by obtain ⟨x, _, rfl⟩ := List.mem_map.1 hv; rfl) ?_
  · intro j v hv
    rw [List.getElem?_map] at hv
    rcases Nat.lt_or_ge j rs.length with hj | hj
    · rw [List.getElem?_eq_getElem hj] at hv
      simp only [Option.map_some, Option.some.injEq] at hv
      subst hv
      rw [← nth_eq hj, ← hc j hj]
      congr 1
      unfold Addr.add
      split
      · subst j; rfl
      · rfl
    · rw [List.getElem?_eq_none hj] at hv
      cases hv
  · rw [hlen]
    have hl : ((lim .u64 zo).toList).length = k := by rw [Array.length_toList, lim_size, hzo]
    have e : ((lim .u64 zo ++ ex.toArray).toList.take 0 ++ ((rs.map fun x : Nat => Value.int .u64 (x : Int)) ++ (lim .u64 zo ++ ex.toArray).toList.drop (0 + k))).toArray = lim .u64 rs ++ ex.toArray := by
      rw [Array.toList_append, Nat.zero_add, ← hl, List.drop_left]
      simp [lim]
    rw [e]
    exact h _ (setRow_heap w go _ _ T _ hcur) ⟨rfl, rfl, rfl, by simp [World.setRow], fun i hi hne => setRow_other w go i _ (fun e => hne (by rw [e]))⟩

def RedX (ex : List Value) (go k : Nat) (T : TypeId) (V : Nat) (w : World) (e : Ending) (w' : World) : Prop :=
  ∃ zs : List Nat, e = .returned (.tuple #[]) ∧ OwnX ex w' go T zs ∧ zs.length = k ∧ Ok zs ∧ val zs = V ∧ w.grownBy w' (some go)

def ProdX (ex : List Value) (go k : Nat) (T : TypeId) (A B M : Nat) (w : World) (e : Ending) (w' : World) : Prop :=
  ∃ zs : List Nat, e = .returned (.tuple #[]) ∧ OwnX ex w' go T zs ∧ zs.length = k ∧ Ok zs ∧ val zs < M ∧ val zs * pw k % M = A * B % M ∧ w.grownBy w' (some go)

def RemX (L V : Nat) (w : World) (e : Ending) (w' : World) : Prop :=
  ∃ (g : Nat) (zs : List Nat), e = .returned (.tuple #[.slice (some ⟨g, 0, none⟩) L L, .int .i64 0]) ∧ (∃ ex, OwnX ex w' g 22 zs) ∧ w.heap.size ≤ g ∧ zs.length = L ∧ Ok zs ∧ val zs = V ∧ Below w.heap.size w w'
def ElX (k : Nat) (R : Nat → Prop) (w : World) (e : Ending) (w' : World) : Prop :=
  ∃ (g : Nat) (zs : List Nat), e = .returned (.tuple #[.slice (some ⟨g, 0, none⟩) k k, .int .i64 0]) ∧ (∃ ex, OwnX ex w' g 22 zs) ∧ w.heap.size ≤ g ∧ zs.length = k ∧ Ok zs ∧ R (val zs) ∧ Below w.heap.size w w'
end Go.Proofs.YtdilgmokiclfaaaDoor
