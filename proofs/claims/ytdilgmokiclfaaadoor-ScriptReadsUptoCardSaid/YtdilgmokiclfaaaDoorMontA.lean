import Derived.Test.YtdilgmokiclfaaaDoorNatAll
import Derived.Test.YtdilgmokiclfaaaDoorMontNeg
import Derived.Laws.CopyOwn
import Derived.Maps.AppendAt
namespace Go.Proofs.YtdilgmokiclfaaaDoor
open Go.RowKit
set_option linter.unusedVariables false

/-- A row that is turned limb by limb, with a limb carried on: Q k (what the first k limbs say) (what is carried); the rest stands as it stood in zs0. -/
def RwRel (Q : Nat → Nat → Nat → Prop) (zs0 : List Nat) (n L g : Nat) (T : TypeId) (w : World) (i cy : Value) (wr : World) : Prop :=
  ∃ (k c : Nat) (zs : List Nat), k ≤ n ∧ i = .int .i64 (k : Int) ∧ cy = .int .u64 (c : Int) ∧ c < 18446744073709551616 ∧ zs.length = L ∧ Ok zs ∧ Own wr g T .u64 zs ∧ Below w.heap.size w wr ∧
    Q k (val (zs.take k)) c ∧ ∀ t, k ≤ t → nth zs t = nth zs0 t
theorem RwRel.step {Q : Nat → Nat → Nat → Prop} {n L g k v c' : Nat} {T : TypeId} {zs zs0 : List Nat} {iv cv : Int} {w wr wr' : World} (hk : k < n) (hL : n ≤ L) (hz : zs.length = L) (oz : Ok zs) (own : Own wr g T .u64 zs)
    (hb : Below w.heap.size w wr) (hg : w.heap.size ≤ g) (hkeep : ∀ t, k ≤ t → nth zs t = nth zs0 t) (ew : wr.setCell ⟨g, k, none⟩ (.int .u64 iv) = wr') (e1 : iv = (v : Nat)) (hv : v < 18446744073709551616) (e2 : cv = (c' : Nat)) (hc : c' < 18446744073709551616)
    (h : Q (k + 1) (val (zs.take k) + pw k * v) c') : RwRel Q zs0 n L g T w (.int .i64 ((k : Int) + 1)) (.int .u64 cv) wr' := by
  subst ew e1
  refine ⟨k + 1, c', zs.set k v, by omega, rfl, int_eq e2, hc, by simpa using hz, oz.set hv k, own.set k _, hb.setCell hg _, ?_, ?_⟩
  · rw [val_set_take (by omega)]; exact h
  · intro t ht
    rw [nth_set (by omega), if_neg (by omega)]
    exact hkeep t (by omega)

/-- Only block go, and what is new, has turned. -/
theorem grown_of_below {w w1 w' : World} {g : Nat} (h : Below w.heap.size w w1) (hg : w1.grownBy w' (some g)) : w.grownBy w' (some g) :=
  ⟨hg.os.trans h.os, hg.tape.trans h.tape, hg.output.trans h.output, Nat.le_trans h.size hg.size, fun i hi hne => (hg.block i (Nat.lt_of_lt_of_le hi h.size) hne).trans (h.block i hi)⟩
theorem grown_set {w w1 : World} {g i : Nat} (h : Below w.heap.size w w1) (v : Value) : w.grownBy (w1.setCell ⟨g, i, none⟩ v) (some g) :=
  ⟨h.os, h.tape, h.output, by have := h.size; simpa [World.setCell] using this, fun k hk hne => (Below.heap_setCell w1 _ v k (fun e => hne (by rw [e]))).trans (h.block k hk)⟩
theorem Own.grown {w w' : World} {g go : Nat} {T : TypeId} {k : IntKind} {zs : List Nat} (h : Own w g T k zs) (hg : w.grownBy w' (some go)) (hne : g ≠ go) : Own w' g T k zs :=
  (hg.block g h.lt (fun e => hne (by injection e))).trans h
/-- copy(out, row), both of k limbs, out a whole row of the call's own. -/
theorem wpList_copy_lim {P : Program} {w : World} {ops : Array Oper} {rest : List Oper} {o : Oper} {a : Act} {Q : Exit → Act → World → Prop} (hgd : o.guard = none) (d s : Operand) (dT sT : TypeId)
    (ho : o.op = .call { callee := .builtin .copy, args := #[d, s], argTypes := #[dT, sT] }) (elem : TypeId) (hu : P.underlying dT = some (.slice elem)) (hsz : (P.info? elem).map (·.size) = some 1)
    (go k co cr : Nat) (R : Option Addr) (hd : a.eval d = .slice (some ⟨go, 0, none⟩) k co) (hs : a.eval s = .slice R k cr) (T : TypeId) (zo rs : List Nat) (own : Own w go T .u64 zo) (hzo : zo.length = k) (sr : Sl w .u64 R rs) (hr : rs.length = k) (hk : 0 < k)
    (h : ∀ w', Own w' go T .u64 rs → w.grownBy w' (some go) → wpList P ops Q rest (a.put o.dst (goInt k)) w') : wpList P ops Q (o :: rest) a w := by
  obtain ⟨b, off, rfl, _, hc⟩ := sr (by omega)
  have hlen : (rs.map fun x : Nat => Value.int .u64 (x : Int)).length = k := by rw [List.length_map, hr]
  have hcur : w.heap[go]? = some (.cells (lim .u64 zo) T (0, 0)) := own
  refine wpList_copy_own hgd d s dT sT ho elem hu hsz go 0 k co ⟨b, off, none⟩ k cr hd hs (lim .u64 zo) T hcur (rs.map fun x : Nat => Value.int .u64 (x : Int)) (by rw [hlen]; exact (Nat.min_self k).symm) ?_ (by rw [hlen, lim_size, hzo]; omega) (fun v hv => by obtain ⟨x, _, rfl⟩ := List.mem_map.1 hv; rfl) ?_
  · intro j v hv
    rw [List.getElem?_map] at hv
    rcases Nat.lt_or_ge j rs.length with hj | hj
    · rw [List.getElem?_eq_getElem hj] at hv
      simp only [Option.map_some, Option.some.injEq] at hv
      subst hv
      rw [← nth_eq hj, ← hc j hj]
      congr 1
      unfold Addr.add
      split
      · subst j; rfl
      · rfl
    · rw [List.getElem?_eq_none hj] at hv
      cases hv
  · rw [hlen]
    have e : ((lim .u64 zo).toList.take 0 ++ ((rs.map fun x : Nat => Value.int .u64 (x : Int)) ++ (lim .u64 zo).toList.drop (0 + k))).toArray = lim .u64 rs := by
      have hd0 : (lim .u64 zo).toList.drop (0 + k) = [] := List.drop_eq_nil_of_le (by rw [Array.length_toList, lim_size, hzo]; omega)
      rw [hd0]; simp [lim]
    rw [e]
    exact h _ (setRow_heap w go _ _ T _ hcur) ⟨rfl, rfl, rfl, by simp [World.setRow], fun i hi hne => setRow_other w go i _ (fun e => hne (by rw [e]))⟩

theorem red_case {R M Z P more cy : Nat} (hc : cy ≤ 1) (h : Z + M = R + P * cy) (hR : R < P) (hM : M < P) (hZ : Z < P) (hT : R + P * more < 2 * M) :
    (cy ≤ more → M ≤ R + P * more ∧ Z = R + P * more - M) ∧ (¬ cy ≤ more → ¬ M ≤ R + P * more ∧ R = R + P * more) := by
  have h1 : more = 0 ∨ more = 1 := by
    rcases Nat.lt_or_ge more 2 with h | h
    · omega
    · have := Nat.mul_le_mul_left P h
      omega
  have h2 : cy = 0 ∨ cy = 1 := by omega
  rcases h1 with rfl | rfl <;> rcases h2 with rfl | rfl <;> refine ⟨fun h3 => ?_, fun h3 => ?_⟩ <;> first | (exfalso; omega) | (constructor <;> omega)

/-- Less the modulus, once, if it is not below it. -/
def redN (T M : Nat) : Nat := if M ≤ T then T - M else T
def RedPost (go k : Nat) (T : TypeId) (V : Nat) (w : World) (e : Ending) (w' : World) : Prop :=
  ∃ zs : List Nat, e = .returned (.tuple #[]) ∧ Own w' go T .u64 zs ∧ zs.length = k ∧ Ok zs ∧ val zs = V ∧ w.grownBy w' (some go)

end Go.Proofs.YtdilgmokiclfaaaDoor
