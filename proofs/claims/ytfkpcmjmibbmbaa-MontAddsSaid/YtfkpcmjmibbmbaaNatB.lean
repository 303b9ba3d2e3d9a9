import Derived.Test.YtfkpcmjmibbmbaaNatA
import Derived.Laws.Externs
import Derived.Shelf.Spec.BitsCarry
namespace Go.Proofs.Ytfkpcmjmibbmbaa
open Go.RowKit
set_option linter.unusedVariables false

theorem info_u64 : (Try.prog.info? 22).map (fun i => (i.zero, i.size, i.bytes)) = some (some (.int .u64 0), 1, 8) := by kernel_rfl
theorem made_lim (n : Nat) : madeCells #[Value.int .u64 0] n = lim .u64 (List.replicate n 0) := by
  apply Array.ext'
  rw [toList_madeCells_one]
  simp [lim]
theorem run_mk (n : Nat) (hn : n ≤ 35184372088832) (w : World) :
    (Instr.makeSlice 26 (.int .i64 (n : Int)) (.int .i64 (n : Int))).run Try.prog w = .ok (.slice (some ⟨w.heap.size, 0, none⟩) n n) (w.alloc (.cells (lim .u64 (List.replicate n 0)) 22)) := by
  obtain ⟨i0, hi, hz0, hz1, hz2⟩ := info_parts info_u64
  have h := run_make (P := Try.prog) w 26 22 i0 (.int .u64 0) Try.underlying26 hi hz0 .i64 .i64 n n (by omega) (by omega) (by rw [hz2]; omega) (by omega)
  simp only [Int.toNat_natCast, hz1, Nat.mul_one] at h
  rw [h, ← made_lim]; rfl

theorem cut_at (A : Option Addr) (n c na : Nat) (w : World) (hn : n ≤ c) (hc : c ≤ maxLen) (e : min n 16 = na) :
    Calls Try.prog 34 #[.slice A n c] w fun e w' => e = .returned (.slice A na na) ∧ w = w' := by
  subst e; exact cut_any A n c w hn hc

def AddPost (L S : Nat) (w : World) (e : Ending) (w' : World) : Prop :=
  ∃ (g : Nat) (zs : List Nat) (cy : Nat), e = .returned (.tuple #[.slice (some ⟨g, 0, none⟩) L L, .int .u64 (cy : Int)]) ∧ Own w' g 22 .u64 zs ∧ zs.length = L ∧ Ok zs ∧ cy ≤ 1 ∧
    val zs + pw L * cy = S ∧ Below w.heap.size w w'

def addLo (x y c : Nat) : Nat := (x + y + c) % 18446744073709551616
def addHi (x y c : Nat) : Nat := (x + y + c) / 18446744073709551616
theorem addLo_lt (x y c : Nat) : addLo x y c < 18446744073709551616 := Nat.mod_lt _ (by decide)
/-- math/bits.Add64: the model's entry. -/
theorem add64_at (x y c : Nat) (hx : x < 18446744073709551616) (hy : y < 18446744073709551616) (hc : c ≤ 1) (w : World) :
    (callFunc 40 #[.int .u64 (x : Int), .int .u64 (y : Int), .int .u64 (c : Int)]).run Try.prog w =
      .ok (.value (.tuple #[.int .u64 (addLo x y c : Nat), .int .u64 (addHi x y c : Nat)])) w := by
  rw [run_callFunc_extern Try.func40 (by kernel_rfl) (by kernel_rfl) (by kernel_rfl) (e := add64Entry) (by kernel_rfl), run_add64 x y c (by omega) (by omega) (by omega) (by omega)]
  simp only [Result.andThen]
  unfold addLo addHi
  congr 5 <;> omega

def AddRel (xs ys : List Nat) (L g : Nat) (w : World) (i cy : Value) (wr : World) : Prop :=
  ∃ (k c : Nat) (zs : List Nat), k ≤ L ∧ i = .int .i64 (k : Int) ∧ cy = .int .u64 (c : Int) ∧ c ≤ 1 ∧ zs.length = L ∧ Ok zs ∧ Own wr g 22 .u64 zs ∧ Below w.heap.size w wr ∧
    val (zs.take k) + pw k * c = val (xs.take k) + val (ys.take k)

theorem AddRel.start (xs ys : List Nat) (L : Nat) (w : World) : AddRel xs ys L w.heap.size w (.int .i64 0) (.int .u64 0) (w.alloc (.cells (lim .u64 (List.replicate L 0)) 22)) :=
  ⟨0, 0, _, Nat.zero_le _, rfl, rfl, Nat.zero_le _, List.length_replicate, Ok.replicate L, Own.new _ _ _ _, (Below.refl _ _).alloc (Nat.le_refl _) _, by simp [val, pw]⟩

theorem AddRel.step {xs ys zs : List Nat} {L g k c : Nat} {w wr : World} (ox : Ok xs) (oy : Ok ys) (hk : k < L) (hc : c ≤ 1) (hz : zs.length = L) (oz : Ok zs) (own : Own wr g 22 .u64 zs)
    (hb : Below w.heap.size w wr) (hg : w.heap.size ≤ g) (h : val (zs.take k) + pw k * c = val (xs.take k) + val (ys.take k)) :
    AddRel xs ys L g w (.int .i64 ((k : Int) + 1)) (.int .u64 (addHi (nth xs k) (nth ys k) c : Nat)) (wr.setCell ⟨g, k, none⟩ (.int .u64 (addLo (nth xs k) (nth ys k) c : Nat))) := by
  refine ⟨k + 1, _, zs.set k (addLo (nth xs k) (nth ys k) c), by omega, rfl, rfl, add_carry (ox.getD k) (oy.getD k) hc, by simpa using hz, oz.set (addLo_lt _ _ _) k, own.set k _, hb.setCell hg _, ?_⟩
  rw [val_set_take (by omega), val_take_succ xs, val_take_succ ys, pw_succ]
  exact add_step _ _ _ _ _ _ _ h

theorem AddRel.done {xs ys zs : List Nat} {L g c : Nat} {w wr : World} (hz : zs.length = L) (hx : xs.length ≤ L) (hy : ys.length ≤ L)  (oz : Ok zs) (own : Own wr g 22 .u64 zs) (hc : c ≤ 1)
    (hb : Below w.heap.size w wr) (h : val (zs.take L) + pw L * c = val (xs.take L) + val (ys.take L)) :
    AddPost L (val xs + val ys) w (.returned (.tuple #[.slice (some ⟨g, 0, none⟩) L L, .int .u64 (c : Int)])) wr := by
  rw [val_take_all _ (by omega), val_take_all _ hx, val_take_all _ hy] at h
  exact ⟨g, zs, c, rfl, own, hz, oz, hc, h, hb⟩

end Go.Proofs.Ytfkpcmjmibbmbaa
