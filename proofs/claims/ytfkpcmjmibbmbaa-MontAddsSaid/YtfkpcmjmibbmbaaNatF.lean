import Derived.Test.YtfkpcmjmibbmbaaNatE
import Derived.Shelf.Bits.Mul64
namespace Go.Proofs.Ytfkpcmjmibbmbaa
open Go.RowKit
set_option linter.unusedVariables false

def mulHi (x y : Nat) : Nat := x * y / 18446744073709551616
def mulLo (x y : Nat) : Nat := x * y % 18446744073709551616

set_option maxHeartbeats 1000000 in
/-- math/bits.Mul64 -/
theorem mul64_at (x y : Nat) (hx : x < 18446744073709551616) (hy : y < 18446744073709551616) (w : World) :
    Calls Try.prog 39 #[.int .u64 (x : Int), .int .u64 (y : Int)] w fun e w' => e = .returned (.tuple #[.int .u64 (mulHi x y : Nat), .int .u64 (mulLo x y : Nat)]) ∧ w = w' := by
  obtain ⟨bd, bt, bw, hhi⟩ := Lib.mul64_hi x y hx hy
  have ba := Lib.half_mul_le (a := x / 4294967296) (b := y / 4294967296) (by omega) (by omega)
  have bb := Lib.half_mul_le (a := x / 4294967296) (b := y % 4294967296) (by omega) (by omega)
  have bc := Lib.half_mul_le (a := x % 4294967296) (b := y / 4294967296) (by omega) (by omega)
  have ba' : x / 4294967296 * (y / 4294967296) < 18446744073709551616 := by omega
  have bb' : x / 4294967296 * (y % 4294967296) < 18446744073709551616 := by omega
  have bc' : x % 4294967296 * (y / 4294967296) < 18446744073709551616 := by omega
  have bh1 : x / 4294967296 * (y / 4294967296) + (x / 4294967296 * (y % 4294967296) + x % 4294967296 * (y % 4294967296) / 4294967296) / 4294967296 < 18446744073709551616 := by omega
  have bh : x / 4294967296 * (y / 4294967296) + (x / 4294967296 * (y % 4294967296) + x % 4294967296 * (y % 4294967296) / 4294967296) / 4294967296 + ((x / 4294967296 * (y % 4294967296) + x % 4294967296 * (y % 4294967296) / 4294967296) % 4294967296 + x % 4294967296 * (y / 4294967296)) / 4294967296 < 18446744073709551616 := by omega
  have H := Lib.hid hhi
  clear hhi
  go_enter Try.func39, Try.ntmps39
  go_wp2
  simp only [Mul64.maskN x hx, Mul64.maskN y hy, Mul64.divN, Mul64.mulN, Mul64.addN, Mul64.wrapN _ bd, Mul64.wrapN _ bb', Mul64.wrapN _ bt, Mul64.maskN _ bt, Mul64.wrapN _ bc', Mul64.wrapN _ bw, Mul64.wrapN _ ba', Mul64.wrapN _ bh1, Mul64.wrapN _ bh, Mul64.wrapM (x * y)]
  rw [H.out]
  go_ret2
  exact ⟨rfl, rfl⟩

/-- A row handed back. -/
def RowPost (L V : Nat) (w : World) (e : Ending) (w' : World) : Prop :=
  ∃ (g : Nat) (zs : List Nat), e = .returned (.slice (some ⟨g, 0, none⟩) L L) ∧ Own w' g 22 .u64 zs ∧ zs.length = L ∧ Ok zs ∧ val zs = V ∧ Below w.heap.size w w'

/-- A row being made, limb by limb, with a carry: what stands in the first k limbs, and the carry, is F k. -/
def MkRel (F : Nat → Nat) (L g : Nat) (w : World) (i cy : Value) (wr : World) : Prop :=
  ∃ (k c : Nat) (zs : List Nat), k ≤ L ∧ i = .int .i64 (k : Int) ∧ cy = .int .u64 (c : Int) ∧ c ≤ 1 ∧ zs.length = L ∧ Ok zs ∧ Own wr g 22 .u64 zs ∧ Below w.heap.size w wr ∧
    val (zs.take k) + pw k * c = F k
theorem MkRel.start {F : Nat → Nat} {c : Nat} (hc : c ≤ 1) (L : Nat) (w : World) (h : c = F 0) : MkRel F L w.heap.size w (.int .i64 0) (.int .u64 (c : Int)) (w.alloc (.cells (lim .u64 (List.replicate L 0)) 22)) :=
  ⟨0, c, _, Nat.zero_le _, rfl, rfl, hc, List.length_replicate, Ok.replicate L, Own.new _ _ _ _, (Below.refl _ _).alloc (Nat.le_refl _) _, by simp [val, pw, h]⟩
theorem MkRel.step {F : Nat → Nat} {L g k S : Nat} {zs : List Nat} {v cv : Int} {w wr wr' : World} (hk : k < L) (hz : zs.length = L) (oz : Ok zs) (own : Own wr g 22 .u64 zs)
    (hb : Below w.heap.size w wr) (hg : w.heap.size ≤ g) (ew : wr.setCell ⟨g, k, none⟩ (.int .u64 v) = wr') (e1 : v = (S % 18446744073709551616 : Nat)) (e2 : cv = (S / 18446744073709551616 : Nat))
    (hS : S / 18446744073709551616 ≤ 1) (h : val (zs.take k) + pw k * S = F (k + 1)) :
    MkRel F L g w (.int .i64 ((k : Int) + 1)) (.int .u64 cv) wr' := by
  subst ew e1
  refine ⟨k + 1, _, zs.set k (S % 18446744073709551616), by omega, rfl, int_eq e2, hS, by simpa using hz, oz.set (Nat.mod_lt _ (by decide)) k, own.set k _, hb.setCell hg _, ?_⟩
  rw [val_set_take (by omega), pw_succ, ← h, Nat.add_assoc, Nat.mul_comm 18446744073709551616, Nat.mul_assoc, ← Nat.mul_add, Nat.mod_add_div]
theorem MkRel.done {F : Nat → Nat} {L g c : Nat} {zs : List Nat} {w wr : World} (hz : zs.length = L) (oz : Ok zs) (own : Own wr g 22 .u64 zs)
    (hb : Below w.heap.size w wr) (h : val (zs.take L) + pw L * c = F L) : RowPost L (F L % pw L) w (.returned (.slice (some ⟨g, 0, none⟩) L L)) wr := by
  have hv := val_lt oz
  rw [hz] at hv
  rw [val_take_all _ (by omega)] at h
  exact ⟨g, zs, rfl, own, hz, oz, by rw [← h, Nat.add_mul_mod_self_left, Nat.mod_eq_of_lt hv], hb⟩

end Go.Proofs.Ytfkpcmjmibbmbaa
