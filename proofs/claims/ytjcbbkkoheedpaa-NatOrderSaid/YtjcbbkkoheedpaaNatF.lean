import Derived.Test.YtjcbbkkoheedpaaNatE
import Derived.Shelf.Bits.Mul64
namespace Go.Proofs.Ytjcbbkkoheedpaa
open Go.RowKit
set_option linter.unusedVariables false

def mulHi (x y : Nat) : Nat := x * y / 18446744073709551616
def mulLo (x y : Nat) : Nat := x * y % 18446744073709551616

set_option maxHeartbeats 1000000 in
/-- math/bits.Mul64 -/
theorem mul64_at (x y : Nat) (hx : x < 18446744073709551616) (hy : y < 18446744073709551616) (w : World) :
    Calls Try.prog 39 #[.int .u64 (x : Int), .int .u64 (y : Int)] w fun e w' => e = .returned (.tuple #[.int .u64 (mulHi x y : Nat), .int .u64 (mulLo x y : Nat)]) ∧ w = w' := by
  obtain ⟨bd, bt, bw, hhi⟩ := Lib.mul64_hi x y hx hy
  have ba := Lib.half_mul_le (a := x / 4294967296) (b := y / 4294967296) (by omega) (by omega)
  have bb := Lib.half_mul_le (a := x / 4294967296) (b := y % 4294967296) (by omega) (by omega)
  have bc := Lib.half_mul_le (a := x % 4294967296) (b := y / 4294967296) (by omega) (by omega)
  have ba' : x / 4294967296 * (y / 4294967296) < 18446744073709551616 := by omega
  have bb' : x / 4294967296 * (y % 4294967296) < 18446744073709551616 := by omega
  have bc' : x % 4294967296 * (y / 4294967296) < 18446744073709551616 := by omega
  have bh1 : x / 4294967296 * (y / 4294967296) + (x / 4294967296 * (y % 4294967296) + x % 4294967296 * (y % 4294967296) / 4294967296) / 4294967296 < 18446744073709551616 := by omega
  have bh : x / 4294967296 * (y / 4294967296) + (x / 4294967296 * (y % 4294967296) + x % 4294967296 * (y % 4294967296) / 4294967296) / 4294967296 + ((x / 4294967296 * (y % 4294967296) + x % 4294967296 * (y % 4294967296) / 4294967296) % 4294967296 + x % 4294967296 * (y / 4294967296)) / 4294967296 < 18446744073709551616 := by omega
  have H := Lib.hid hhi
  clear hhi
  go_enter Try.func39, Try.ntmps39
  go_wp2
  simp only [Mul64.maskN x hx, Mul64.maskN y hy, Mul64.divN, Mul64.mulN, Mul64.addN, Mul64.wrapN _ bd, Mul64.wrapN _ bb', Mul64.wrapN _ bt, Mul64.maskN _ bt, Mul64.wrapN _ bc', Mul64.wrapN _ bw, Mul64.wrapN _ ba', Mul64.wrapN _ bh1, Mul64.wrapN _ bh, Mul64.wrapM (x * y)]
  rw [H.out]
  go_ret2
  exact ⟨rfl, rfl⟩

/-- A row handed back. -/
def RowPost (L V : Nat) (w : World) (e : Ending) (w' : World) : Prop :=
  ∃ (g : Nat) (zs : List Nat), e = .returned (.slice (some ⟨g, 0, none⟩) L L) ∧ Own w' g 23 .u64 zs ∧ zs.length = L ∧ Ok zs ∧ val zs = V ∧ Below w.heap.size w w'

/-- A row being made, limb by limb, with a carry: what stands in the first k limbs, and the carry, is F k. -/
def MkRel (F : Nat → Nat) (L g : Nat) (w : World) (i cy : Value) (wr : World) : Prop :=
  ∃ (k c : Nat) (zs : List Nat), k ≤ L ∧ i = .int .i64 (k : Int) ∧ cy = .int .u64 (c : Int) ∧ c ≤ 1 ∧ zs.length = L ∧ Ok zs ∧ Own wr g 23 .u64 zs ∧ Below w.heap.size w wr ∧
    val (zs.take k) + pw k * c = F k
theorem MkRel.start {F : Nat → Nat} {c : Nat} (hc : c ≤ 1) (L : Nat) (w : World) (h : c = F 0) : MkRel F L w.heap.size w (.int .i64 0) (.int .u64 (c : Int)) (w.alloc (.cells (lim .u64 (List.replicate L 0)) 23)) :=
  ⟨0, c, _, Nat.zero_le _, rfl, rfl, hc, List.length_replicate, Ok.replicate L, Own.new _ _ _ _, (Below.refl _ _).alloc (Nat.le_refl _) _, by simp [val, pw, h]⟩
theorem MkRel.step {F : Nat → Nat} {L g k S : Nat} {zs : List Nat} {v cv : Int} {w wr wr' : World} (hk : k < L) (hz : zs.length = L) (oz : Ok zs) (own : Own wr g 23 .u64 zs)
    (hb : Below w.heap.size w wr) (hg : w.heap.size ≤ g) (ew : wr.setCell ⟨g, k, none⟩ (.int .u64 v) = wr') (e1 : v = (S % 18446744073709551616 : Nat)) (e2 : cv = (S / 18446744073709551616 : Nat))
    (hS : S / 18446744073709551616 ≤ 1) (h : val (zs.take k) + pw k * S = F (k + 1)) :
    MkRel F L g w (.int .i64 ((k : Int) + 1)) (.int .u64 cv) wr' := by
  subst ew e1
  refine ⟨k + 1, _, zs.set k (S % 18446744073709551616), by omega, rfl, int_eq e2, hS, by simpa using hz, oz.set (Nat.mod_lt _ (by decide)) k, own.set k _, hb.setCell hg _, ?_⟩
  rw [val_set_take (by omega), pw_succ, ← h, Nat.add_assoc, Nat.mul_comm 18446744073709551616, Nat.mul_assoc, ← Nat.mul_add, Nat.mod_add_div]
theorem MkRel.done {F : Nat → Nat} {L g c : Nat} {zs : List Nat} {w wr : World} (hz : zs.length = L) (oz : Ok zs) (own : Own wr g 23 .u64 zs)
    (hb : Below w.heap.size w wr) (h : val (zs.take L) + pw L * c = F L) : RowPost L (F L % pw L) w (.returned (.slice (some ⟨g, 0, none⟩) L L)) wr := by
  have hv := val_lt oz
  rw [hz] at hv
  rw [val_take_all _ (by omega)] at h
  exact ⟨g, zs, rfl, own, hz, oz, by rw [← h, Nat.add_mul_mod_self_left, Nat.mod_eq_of_lt hv], hb⟩

set_option maxHeartbeats 400000 in
/-- chirographref01.double -/
theorem double_any (A : Option Addr) (n c : Nat) (b : Int) (xs : List Nat) (w : World) (hn : n ≤ 1000) (hx : xs.length = n) (ox : Ok xs) (sx : Sl w .u64 A xs) (hb0 : 0 ≤ b) (hb1 : b ≤ 1) :
    Calls Try.prog 40 #[.slice A n c, .int .u64 b] w (RowPost n ((2 * val xs + b.toNat) % pw n) w) := by
  obtain ⟨c0, rfl⟩ := Int.eq_ofNat_of_zero_le hb0
  rw [Int.toNat_natCast]
  have hmk := run_mk n (by omega)
  have Hx := Lib.hid hx
  have hvx : val (xs.take n) = val xs := val_take_all _ (by omega)
  have Hvx := Lib.hid hvx
  clear hx hvx
  go_enter Try.func40, Try.ntmps40
  go_wp2
  clear hmk
  go_loopw [13, 1] (MkRel (fun k => 2 * val (xs.take k) + c0) n w.heap.size w) (fun i _ _ => n - (intOf i).toNat)
  case atStart => exact MkRel.start (by omega) n w (by simp [val])
  case round =>
    obtain ⟨k, cy, zs, hk, rfl, rfl, hcy, hz, oz, own, hb, hval⟩ := hrel
    have Hv := Lib.hid hval
    have Hz := Lib.hid hz
    have Hown := Lib.hid own
    clear hval
    by_cases hlt : k < n
    · obtain ⟨ba, off, rfl, hlb, hcb⟩ := (sx.bel hb) (by have := Hx.out; omega)
      have hc1 := hcb k (by have := Hx.out; omega)
      have hcell := own.cell (i := k) (by omega)
      have hfr := own.frozen k
      have bx := ox.getD k
      clear hcb own hz sx
      go_wp2
      refine ⟨MkRel.step (S := 2 * nth xs k + cy) hlt Hz.out oz Hown.out hb (Nat.le_refl _) rfl ?_ ?_ (by omega) ?_, by simp [intOf]; omega⟩
      · rw [IntKind.wrap_u64, IntKind.wrap_u64]; omega
      · omega
      · show _ = 2 * val (xs.take (k + 1)) + c0
        rw [val_take_succ, Nat.mul_add, Nat.mul_add]
        have h := Hv.out
        have e := Nat.mul_left_comm (pw k) 2 (nth xs k)
        simp only at h
        omega
    · obtain rfl : k = n := by omega
      clear own hz
      go_wp2
      go_ret
      have := MkRel.done (F := fun k => 2 * val (xs.take k) + c0) Hz.out oz Hown.out hb Hv.out
      simp only [Hvx.out] at this
      exact this

set_option maxHeartbeats 800000 in
/-- chirographref01.plus -/
theorem plus_any (A B : Option Addr) (n c m d : Nat) (xs ys : List Nat) (w : World) (hn : n ≤ 1000) (hm : m ≤ 1000) (hx : xs.length = n) (hy : ys.length = m) (hmn : m ≤ n) (ox : Ok xs) (oy : Ok ys) (sx : Sl w .u64 A xs) (sy : Sl w .u64 B ys) :
    Calls Try.prog 41 #[.slice A n c, .slice B m d] w (RowPost n ((val xs + val ys) % pw n) w) := by
  have hmk := run_mk n (by omega)
  have Hx := Lib.hid hx
  have Hy := Lib.hid hy
  have hvx : val (xs.take n) = val xs := val_take_all _ (by omega)
  have hvy : val (ys.take n) = val ys := val_take_all _ (by omega)
  have Hvx := Lib.hid hvx
  have Hvy := Lib.hid hvy
  clear hx hvx hy hvy
  go_enter Try.func41, Try.ntmps41
  go_wp2
  clear hmk
  go_loopw [18, 6] (MkRel (fun k => val (xs.take k) + val (ys.take k)) n w.heap.size w) (fun i _ _ => n - (intOf i).toNat)
  case atStart => exact MkRel.start (c := 0) (by omega) n w (by simp [val])
  case round =>
    obtain ⟨k, cy, zs, hk, rfl, rfl, hcy, hz, oz, own, hb, hval⟩ := hrel
    have Hv := Lib.hid hval
    have Hz := Lib.hid hz
    have Hown := Lib.hid own
    clear hval
    by_cases hlt : k < n
    · obtain ⟨ba, off, rfl, hlb, hcb⟩ := (sx.bel hb) (by have := Hx.out; omega)
      have hc1 := hcb k (by have := Hx.out; omega)
      have hcell := own.cell (i := k) (by omega)
      have hfr := own.frozen k
      have bx := ox.getD k
      have fin : ∀ v cv : Int, v = ((nth xs k + nth ys k + cy) % 18446744073709551616 : Nat) → cv = ((nth xs k + nth ys k + cy) / 18446744073709551616 : Nat) →
          MkRel (fun k => val (xs.take k) + val (ys.take k)) n w.heap.size w (.int .i64 ((k : Int) + 1)) (.int .u64 cv) (wr.setCell ⟨w.heap.size, k, none⟩ (.int .u64 v)) := by
        intro v cv e1 e2
        have by' := oy.getD k
        refine MkRel.step (S := nth xs k + nth ys k + cy) hlt Hz.out oz Hown.out hb (Nat.le_refl _) rfl e1 e2 (by omega) ?_
        show _ = val (xs.take (k + 1)) + val (ys.take (k + 1))
        rw [val_take_succ, val_take_succ, Nat.mul_add, Nat.mul_add]
        have h := Hv.out
        simp only at h
        omega
      have Fin := Lib.hid fin
      clear hcb own hz sx fin
      by_cases hkm : k < m
      · obtain ⟨bb, off', rfl, hlb', hcb'⟩ := (sy.bel hb) (by have := Hy.out; omega)
        have hc2 := hcb' k (by have := Hy.out; omega)
        have by' := oy.getD k
        clear hcb' sy
        go_wp2
        all_goals simp only [IntKind.wrap_u64] at *
        all_goals exact ⟨Fin.out _ _ (by omega) (by omega), by simp [intOf]; omega⟩
      · have hy0 : nth ys k = 0 := nth_ge (by have := Hy.out; omega)
        have Hy0 := Lib.hid hy0
        clear hy0 sy
        go_wp2
        all_goals have hy0 := Hy0.out
        all_goals simp only [IntKind.wrap_u64] at *
        all_goals exact ⟨Fin.out _ _ (by omega) (by omega), by simp [intOf]; omega⟩
    · obtain rfl : k = n := by omega
      clear own hz
      go_wp2
      go_ret
      have := MkRel.done (F := fun k => val (xs.take k) + val (ys.take k)) Hz.out oz Hown.out hb Hv.out
      simp only [Hvx.out, Hvy.out] at this
      exact this
end Go.Proofs.Ytjcbbkkoheedpaa
