import Derived.Test.YtfkpcmjmibbmbaaMontX
import Derived.Test.YtfkpcmjmibbmbaaMontI
import Derived.RangeFuncNested
import Derived.RangeFuncBound
import Derived.RangeFuncCalls
import Derived.RangeFuncLeaves
import Derived.RangeFuncBox
import Derived.Shelf.Abstract
import Derived.Shelf.RegionOpen
import Derived.WalkKit
import Derived.OwnWalkIn
import Derived.TacticsInMore
import Derived.LoopNIn
import Derived.LoopIn
import Derived.OrdersIn
namespace Go.Proofs.Ytfkpcmjmibbmbaa
open Go.RowKit Go.Shelf
set_option linter.unusedVariables false
attribute [local go_sem] Oper.semAt_some

/-- Whatever lay below m, but for block ob, lies as it lay. -/
def KeepBut (m ob : Nat) (W W' : World) : Prop := ∀ b, b < m → b ≠ ob → W'.heap[b]? = W.heap[b]?
theorem KeepBut.refl (m ob : Nat) (W : World) : KeepBut m ob W W := fun _ _ _ => rfl
theorem KeepBut.trans {m ob : Nat} {A B C : World} (h : KeepBut m ob A B) (k : KeepBut m ob B C) : KeepBut m ob A C := fun b hb hne => (k b hb hne).trans (h b hb hne)
theorem KeepBut.cell {m ob : Nat} {A B : World} (h : KeepBut m ob A B) {p : Addr} (hb : p.block < m) (hne : p.block ≠ ob) : B.cell? p = A.cell? p := World.cell?_of_block (h p.block hb hne)
theorem keepBut_b {m ob : Nat} {w : World} (hm : m ≤ w.heap.size) (W : World) (l : Nat) (o o' : Obj) (hl : w.heap.size ≤ l) (h : W.heap[l]? = some o) (_ : o.isCells = false) (_ : o.isWalk = false) : KeepBut m ob W (W.putObj l o') :=
  fun b hb _ => (grownBy_putObj' W l o').block b (by have := (Array.getElem?_eq_some_iff.1 h).1; omega) (fun e => by have : b = l := Option.some.inj e; omega)

/-- The bits of a number, the highest first. -/
def bitB (E i : Nat) : Bool := bitOf E i == 1
def bitsB (E L k : Nat) : List Bool := (List.range k).map fun i => bitB E (L - 1 - i)
theorem bitsB_succ (E L k : Nat) : bitsB E L (k + 1) = bitsB E L k ++ [bitB E (L - 1 - k)] := by simp [bitsB, List.range_succ]
theorem bitsB_length (E L k : Nat) : (bitsB E L k).length = k := by simp [bitsB]
def numB (l : List Bool) : Nat := l.foldl (fun n b => 2 * n + b.toNat) 0
theorem numB_snoc (l : List Bool) (b : Bool) : numB (l ++ [b]) = 2 * numB l + b.toNat := by simp [numB]
theorem bitB_toNat (E i : Nat) : (bitB E i).toNat = bitOf E i := by
  have := bitOf_lt E i
  have h : bitOf E i = 0 ∨ bitOf E i = 1 := by omega
  unfold bitB
  rcases h with h | h <;> rw [h] <;> rfl
theorem numB_bits {E L : Nat} (hE : E < 2 ^ L) : ∀ k, k ≤ L → numB (bitsB E L k) = E / 2 ^ (L - k)
  | 0, _ => by rw [Nat.sub_zero, Nat.div_eq_of_lt hE]; rfl
  | k + 1, h => by
    rw [bitsB_succ, numB_snoc, numB_bits hE k (by omega), bitB_toNat, show L - k = L - 1 - k + 1 by omega, ← div_pow_succ, show L - 1 - k = L - (k + 1) by omega]
theorem numB_all {E L : Nat} (hE : E < 2 ^ L) : numB (bitsB E L L) = E := by
  rw [numB_bits hE L (Nat.le_refl _), Nat.sub_self, Nat.pow_zero, Nat.div_one]
def bolE (x : Bool) : Array Value := #[.bool x]

set_option maxRecDepth 100000 in
set_option maxHeartbeats 2000000 in
/-- mont.Bits's closure -/
theorem bits1_in (l Bs m ob len cap : Nat) (A : Option Addr) (xs : List Nat) (hlen : len ≤ 16) (hcap : len ≤ cap) (hcap' : cap ≤ maxLen) (hxl : xs.length = len) (ox : Ok xs) (hBm : Bs < m) (hBo : Bs ≠ ob) (J Jx : List Bool → World → Prop)
    (hY : ∀ pre x W, J pre W → pre.length < bitLen (val xs) → YieldAt Fence.wide 6 Try.prog l (bolE x) W fun e W' =>
      (e = .returned (.bool true) ∧ J (pre ++ [x]) W' ∧ KeepBut m ob W W') ∨ (e = .returned (.bool false) ∧ Jx (pre ++ [x]) W'))
    (W : World) (hmW : m ≤ W.heap.size) (hBs : W.cell? ⟨Bs, 0, none⟩ = some (.slice A len cap)) (hc : 0 < len → ∃ b off, A = some ⟨b, off, none⟩ ∧ b < m ∧ b ≠ ob ∧ ∀ j, j < len → W.cell? ⟨b, off + j, none⟩ = some (.int .u64 (nth xs j : Nat))) (h0 : J [] W) :
    CallsIn Fence.wide 7 Try.prog 52 #[.func (.yield l) #[] #[], .pointer (some ⟨Bs, 0, none⟩)] W fun e W' => (∃ v, e = .returned v) ∧
      ((∃ ys, ys = bitsB (val xs) (bitLen (val xs)) (bitLen (val xs)) ∧ J ys W') ∨ (∃ pre, (∃ k, k ≤ bitLen (val xs) ∧ pre = bitsB (val xs) (bitLen (val xs)) k) ∧ Jx pre W')) := by
  have hro : Fence.wide.round = none := rfl
  have hsl : Sl W .u64 A xs := fun hp => by
    obtain ⟨b, off, rfl, hb, _, hcs⟩ := hc (by omega)
    exact ⟨b, off, rfl, by omega, fun i hi => hcs i (by omega)⟩
  have HB := Lib.hid (bits_any A len cap len xs W hcap hcap' (by omega) hxl ox hsl)
  have hbl : bitLen (val xs) ≤ 64 * len := bitLen_bound ox hxl
  obtain ⟨L, hL⟩ : ∃ L, bitLen (val xs) = L := ⟨_, rfl⟩
  rw [hL] at hbl hY HB ⊢
  clear hL hsl
  refine callsIn_of_wp Try.func52 rfl trivial ?_ hro
  simp only [Try.ntmps52, List.size_toArray, List.length_cons, List.length_nil, Nat.reduceAdd, Nat.reduceSub, Array.replicate_succ, Array.replicate_zero, List.push_toArray, List.append_toArray, List.nil_append, List.cons_append]
  have hlen' : (len : Int) ≤ 16 := by omega
  have hL' : (L : Int) ≤ 1024 := by omega
  gi_wp2
  refine ⟨trivial, (callsIn_wide.2 (HB.out)).mono ?_⟩
  rintro e w' ⟨rfl, rfl⟩
  gi_wp2
  gi_loopw [3] (fun i wr => ∃ k : Nat, k ≤ L ∧ i = .int .i64 ((L : Int) - 1 - (k : Int)) ∧ J (bitsB (val xs) L k) wr ∧ KeepBut m ob W wr)
    (fun i _ => (intOf i + 1).toNat)
  case atStart => exact ⟨0, Nat.zero_le _, by simp, h0, KeepBut.refl _ _ _⟩
  case round =>
    obtain ⟨k, hk, rfl, hJs, hnx⟩ := hrel
    by_cases hlt : k < L
    · obtain ⟨b, off, rfl, hbm, hbo, hcells⟩ := hc (by omega)
      obtain ⟨p, hp⟩ : ∃ p, L - 1 - k = p := ⟨_, rfl⟩
      have hpl : p < L := by omega
      have hp' : (L : Int) - 1 - (k : Int) = (p : Int) := by omega
      have hpi : (p : Int) < (L : Int) := by omega
      obtain ⟨q, hq⟩ : ∃ q, p / 64 = q := ⟨_, rfl⟩
      obtain ⟨r, hr⟩ : ∃ r, p % 64 = r := ⟨_, rfl⟩
      have e1 : (p : Int).tdiv 64 = (q : Int) := by rw [← hq]; rfl
      have e1' : (p : Int) / 64 = (q : Int) := by rw [← hq]; rfl
      have e2 : (p : Int).tmod 64 = (r : Int) := by rw [← hr]; rfl
      have e2' : (p : Int) % 64 = (r : Int) := by rw [← hr]; rfl
      have hr64 : (r : Int) < 64 := by omega
      have hql : (q : Int) < (len : Int) := by omega
      have hcx : wr.cell? ⟨b, off + q, none⟩ = some (.int .u64 (nth xs q : Nat)) := (hnx.cell (p := ⟨b, off + q, none⟩) hbm hbo).trans (hcells q (by omega))
      have hbx : wr.cell? ⟨Bs, 0, none⟩ = some (.slice (some ⟨b, off, none⟩) len cap) := (hnx.cell (p := ⟨Bs, 0, none⟩) hBm hBo).trans hBs
      have hxq := ox.getD q
      have hsh := shrAnd (nth xs q) r hxq
      have hbit := bit_limb ox p
      rw [hq, hr] at hbit
      rw [hbit] at hsh
      have hbt := bitB_toNat (val xs) p
      have hbb := bitOf_lt (val xs) p
      obtain ⟨bt, hbt'⟩ : ∃ bt, bitB (val xs) p = bt := ⟨_, rfl⟩
      obtain ⟨fn, tmps, assign, body, hy, hR⟩ := hY _ bt wr hJs (by rw [bitsB_length]; exact hlt)
      dsimp only [bolE] at hy
      have hbs : bitsB (val xs) L (k + 1) = bitsB (val xs) L k ++ [bt] := by rw [bitsB_succ, hp, hbt']
      rw [hbt'] at hbt
      rw [← hbt] at hsh
      have HBS := Lib.hid hbs
      clear hbs hbt' hbt hbit hbb hq hr hxq
      cases bt <;> simp only [Bool.toNat_true, Bool.toNat_false, Int.cast_ofNat_Int] at hsh
      all_goals
        gi_wp2
        refine hR.mono ?_
        rintro e W3 (⟨rfl, hJ3, hk3⟩ | ⟨rfl, hJx3⟩)
        · gi_wp2
          go_roundw
          case rel => exact ⟨k + 1, by omega, by congr 1; omega, by rw [HBS.out]; exact hJ3, hnx.trans hk3⟩
          case measure => simp [intOf]; omega
        · gi_wp2
          refine bodyPost_ret (results_none rfl _ _ _) rfl ?_
          exact ⟨⟨_, rfl⟩, .inr ⟨_, ⟨k + 1, by omega, by rw [HBS.out]⟩, hJx3⟩⟩
    · obtain rfl : k = L := by omega
      gi_wp2
      go_end0
      exact ⟨⟨_, rfl⟩, .inl ⟨_, rfl, hJs⟩⟩

set_option maxHeartbeats 1000000 in
/-- mont.Bits: the slice is boxed; the function value captures the box. -/
theorem mbits_in (a : Option Addr) (len cap : Nat) (w : World) :
    Calls Try.prog 41 #[.slice a len cap] w fun e w' => e = .returned (.func (.func 52) #[] #[.pointer (some ⟨w.heap.size, 0, none⟩)]) ∧ w' = w.alloc (.cells #[.slice a len cap] 26) := by
  go_enter Try.func41, Try.ntmps41
  go_wp2_with fail
  go_ret
  exact ⟨rfl, rfl⟩

/-- What mont.Bits hands back gives the number's bits, the highest first. -/
theorem bits_stops (Bs m ob len cap : Nat) (A : Option Addr) (xs : List Nat) (hlen : len ≤ 16) (hcap : len ≤ cap) (hcap' : cap ≤ maxLen) (hxl : xs.length = len) (ox : Ok xs) (hBm : Bs < m) (hBo : Bs ≠ ob) (w : World) (hm : m ≤ w.heap.size)
    (hBs : w.cell? ⟨Bs, 0, none⟩ = some (.slice A len cap)) (hc : 0 < len → ∃ b off, A = some ⟨b, off, none⟩ ∧ b < m ∧ b ≠ ob ∧ ∀ j, j < len → w.cell? ⟨b, off + j, none⟩ = some (.int .u64 (nth xs j : Nat))) :
    SeqStopsK Fence.wide 7 Try.prog 52 #[.pointer (some ⟨Bs, 0, none⟩)] bolE (KeepBut m ob) (fun ys => ys = bitsB (val xs) (bitLen (val xs)) (bitLen (val xs))) (fun pre => ∃ k, k ≤ bitLen (val xs) ∧ pre = bitsB (val xs) (bitLen (val xs)) k) (bitLen (val xs)) w := fun l J Jx W hW _ _ hY h0 => by
  have hc' := (hW.cell (p := ⟨Bs, 0, none⟩) (show Bs < w.heap.size by omega)).trans hBs
  refine bits1_in l Bs m ob len cap A xs hlen hcap hcap' hxl ox hBm hBo J Jx hY W (Nat.le_trans hm hW.size) hc' (fun h => ?_) h0
  obtain ⟨b, off, hA, hb, hbo, hcs⟩ := hc h
  exact ⟨b, off, hA, hb, hbo, fun j hj => (hW.cell (p := ⟨b, off + j, none⟩) (show b < w.heap.size by omega)).trans (hcs j hj)⟩
end Go.Proofs.Ytfkpcmjmibbmbaa
