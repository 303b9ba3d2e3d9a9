import Derived.Test.YtjcbbkkoheedpaaNatGet
import Derived.Deep.AppendLies
import Derived.Laws.BytesArg
namespace Go.Proofs.Ytjcbbkkoheedpaa
open Go.RowKit
set_option linter.unusedVariables false

/-- The bytes of a number, the highest first. -/
def pbyte (a : List Nat) (n t : Nat) : Nat := nth a ((8 * n - 1 - t) / 8) / 2 ^ (8 * ((8 * n - 1 - t) % 8)) % 256
def PL (a : List Nat) (n t : Nat) : List Nat := (List.range t).map (pbyte a n)
def pcells (a : List Nat) (n t : Nat) : List Value := (PL a n t).map fun x : Nat => Value.int .u8 (x : Int)
theorem PL_succ (a : List Nat) (n t : Nat) : PL a n (t + 1) = PL a n t ++ [pbyte a n t] := by simp [PL, List.range_succ]
theorem pcells_succ (a : List Nat) (n t : Nat) : pcells a n (t + 1) = pcells a n t ++ [Value.int .u8 (pbyte a n t : Nat)] := by simp [pcells, PL_succ]
def strN (xs : List Nat) : ByteArray := strOfNums (xs.map fun x : Nat => (x : Int))
theorem conv_rowN {w : World} {B g cap n : Nat} {l : List Nat} (h : w.ownsRow B 5 1 (.slice (some ⟨g, 0, none⟩) n cap) n (l.map fun x : Nat => Value.int .u8 (x : Int))) :
    (convert 45 9 (.slice (some ⟨g, 0, none⟩) n cap)).run Try.prog w = .ok (.string (strN l)) w := by
  have hl : l.length = n := by simpa using h.1
  have hadd : ∀ i, (⟨g, 0, none⟩ : Addr).add i = ⟨g, 0 + i, none⟩ := fun i => by unfold Addr.add; split <;> simp_all
  refine run_convert_bytes_arg (P := Try.prog) w 45 5 (by kernel_rfl) (by kernel_rfl) g 0 n cap (l.map fun x : Nat => (x : Int)) (by rw [List.length_map, hl]) (fun i hi => ?_) 9 (by kernel_rfl)
  have := h.cells rfl i (.int .u8 (nth l i : Nat)) (by rw [List.getElem?_map, List.getElem?_eq_getElem (by omega), nth_eq (by omega)]; rfl)
  rw [hadd] at this
  rw [this]
  congr 2
  unfold nth
  rw [List.getD_eq_getElem?_getD, List.getD_eq_getElem?_getD, List.getElem?_map, List.getElem?_eq_getElem (by omega)]
  rfl
theorem info_u8N : (Try.prog.info? 5).map (fun i => (i.zero, i.size, i.bytes)) = some (some (.int .u8 0), 1, 1) := by kernel_rfl

def RPutRel (xs : List Nat) (n B2 : Nat) (w : World) (v i : Value) (wr : World) : Prop :=
  ∃ t : Nat, t ≤ 8 * n ∧ i = .int .i64 (8 * (n : Int) - 1 - (t : Int)) ∧ (∃ g cap, v = .slice (some ⟨g, 0, none⟩) t cap ∧ B2 ≤ g ∧ g < wr.heap.size) ∧ wr.ownsRow B2 5 1 v t (pcells xs n t) ∧ Below w.heap.size w wr ∧ B2 ≤ wr.heap.size
set_option maxHeartbeats 1000000 in
/-- ref.Put -/
theorem rput_any (A : Option Addr) (n c na : Nat) (xs : List Nat) (w : World) (hn : n ≤ c) (hc : c ≤ maxLen) (e : min n 16 = na) (hx : xs.length = na) (ox : Ok xs) (sx : Sl w .u64 A xs) :
    Calls Try.prog 20 #[.slice A n c] w fun e w' => e = .returned (.string (strN (PL xs na (8 * na)))) ∧ Below w.heap.size w w' := by
  have H1 := Lib.hid (rcut_any A n c na w hn hc e)
  have hna : na ≤ 16 ∧ na ≤ n := by omega
  clear e
  have hna' : (na : Int) ≤ 16 := by omega
  go_enter Try.func20, Try.ntmps20
  go_wp2_with fail
  refine (H1.out).mono ?_
  rintro e w1 ⟨c', hc1, hc2, rfl, rfl⟩
  clear H1
  go_wp2_with fail
  have hst : RPutRel xs na w.heap.size w (.slice (some ⟨w.heap.size, 0, none⟩) 0 0) (.int .i64 (8 * (na : Int) - 1)) (w.alloc (.cells #[] 5)) :=
    ⟨0, by omega, by simp, ⟨_, _, rfl, Nat.le_refl _, by simp⟩, World.ownsRow_made w #[] 0 (Nat.le_refl _) (Nat.zero_le _) rfl, (Below.refl _ _).alloc (Nat.le_refl _) _, by simp⟩
  obtain ⟨ti, hti, hti345⟩ := Option.map_eq_some_iff.1 info_u8N
  have hti3 : ti.zero = some (.int .u8 0) := by injection hti345
  have hti4 : ti.size = 1 := by injection hti345 with _ k; injection k
  have hti5 : ti.bytes = 1 := by injection hti345 with _ k; injection k
  have HT := Lib.hid (And.intro hti (And.intro hti3 (And.intro hti4 hti5)))
  clear hti345 hti hti3 hti4 hti5
  go_loopw [3, 4] (RPutRel xs na w.heap.size w) (fun _ i _ => (intOf i + 1).toNat)
  case atStart => exact hst
  case round =>
    clear hst
    obtain ⟨t, ht, rfl, ⟨g, cap, rfl, hgB, hgl⟩, hrow, hb, hB2⟩ := hrel
    by_cases htn : t < 8 * na
    · obtain ⟨p, hp⟩ : ∃ p, 8 * na - 1 - t = p := ⟨_, rfl⟩
      obtain ⟨k, hk⟩ : ∃ k, p / 8 = k := ⟨_, rfl⟩
      obtain ⟨y8, hy8⟩ : ∃ l, p % 8 = l := ⟨_, rfl⟩
      obtain ⟨z8, hz8⟩ : ∃ l, 8 * y8 = l := ⟨_, rfl⟩
      have e0 : 8 * (na : Int) - 1 - (t : Int) = (p : Int) := by omega
      have e1 : (p : Int) / 8 = (k : Int) := by omega
      have e2 : (p : Int).tdiv 8 = (k : Int) := by rw [Int.tdiv_eq_ediv_of_nonneg (by omega)]; exact e1
      have e3 : (p : Int) % 8 = (y8 : Int) := by omega
      have e4 : (p : Int).tmod 8 = (y8 : Int) := by rw [Int.tmod_eq_emod_of_nonneg (by omega)]; exact e3
      have e5 : 8 * (y8 : Int) = (z8 : Int) := by omega
      have e6 : IntKind.i64.wrap (z8 : Int) = (z8 : Int) := by rw [IntKind.wrap_i64]; omega
      have e7 : IntKind.i64.wrap (k : Int) = (k : Int) := by rw [IntKind.wrap_i64]; omega
      have e8 : IntKind.i64.wrap (y8 : Int) = (y8 : Int) := by rw [IntKind.wrap_i64]; omega
      have e9 : IntKind.u64.wrap (z8 : Int) = (z8 : Int) := by rw [IntKind.wrap_u64]; omega
      have hz64 : (z8 : Int) ≤ 64 := by omega
      have hz0 : (0 : Int) ≤ (z8 : Int) := by omega
      have hkn : k < na := by omega
      have hkn' : (k : Int) < (na : Int) := by omega
      obtain ⟨bk, off, rfl, hlt0, hcell⟩ := sx.at2 hb (by omega)
      have hca := hcell k (by omega)
      clear hcell
      have HQ := Lib.hid (pcells_succ xs na t)
      have hq1 : pbyte xs na t = nth xs k / 2 ^ z8 % 256 := by rw [pbyte, hp, hk, hy8, hz8]
      obtain ⟨q, hq⟩ : ∃ q, nth xs k / 2 ^ z8 = q := ⟨_, rfl⟩
      obtain ⟨y, hy⟩ : ∃ y, q % 256 = y := ⟨_, rfl⟩
      have ev1 : (nth xs k : Int) / 2 ^ z8 = (q : Int) := by rw [← hq]; simp
      have ev2 : (q : Int).tmod 256 = (y : Int) := by rw [← hy]; rfl
      have ev3 : (y : Int) % 256 = (y : Int) := by omega
      rw [hq1, hq, hy] at HQ
      clear hq1 hk hy8 hz8 hp hq hy
      have hrow1 := hrow.alloc (.cells #[.int .u8 (y : Int)] 5)
      have hb1 := hb.alloc hb.size (.cells #[.int .u8 (y : Int)] 5)
      go_wp2_with (refine wpList_append_lies (wr.alloc (.cells #[.int .u8 (y : Int)] 5)) rfl (.tmp 16) (.tmp 29) 45 rfl w.heap.size 5 ti (.int .u8 0) 1 1 (by kernel_rfl) HT.out.1 HT.out.2.1 HT.out.2.2.1 HT.out.2.2.2 rfl (by decide) _ t (pcells xs na t) rfl hrow1 ⟨wr.heap.size, 0, none⟩ 1 1 [.int .u8 (y : Int)] rfl rfl (World.news_of_block (heap_alloc_new wr _)) (by simp [Value.oneCell']) (by decide) (by simp only [maxLen]; omega) (by omega) (by simp; omega) _ rfl ?_; intro g' cap' w8 hrow8 hgrow8 hat8 hlt8)
      have hbe8 : Below w.heap.size w w8 := hb1.trans ⟨hgrow8.os, hgrow8.tape, hgrow8.output, hgrow8.size, fun k hk => hgrow8.block k (Nat.lt_of_lt_of_le hk hb1.size) (fun e => by have e' : k = g := Option.some.inj e; omega)⟩
      have hgs := hgrow8.size
      have hg8 : w.heap.size ≤ g' := by
        rcases hat8 with h | h
        · have e' : g = g' := Option.some.inj h
          omega
        · have := hb1.size; omega
      simp at hgs
      exact ⟨⟨t + 1, by omega, by congr 1; omega, ⟨g', cap', rfl, hg8, hlt8⟩, by rw [HQ.out]; exact hrow8, hbe8, by omega⟩, by simp [intOf]; omega⟩
    · obtain rfl : t = 8 * na := by omega
      have hconv := conv_rowN hrow
      go_wp2_with fail
      go_ret
      exact ⟨rfl, hb⟩
end Go.Proofs.Ytjcbbkkoheedpaa
