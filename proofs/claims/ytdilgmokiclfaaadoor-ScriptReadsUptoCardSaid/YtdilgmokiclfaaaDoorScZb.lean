/- Chapter 24: plain laws: a text is cut, a line parted, as they are joined. -/
import Derived.Test.YtdilgmokiclfaaaDoorScZa
namespace Go.Proofs.YtdilgmokiclfaaaDoor
open Go.RowKit
set_option linter.unusedVariables false
set_option maxRecDepth 100000

def cutA (s : ByteArray) : ByteArray := ⟨(Lib.cut s.data.toList [10]).1.toArray⟩
def cutR (s : ByteArray) : ByteArray := ⟨(Lib.cut s.data.toList [10]).2.1.toArray⟩
def cutI (s : ByteArray) : Bool := (Lib.cut s.data.toList [10]).2.2
theorem cutA_le (s : ByteArray) : (cutA s).size ≤ s.size := by
  have h : (Lib.cut s.data.toList [10]).1.length ≤ s.data.toList.length := by
    unfold Lib.cut; split
    · simp only [List.length_take]; omega
    · exact Nat.le_refl _
  unfold cutA
  simp only [ByteArray.size, List.size_toArray]
  simpa using h
theorem cutR_le (s : ByteArray) : (cutR s).size ≤ s.size := by
  have h : (Lib.cut s.data.toList [10]).2.1.length ≤ s.data.toList.length := by
    unfold Lib.cut; split
    · simp only [List.length_drop]; omega
    · exact Nat.zero_le _
  unfold cutR
  simp only [ByteArray.size, List.size_toArray]
  simpa using h
theorem ix_hit (c : UInt8) : ∀ (x y : List UInt8), c ∉ x → Lib.index (x ++ c :: y) [c] = (x.length : Int)
  | [], y, _ => by simp [Lib.index]
  | b :: x, y, h => by
    have hb : (c == b) = false := beq_eq_false_iff_ne.2 (fun e => h (by rw [e]; exact List.mem_cons_self ..))
    have ih := ix_hit c x y (fun hm => h (List.mem_cons_of_mem _ hm))
    have h1 : ((x.length : Int) == -1) = false := beq_eq_false_iff_ne.2 (by omega)
    have hp : [c].isPrefixOf (b :: (x ++ c :: y)) = false := by simp only [List.isPrefixOf, hb, Bool.false_and]
    rw [List.cons_append, Lib.index, ih, h1, hp]
    simp
theorem ix_miss (c : UInt8) : ∀ (x : List UInt8), c ∉ x → Lib.index x [c] = -1
  | [], _ => by simp [Lib.index]
  | b :: x, h => by
    have hb : (c == b) = false := beq_eq_false_iff_ne.2 (fun e => h (by rw [e]; exact List.mem_cons_self ..))
    have ih := ix_miss c x (fun hm => h (List.mem_cons_of_mem _ hm))
    have hp : [c].isPrefixOf (b :: x) = false := by simp only [List.isPrefixOf, hb, Bool.false_and]
    rw [Lib.index, ih, hp]
    simp
theorem cut_hit (c : UInt8) (x y : List UInt8) (h : c ∉ x) : Lib.cut (x ++ c :: y) [c] = (x, y, true) := by
  unfold Lib.cut
  rw [ix_hit c x y h, if_pos (by omega)]
  simp
theorem cut_miss (c : UInt8) (x : List UInt8) (h : c ∉ x) : Lib.cut x [c] = (x, [], false) := by
  unfold Lib.cut
  rw [ix_miss c x h, if_neg (by omega)]
/-- A line's words. -/
def splitW (c : UInt8) (s : List UInt8) : List (List UInt8) := Lib.splitK [c] 0 (Lib.count s [c]) s
theorem splitW_miss {c : UInt8} {x : List UInt8} (h : c ∉ x) : splitW c x = [x] := by
  unfold splitW
  rw [Lib.count_one, List.count_eq_zero.2 h]
  rfl
theorem splitW_hit {c : UInt8} {x y : List UInt8} (h : c ∉ x) : splitW c (x ++ c :: y) = x :: splitW c y := by
  have h1 : (((x.length : Nat) : Int) == -1) = false := beq_eq_false_iff_ne.2 (by omega)
  unfold splitW
  rw [Lib.count_one, Lib.count_one, List.count_append, List.count_eq_zero.2 h, List.count_cons_self, Nat.zero_add, Lib.splitK, ix_hit c x y h, h1]
  simp
theorem join_two (x y : List UInt8) (r : List (List UInt8)) (c : UInt8) : Lib.join (x :: y :: r) [c] = x ++ c :: Lib.join (y :: r) [c] := by
  rw [Lib.join_cons, Lib.join_cons]
  simp [Lib.joinTail]
theorem splitW_ne (c : UInt8) (s : List UInt8) : splitW c s ≠ [] := by
  by_cases h : c ∈ s
  · obtain ⟨x, y, rfl, hx⟩ := List.eq_append_cons_of_mem h
    rw [splitW_hit hx]; simp
  · rw [splitW_miss h]; simp
/-- Parted and joined. -/
theorem join_split (c : UInt8) : ∀ (n : Nat) (s : List UInt8), s.length ≤ n → Lib.join (splitW c s) [c] = s
  | n, s, hn => by
    by_cases h : c ∈ s
    · obtain ⟨x, y, rfl, hx⟩ := List.eq_append_cons_of_mem h
      rw [splitW_hit hx]
      cases n with
      | zero => simp at hn
      | succ n =>
        have ih := join_split c n y (by simp at hn; omega)
        cases hs : splitW c y with
        | nil => exact absurd hs (splitW_ne c y)
        | cons z r =>
          rw [join_two, ← hs, ih]
    · rw [splitW_miss h, Lib.join_one]
/-- Joined and parted. -/
theorem split_join (c : UInt8) : ∀ (x : List UInt8) (r : List (List UInt8)), (∀ w ∈ x :: r, c ∉ w) → splitW c (Lib.join (x :: r) [c]) = x :: r
  | x, [], h => by rw [Lib.join_one, splitW_miss (h x (List.mem_cons_self ..))]
  | x, y :: r, h => by
    rw [join_two, splitW_hit (h x (List.mem_cons_self ..)), split_join c y r (fun w hw => h w (List.mem_cons_of_mem _ hw))]
theorem wordsB_data (line : ByteArray) : (wordsB line).map (·.data.toList) = splitW 32 line.data.toList := Lib.splitB_data ⟨#[32]⟩ 0 _ line
theorem map_data_inj {a b : List ByteArray} (h : a.map (·.data.toList) = b.map (·.data.toList)) : a = b := (List.map_inj_right (fun _ _ e => ba_ext e)).1 h
theorem joinB_data (ws : List ByteArray) : (joinB ws).data.toList = Lib.join (ws.map (·.data.toList)) [32] := by unfold joinB; simp
theorem joinB_words (line : ByteArray) : joinB (wordsB line) = line := by
  apply ba_ext
  rw [joinB_data, wordsB_data, join_split 32 _ _ (Nat.le_refl _)]
/-- No byte of a word is below 48. -/
def Hi (s : ByteArray) : Prop := ∀ x ∈ s.data.toList, 48 ≤ x.toNat
theorem words_joinB (x : ByteArray) (r : List ByteArray) (h : ∀ w ∈ x :: r, Hi w) : wordsB (joinB (x :: r)) = x :: r := by
  apply map_data_inj
  rw [wordsB_data, joinB_data, List.map_cons]
  refine split_join 32 _ _ fun w hw hm => ?_
  rw [show x.data.toList :: r.map (fun x => x.data.toList) = (x :: r).map (fun x => x.data.toList) from rfl] at hw
  obtain ⟨y, hy, rfl⟩ := List.mem_map.1 hw
  have := h y hy _ hm
  exact absurd this (by decide)
theorem join_no10 : ∀ (x : List UInt8) (r : List (List UInt8)), (∀ w ∈ x :: r, (10 : UInt8) ∉ w) → (10 : UInt8) ∉ Lib.join (x :: r) [32]
  | x, [], h => by rw [Lib.join_one]; exact h x (List.mem_cons_self ..)
  | x, y :: r, h => by
    rw [join_two]
    intro hm
    rcases List.mem_append.1 hm with hm | hm
    · exact h x (List.mem_cons_self ..) hm
    · rcases List.mem_cons.1 hm with hm | hm
      · exact absurd hm (by decide)
      · exact join_no10 y r (fun w hw => h w (List.mem_cons_of_mem _ hw)) hm
theorem joinB_no10 (x : ByteArray) (r : List ByteArray) (h : ∀ w ∈ x :: r, Hi w) : (10 : UInt8) ∉ (joinB (x :: r)).data.toList := by
  rw [joinB_data, List.map_cons]
  refine join_no10 _ _ fun w hw hm => ?_
  rw [show x.data.toList :: r.map (fun x => x.data.toList) = (x :: r).map (fun x => x.data.toList) from rfl] at hw
  obtain ⟨y, hy, rfl⟩ := List.mem_map.1 hw
  have := h y hy _ hm
  exact absurd this (by decide)
/-- A line is cut off as it is written. -/
theorem cut_line (x : ByteArray) (r : List ByteArray) (t : ByteArray) (h : ∀ w ∈ x :: r, Hi w) :
    cutI (lineB (x :: r) ++ t) = true ∧ cutA (lineB (x :: r) ++ t) = joinB (x :: r) ∧ cutR (lineB (x :: r) ++ t) = t := by
  have e : (lineB (x :: r) ++ t).data.toList = (joinB (x :: r)).data.toList ++ 10 :: t.data.toList := by
    unfold lineB nlB
    simp [ByteArray.data_append]
  have hc := cut_hit 10 _ t.data.toList (joinB_no10 x r h)
  refine ⟨by unfold cutI; rw [e, hc], ?_, ?_⟩
  · unfold cutA; rw [e, hc]
  · unfold cutR; rw [e, hc]
theorem cut_back {s : ByteArray} (h : cutI s = true) : s = cutA s ++ nlB ++ cutR s := by
  have hm : (10 : UInt8) ∈ s.data.toList := by
    refine Decidable.byContradiction fun hm => ?_
    unfold cutI at h
    rw [cut_miss 10 _ hm] at h
    cases h
  obtain ⟨x, y, e, hx⟩ := List.eq_append_cons_of_mem hm
  apply ba_ext
  unfold cutA cutR nlB
  rw [e, cut_hit 10 x y hx]
  simp [ByteArray.data_append]
theorem hi_digits {l : List UInt8} (h : ∀ x ∈ l, 48 ≤ x.toNat) : Hi ⟨l.toArray⟩ := fun x hx => h x (by simpa using hx)
theorem dec_hi (u : Nat) : ∀ x ∈ Lib.decDigits u, 48 ≤ x.toNat := by
  induction u using Nat.strongRecOn with
  | ind u ih =>
    rw [Lib.decDigits]
    by_cases h : u < 10
    · rw [dif_pos h]
      intro x hx
      rw [List.mem_singleton.1 hx]
      simp [UInt8.toNat_ofNat]; omega
    · rw [dif_neg h]
      intro x hx
      rcases List.mem_append.1 hx with hx | hx
      · exact ih (u / 10) (by omega) x hx
      · rw [List.mem_singleton.1 hx]
        simp [UInt8.toNat_ofNat]; omega
theorem itB_hi {z : Int} (h : inB z = true) : Hi (itB z) := by
  obtain ⟨h0, h1⟩ := inB_iff.1 h
  unfold itB
  refine hi_digits ?_
  rw [Lib.itoa, if_neg (by omega)]
  exact dec_hi _
theorem hexB_hi (v : Nat) : Hi (hexB v) := by
  obtain ⟨k, k1, k2, k3, k4, k5⟩ := hexN_digs v
  intro x hx
  unfold hexB strN at hx
  rw [k3] at hx
  simp only [List.mem_map] at hx
  obtain ⟨y, hy, rfl⟩ := hx
  have : ∀ k, ∀ y ∈ digs v k, 48 ≤ y ∧ y < 256 := fun k => by
    induction k with
    | zero => intro y hy; cases hy
    | succ k ih =>
      intro y hy
      rcases List.mem_cons.1 hy with rfl | hy
      · have := hexD_lt v k
        unfold digC; split <;> omega
      · exact ih y hy
  have := this k y hy
  simp
  omega
theorem wordB_hi (t : Int) : Hi (wordB t) := by
  have hall : ∀ t ∈ ([1, 2, 3, 4, 5, 6, 7, 8, 9, 10, 11, 0] : List Int), ∀ x ∈ (wordB t).data.toList, 48 ≤ x.toNat := by decide +kernel
  rcases tag_cases t with rfl | rfl | rfl | rfl | rfl | rfl | rfl | rfl | rfl | rfl | rfl | h
  iterate 11
    · exact hall _ (by decide)
  · intro x hx
    rw [wordB_other h] at hx
    cases hx
end Go.Proofs.YtdilgmokiclfaaaDoor
