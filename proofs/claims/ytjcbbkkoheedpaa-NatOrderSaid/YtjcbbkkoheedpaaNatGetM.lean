import Derived.Test.YtjcbbkkoheedpaaNatByt
namespace Go.Proofs.Ytjcbbkkoheedpaa

/-- The bytes of limb k so far as i bytes have come. -/
def seg (bs : List Nat) (n i k : Nat) : List Nat := ((bs.take i).drop (8 * (n - 1 - k))).take 8
def gpart (bs : List Nat) (n i k : Nat) : Nat := be (seg bs n i k)
def rpart (bs : List Nat) (n i k : Nat) : Nat := be (seg bs n i k) * 256 ^ (8 - (seg bs n i k).length)
def GL (bs : List Nat) (n i : Nat) : List Nat := (List.range n).map (gpart bs n i)
def RL (bs : List Nat) (n i : Nat) : List Nat := (List.range n).map (rpart bs n i)
def Bytes (l : List Nat) : Prop := ∀ x ∈ l, x < 256
theorem Bytes.getD {l : List Nat} (h : Bytes l) (k : Nat) : nth l k < 256 := by
  unfold nth
  rw [List.getD_eq_getElem?_getD]
  rcases Nat.lt_or_ge k l.length with hk | hk
  · rw [List.getElem?_eq_getElem hk]; exact h _ (List.getElem_mem hk)
  · rw [List.getElem?_eq_none hk]; decide
theorem nth_range (f : Nat → Nat) {n k : Nat} (h : k < n) : nth ((List.range n).map f) k = f k := by
  unfold nth
  rw [List.getD_eq_getElem?_getD, List.getElem?_map, List.getElem?_range h]; rfl
theorem seg_length (bs : List Nat) (n i k : Nat) (hi : i ≤ bs.length) : (seg bs n i k).length = min 8 (i - 8 * (n - 1 - k)) := by
  unfold seg; rw [List.length_take, List.length_drop, List.length_take]; omega
theorem seg_step {bs : List Nat} {n i : Nat} (hl : bs.length = 8 * n) (hi : i < 8 * n) : seg bs n (i + 1) (n - 1 - i / 8) = seg bs n i (n - 1 - i / 8) ++ [nth bs i] := by
  unfold seg
  have hk : n - 1 - (n - 1 - i / 8) = i / 8 := by omega
  rw [hk, List.take_succ_eq_append_getElem (show i < bs.length by omega), List.drop_append_of_le_length (by rw [List.length_take]; omega)]
  have hD : (List.drop (8 * (i / 8)) (List.take i bs)).length ≤ 7 := by rw [List.length_drop, List.length_take]; omega
  generalize List.drop (8 * (i / 8)) (List.take i bs) = D at *
  rw [List.take_of_length_le (l := D) (by omega), List.take_of_length_le (by simp; omega), nth_eq (by omega)]
theorem seg_other {bs : List Nat} {n i k : Nat} (hl : bs.length = 8 * n) (hi : i < 8 * n) (_hk : k < n) (hne : k ≠ n - 1 - i / 8) : seg bs n (i + 1) k = seg bs n i k := by
  unfold seg
  rcases Nat.lt_or_ge (8 * (n - 1 - k)) (i + 1) with h | h
  · have h2 : 8 * (n - 1 - k) + 8 ≤ i := by omega
    rw [List.take_succ_eq_append_getElem (show i < bs.length by omega), List.drop_append_of_le_length (by rw [List.length_take]; omega), List.take_append_of_le_length (by rw [List.length_drop, List.length_take]; omega)]
  · rw [List.drop_eq_nil_of_le (by rw [List.length_take]; omega), List.drop_eq_nil_of_le (by rw [List.length_take]; omega)]
theorem seg_bytes {bs : List Nat} (h : Bytes bs) (n i k : Nat) : Bytes (seg bs n i k) := fun x hx => h x (List.mem_of_mem_take (List.mem_of_mem_drop (List.mem_of_mem_take hx)))
theorem map_set {n k : Nat} (f g : Nat → Nat) (_hk : k < n) (hne : ∀ j, j < n → j ≠ k → g j = f j) : (List.range n).map g = ((List.range n).map f).set k (g k) := by
  apply List.ext_getElem (by simp)
  intro j h1 h2
  have hj : j < n := by simpa using h1
  rw [List.getElem_set]
  simp only [List.getElem_map, List.getElem_range]
  by_cases e : k = j
  · subst e; simp
  · rw [if_neg e]; exact hne j hj (fun h => e h.symm)
theorem GL_step {bs : List Nat} {n i : Nat} (hl : bs.length = 8 * n) (hi : i < 8 * n) : GL bs n (i + 1) = (GL bs n i).set (n - 1 - i / 8) (256 * nth (GL bs n i) (n - 1 - i / 8) + nth bs i) := by
  have hk : n - 1 - i / 8 < n := by omega
  unfold GL
  rw [map_set (gpart bs n i) (gpart bs n (i + 1)) hk (fun j hj hne => by unfold gpart; rw [seg_other hl hi hj hne]), nth_range _ hk]
  congr 1
  unfold gpart
  rw [seg_step hl hi, be_snoc]
theorem RL_step {bs : List Nat} {n i : Nat} (hl : bs.length = 8 * n) (hi : i < 8 * n) : RL bs n (i + 1) = (RL bs n i).set (n - 1 - i / 8) (nth (RL bs n i) (n - 1 - i / 8) + nth bs i * 2 ^ (8 * (7 - i % 8))) := by
  have hk : n - 1 - i / 8 < n := by omega
  unfold RL
  rw [map_set (rpart bs n i) (rpart bs n (i + 1)) hk (fun j hj hne => by unfold rpart; rw [seg_other hl hi hj hne]), nth_range _ hk]
  congr 1
  have hlen := seg_length bs n i (n - 1 - i / 8) (by omega)
  have hlen' : (seg bs n i (n - 1 - i / 8)).length = i % 8 := by rw [hlen]; omega
  unfold rpart
  rw [seg_step hl hi, be_snoc, List.length_append, hlen', List.length_singleton]
  have e1 : (256 : Nat) ^ (8 - i % 8) = 256 * 256 ^ (7 - i % 8) := by rw [show 8 - i % 8 = (7 - i % 8) + 1 by omega, Nat.pow_succ, Nat.mul_comm]
  have e2 : (2 : Nat) ^ (8 * (7 - i % 8)) = 256 ^ (7 - i % 8) := by rw [Nat.pow_mul]
  rw [e1, e2, show 8 - (i % 8 + 1) = 7 - i % 8 by omega, Nat.add_mul, ← Nat.mul_assoc, Nat.mul_comm 256 (be _)]
theorem GL_length (bs : List Nat) (n i : Nat) : (GL bs n i).length = n := by simp [GL]
theorem RL_length (bs : List Nat) (n i : Nat) : (RL bs n i).length = n := by simp [RL]
theorem GL_zero (bs : List Nat) (n : Nat) : GL bs n 0 = List.replicate n 0 := by
  apply List.ext_getElem (by simp [GL])
  intro j h1 h2
  simp [GL, gpart, seg, be]
theorem RL_zero (bs : List Nat) (n : Nat) : RL bs n 0 = List.replicate n 0 := by
  apply List.ext_getElem (by simp [RL])
  intro j h1 h2
  simp [RL, rpart, seg, be]
theorem seg_lt {bs : List Nat} (h : Bytes bs) {n i : Nat} (hi : i ≤ bs.length) (k : Nat) : be (seg bs n i k) < 256 ^ (min 8 (i - 8 * (n - 1 - k))) := by
  rw [← seg_length bs n i k hi]
  exact be_lt (seg_bytes h n i k)
theorem GL_small {bs : List Nat} (h : Bytes bs) {n i : Nat} (hl : bs.length = 8 * n) (hi : i < 8 * n) : 256 * nth (GL bs n i) (n - 1 - i / 8) + 255 < 18446744073709551616 := by
  have hk : n - 1 - i / 8 < n := by omega
  have h1 := seg_lt h (n := n) (i := i) (by omega) (n - 1 - i / 8)
  rw [show min 8 (i - 8 * (n - 1 - (n - 1 - i / 8))) = i % 8 by omega] at h1
  unfold GL
  rw [nth_range _ hk]
  unfold gpart
  have h2 : 256 ^ (i % 8) ≤ 256 ^ 7 := Nat.pow_le_pow_right (by decide) (by omega)
  have h3 : (256 : Nat) ^ 7 = 72057594037927936 := by decide
  omega
theorem RL_small {bs : List Nat} (h : Bytes bs) {n i : Nat} (hl : bs.length = 8 * n) (hi : i < 8 * n) : nth (RL bs n i) (n - 1 - i / 8) + nth bs i * 2 ^ (8 * (7 - i % 8)) < 18446744073709551616 := by
  have hk : n - 1 - i / 8 < n := by omega
  have h1 := seg_lt h (n := n) (i := i) (by omega) (n - 1 - i / 8)
  have hlen := seg_length bs n i (n - 1 - i / 8) (by omega)
  rw [show min 8 (i - 8 * (n - 1 - (n - 1 - i / 8))) = i % 8 by omega] at h1 hlen
  unfold RL
  rw [nth_range _ hk]
  unfold rpart
  rw [hlen]
  have hb := h.getD i
  have e2 : (2 : Nat) ^ (8 * (7 - i % 8)) = 256 ^ (7 - i % 8) := by rw [Nat.pow_mul]
  have e1 : (256 : Nat) ^ (8 - i % 8) = 256 * 256 ^ (7 - i % 8) := by rw [show 8 - i % 8 = (7 - i % 8) + 1 by omega, Nat.pow_succ, Nat.mul_comm]
  have e3 : (18446744073709551616 : Nat) = 256 ^ (i % 8) * (256 * 256 ^ (7 - i % 8)) := by
    rw [← e1, ← Nat.pow_add, show i % 8 + (8 - i % 8) = 8 by omega]
  rw [e2, e1, e3]
  generalize 256 ^ (7 - i % 8) = P at *
  generalize 256 ^ (i % 8) = Q at *
  generalize be (seg bs n i (n - 1 - i / 8)) = B at *
  generalize nth bs i = y at *
  have hP : 0 < P := by
    rcases Nat.eq_zero_or_pos P with h0 | h0
    · subst h0; simp at e3
    · exact h0
  have h5 : B * (256 * P) + 256 * P ≤ Q * (256 * P) := by
    rw [← Nat.succ_mul]; exact Nat.mul_le_mul_right _ h1
  have h6 : y * P < 256 * P := Nat.mul_lt_mul_of_pos_right hb hP
  omega
theorem RL_end {bs : List Nat} {n : Nat} (hl : bs.length = 8 * n) : RL bs n (8 * n) = GL bs n (8 * n) := by
  unfold RL GL
  apply List.map_congr_left
  intro k hk
  have hkn := List.mem_range.1 hk
  unfold rpart gpart
  rw [seg_length bs n (8 * n) k (by omega), show min 8 (8 * n - 8 * (n - 1 - k)) = 8 by omega]
  simp
theorem GL_ok {bs : List Nat} (h : Bytes bs) {n i : Nat} (hi : i ≤ bs.length) : Ok (GL bs n i) := by
  intro x hx
  obtain ⟨k, _, rfl⟩ := List.mem_map.1 hx
  have h1 := seg_lt h (n := n) hi k
  have h2 : 256 ^ (min 8 (i - 8 * (n - 1 - k))) ≤ 256 ^ 8 := Nat.pow_le_pow_right (by decide) (by omega)
  have h3 : (256 : Nat) ^ 8 = 18446744073709551616 := by decide
  unfold gpart
  omega
theorem or_byte {v b : Nat} (h : b < 256) : v * 256 ||| b = 256 * v + b := by
  have := Nat.two_pow_add_eq_or_of_lt (i := 8) (b := b) (by omega) v
  rw [show (2 : Nat) ^ 8 = 256 from rfl] at this
  rw [Nat.mul_comm v, this]
end Go.Proofs.Ytjcbbkkoheedpaa
