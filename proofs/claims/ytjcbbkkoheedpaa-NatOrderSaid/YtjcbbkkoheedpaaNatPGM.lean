import Derived.Test.YtjcbbkkoheedpaaNatPutF
namespace Go.Proofs.Ytjcbbkkoheedpaa

/-- What is put is got again; what is got, put again, is the bytes. -/
theorem list8 {l : List Nat} (h : l.length = 8) : ∃ b0 b1 b2 b3 b4 b5 b6 b7, l = [b0, b1, b2, b3, b4, b5, b6, b7] := by
  match l, h with
  | [b0, b1, b2, b3, b4, b5, b6, b7], _ => exact ⟨_, _, _, _, _, _, _, _, rfl⟩
theorem be8 (b0 b1 b2 b3 b4 b5 b6 b7 : Nat) : be [b0, b1, b2, b3, b4, b5, b6, b7] = 72057594037927936 * b0 + 281474976710656 * b1 + 1099511627776 * b2 + 4294967296 * b3 + 16777216 * b4 + 65536 * b5 + 256 * b6 + b7 := by
  simp only [be, List.foldl_cons, List.foldl_nil]; omega
theorem be8_byte {l : List Nat} (h : l.length = 8) (hb : Bytes l) {y : Nat} (hy : y < 8) : be l / 2 ^ (8 * y) % 256 = nth l (7 - y) := by
  obtain ⟨b0, b1, b2, b3, b4, b5, b6, b7, rfl⟩ := list8 h
  have h0 : b0 < 256 := hb b0 (by simp)
  have h1 : b1 < 256 := hb b1 (by simp)
  have h2 : b2 < 256 := hb b2 (by simp)
  have h3 : b3 < 256 := hb b3 (by simp)
  have h4 : b4 < 256 := hb b4 (by simp)
  have h5 : b5 < 256 := hb b5 (by simp)
  have h6 : b6 < 256 := hb b6 (by simp)
  have h7 : b7 < 256 := hb b7 (by simp)
  rw [be8]
  have : y = 0 ∨ y = 1 ∨ y = 2 ∨ y = 3 ∨ y = 4 ∨ y = 5 ∨ y = 6 ∨ y = 7 := by omega
  rcases this with rfl | rfl | rfl | rfl | rfl | rfl | rfl | rfl
  · show _ / 1 % 256 = b7; omega
  · show _ / 256 % 256 = b6; omega
  · show _ / 65536 % 256 = b5; omega
  · show _ / 16777216 % 256 = b4; omega
  · show _ / 4294967296 % 256 = b3; omega
  · show _ / 1099511627776 % 256 = b2; omega
  · show _ / 281474976710656 % 256 = b1; omega
  · show _ / 72057594037927936 % 256 = b0; omega
theorem limb_bytes {x : Nat} (hx : x < 18446744073709551616) : be ((List.range 8).map fun j => x / 2 ^ (8 * (7 - j)) % 256) = x := by
  have e : ((List.range 8).map fun j => x / 2 ^ (8 * (7 - j)) % 256) = [x / 72057594037927936 % 256, x / 281474976710656 % 256, x / 1099511627776 % 256, x / 4294967296 % 256, x / 16777216 % 256, x / 65536 % 256, x / 256 % 256, x / 1 % 256] := rfl
  rw [e, be8]
  omega
theorem seg_full {bs : List Nat} {n k : Nat} (hl : bs.length = 8 * n) (hk : k < n) : seg bs n (8 * n) k = (List.range 8).map fun j => nth bs (8 * (n - 1 - k) + j) := by
  apply List.ext_getElem
  · rw [seg_length bs n (8 * n) k (by omega)]; simp; omega
  · intro j h1 h2
    have hj : j < 8 := by simpa using h2
    simp only [seg, List.getElem_take, List.getElem_drop, List.getElem_map, List.getElem_range]
    rw [nth_eq (by omega)]
theorem PL_length (a : List Nat) (n t : Nat) : (PL a n t).length = t := by simp [PL]
theorem PL_bytes (a : List Nat) (n t : Nat) : Bytes (PL a n t) := by
  intro x hx
  obtain ⟨j, _, rfl⟩ := List.mem_map.1 hx
  exact Nat.mod_lt _ (by decide)
theorem nth_PL (a : List Nat) (n : Nat) {t m : Nat} (h : t < m) : nth (PL a n m) t = pbyte a n t := nth_range _ h
theorem get_put {a : List Nat} {n : Nat} (ha : a.length = n) (oa : Ok a) : GL (PL a n (8 * n)) n (8 * n) = a := by
  apply List.ext_getElem (by rw [GL_length, ha])
  intro k h1 h2
  have hk : k < n := by rw [GL_length] at h1; exact h1
  have hs := seg_full (PL_length a n (8 * n)) hk
  simp only [GL, List.getElem_map, List.getElem_range, gpart]
  rw [hs]
  have e : ((List.range 8).map fun j => nth (PL a n (8 * n)) (8 * (n - 1 - k) + j)) = (List.range 8).map fun j => a[k] / 2 ^ (8 * (7 - j)) % 256 := by
    apply List.map_congr_left
    intro j hj
    have hj8 := List.mem_range.1 hj
    rw [nth_PL a n (by omega), pbyte, show (8 * n - 1 - (8 * (n - 1 - k) + j)) / 8 = k by omega, show (8 * n - 1 - (8 * (n - 1 - k) + j)) % 8 = 7 - j by omega, nth_eq h2]
  rw [e, limb_bytes (oa _ (List.getElem_mem h2))]
theorem put_get {bs : List Nat} {n : Nat} (hl : bs.length = 8 * n) (hb : Bytes bs) : PL (GL bs n (8 * n)) n (8 * n) = bs := by
  apply List.ext_getElem (by rw [PL_length, hl])
  intro t h1 h2
  have ht : t < 8 * n := by rw [PL_length] at h1; exact h1
  have hk : (8 * n - 1 - t) / 8 < n := by omega
  simp only [PL, List.getElem_map, List.getElem_range, pbyte]
  have hs := seg_full hl hk
  have hlen : (seg bs n (8 * n) ((8 * n - 1 - t) / 8)).length = 8 := by rw [hs]; simp
  unfold GL
  rw [nth_range _ hk]
  unfold gpart
  rw [be8_byte hlen (seg_bytes hb n _ _) (Nat.mod_lt _ (by decide)), hs, nth_range _ (by omega), show 8 * (n - 1 - (8 * n - 1 - t) / 8) + (7 - (8 * n - 1 - t) % 8) = t by omega, nth_eq h2]
theorem bytesN_strN {l : List Nat} (h : Bytes l) : bytesN (strN l) = l := by
  unfold bytesN strN strOfNums
  apply List.ext_getElem (by simp)
  intro i h1 h2
  have := h _ (List.getElem_mem h2)
  simp
  omega
theorem strN_size (l : List Nat) : (strN l).size = l.length := by
  unfold strN strOfNums
  simp [ByteArray.size]
theorem strN_bytesN (s : ByteArray) : strN (bytesN s) = s := by
  unfold strN bytesN strOfNums
  apply ByteArray.ext
  apply Array.ext'
  simp only [List.map_map]
  have h : ∀ l : List UInt8, l.map ((fun n : Int => UInt8.ofNat n.toNat) ∘ (fun x : Nat => (x : Int)) ∘ fun x : UInt8 => x.toNat) = l := by
    intro l
    induction l with
    | nil => rfl
    | cons b l ih => rw [List.map_cons, ih]; simp
  exact h _
end Go.Proofs.Ytjcbbkkoheedpaa
