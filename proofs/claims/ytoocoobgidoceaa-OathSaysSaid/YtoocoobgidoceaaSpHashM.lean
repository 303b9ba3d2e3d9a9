import Derived.Test.YtoocoobgidoceaaSpRefM
namespace Go.Proofs.Ytoocoobgidoceaa

/-- What a digest is reckoned by, step by step. -/
def padK (n : Nat) : Nat := (136 - (n + 1) % 136) % 136
def padX (bs : List Nat) (k : Nat) : List Nat := bs ++ [1] ++ List.replicate k 0
def padL (bs : List Nat) : List Nat := padX bs (padK bs.length)
def padF (bs : List Nat) : List Nat := (padL bs).set ((padL bs).length - 1) (nth (padL bs) ((padL bs).length - 1) + 128)
def absP (a blk : List Nat) : Nat → List Nat
  | 0 => a
  | i + 1 => (absP a blk i).set (i / 8) (nth (absP a blk i) (i / 8) ^^^ nth blk i * 2 ^ (8 * (i % 8)))
def spN (p : List Nat) : Nat → List Nat
  | 0 => List.replicate 25 0
  | k + 1 => permN (absP (spN p k) (p.drop (136 * k)) 136) 24
def sqz1 (a : List Nat) (i : Nat) : Nat := nth a (i / 8) / 2 ^ (8 * (i % 8)) % 256
def sqzN (a : List Nat) : Nat → List Nat
  | 0 => List.replicate 32 0
  | i + 1 => (sqzN a i).set i (sqz1 a i)
def Byt (l : List Nat) : Prop := ∀ x ∈ l, x < 256
theorem Byt.getD {l : List Nat} (h : Byt l) (k : Nat) : nth l k < 256 := by
  unfold nth
  rw [List.getD_eq_getElem?_getD]
  rcases Nat.lt_or_ge k l.length with hk | hk
  · rw [List.getElem?_eq_getElem hk]; exact h _ (List.getElem_mem hk)
  · rw [List.getElem?_eq_none hk]; decide
theorem Byt.set {l : List Nat} (h : Byt l) {x : Nat} (hx : x < 256) (k : Nat) : Byt (l.set k x) := by
  intro y hy
  rcases List.mem_or_eq_of_mem_set hy with hy | rfl
  · exact h y hy
  · exact hx
theorem Byt.drop {l : List Nat} (h : Byt l) (k : Nat) : Byt (l.drop k) := fun y hy => h y (List.mem_of_mem_drop hy)
theorem padX_length (bs : List Nat) (k : Nat) : (padX bs k).length = bs.length + 1 + k := by simp [padX]; omega
theorem padX_succ (bs : List Nat) (k : Nat) : padX bs (k + 1) = padX bs k ++ [0] := by simp [padX, List.replicate_succ']
theorem padX_byt {bs : List Nat} (h : Byt bs) (k : Nat) : Byt (padX bs k) := by
  intro y hy
  simp only [padX, List.mem_append, List.mem_singleton, List.mem_replicate] at hy
  rcases hy with (hy | rfl) | ⟨_, rfl⟩
  · exact h y hy
  · decide
  · decide
theorem padK_zero {n k : Nat} (h : k ≤ padK n) : (n + 1 + k) % 136 = 0 ↔ k = padK n := by
  unfold padK at *
  omega
theorem padL_length (bs : List Nat) : (padL bs).length = bs.length + 1 + padK bs.length := padX_length _ _
theorem padL_mod (bs : List Nat) : (padL bs).length % 136 = 0 := by
  rw [padL_length]
  exact (padK_zero (Nat.le_refl _)).2 rfl
theorem padF_length (bs : List Nat) : (padF bs).length = (padL bs).length := by simp [padF]
theorem padL_last (bs : List Nat) : nth (padL bs) ((padL bs).length - 1) = 0 ∨ nth (padL bs) ((padL bs).length - 1) = 1 := by
  rw [padL_length]
  unfold padL padX nth
  rw [List.getD_eq_getElem?_getD]
  rcases hk : padK bs.length with _ | k
  · right
    simp
  · left
    rw [List.getElem?_append_right (by simp)]
    simp
theorem padL_byt {bs : List Nat} (h : Byt bs) : Byt (padL bs) := padX_byt h _
theorem padF_byt {bs : List Nat} (h : Byt bs) : Byt (padF bs) := by
  refine (padL_byt h).set ?_ _
  rcases padL_last bs with e | e <;> rw [e] <;> decide
theorem absP_length (a blk : List Nat) (i : Nat) : (absP a blk i).length = a.length := by induction i <;> simp_all [absP]
theorem byte_shift_lt {x : Nat} (h : x < 256) (i : Nat) : x * 2 ^ (8 * (i % 8)) < 18446744073709551616 := by
  have h1 : 2 ^ (8 * (i % 8)) ≤ 2 ^ 56 := Nat.pow_le_pow_right (by decide) (by omega)
  calc x * 2 ^ (8 * (i % 8)) ≤ 255 * 2 ^ 56 := Nat.mul_le_mul (by omega) h1
    _ < 18446744073709551616 := by decide
theorem absP_ok {a blk : List Nat} (oa : Ok a) (ob : Byt blk) (i : Nat) : Ok (absP a blk i) := by
  induction i with
  | zero => exact oa
  | succ i ih => exact ih.set (xor_lt (ih.getD _) (byte_shift_lt (ob.getD _) _)) _
theorem spN_length (p : List Nat) (k : Nat) : (spN p k).length = 25 := by
  induction k with
  | zero => simp [spN]
  | succ k ih => rw [spN, permN_length, absP_length, ih]
theorem spN_ok {p : List Nat} (h : Byt p) (k : Nat) : Ok (spN p k) := by
  induction k with
  | zero => exact Ok.replicate 25
  | succ k ih => exact permN_ok (absP_ok ih (h.drop _) _) _
theorem sqzN_length (a : List Nat) (i : Nat) : (sqzN a i).length = 32 := by induction i <;> simp_all [sqzN]
theorem sqzN_byt (a : List Nat) (i : Nat) : Byt (sqzN a i) := by
  induction i with
  | zero => intro y hy; rw [sqzN, List.mem_replicate] at hy; omega
  | succ i ih => exact ih.set (Nat.mod_lt _ (by decide)) _
def digN (bs : List Nat) : List Nat := sqzN (spN (padF bs) ((padF bs).length / 136)) 32
end Go.Proofs.Ytoocoobgidoceaa
