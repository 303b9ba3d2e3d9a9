import Derived.Test.YtjcbbkkoheedpaaNatBkw
namespace Go.Proofs.Ytjcbbkkoheedpaa

/-- The bytes of what has come, and of j bytes of x behind. -/
def xbyte (x : Nat × Nat) (j : Nat) : Nat := x.2 / 2 ^ (56 - 8 * j) % 256
def xbytes (x : Nat × Nat) (j : Nat) : List Nat := (List.range j).map (xbyte x)
def bytesOf (pre : List (Nat × Nat)) : List Nat := pre.flatMap fun x => xbytes x 8
theorem xbytes_succ (x : Nat × Nat) (j : Nat) : xbytes x (j + 1) = xbytes x j ++ [xbyte x j] := by simp [xbytes, List.range_succ]
theorem xbytes_length (x : Nat × Nat) (j : Nat) : (xbytes x j).length = j := by simp [xbytes]
theorem bytesOf_snoc (pre : List (Nat × Nat)) (x : Nat × Nat) : bytesOf (pre ++ [x]) = bytesOf pre ++ xbytes x 8 := by simp [bytesOf]
theorem bytesOf_length (pre : List (Nat × Nat)) : (bytesOf pre).length = 8 * pre.length := by
  induction pre with
  | nil => rfl
  | cons x l ih =>
    have : bytesOf (x :: l) = xbytes x 8 ++ bytesOf l := by simp [bytesOf]
    rw [this, List.length_append, xbytes_length, ih, List.length_cons]; omega
theorem bytesOf_PL (xs : List Nat) (n : Nat) : ∀ k, k ≤ n → bytesOf (bkws xs n k) = PL xs n (8 * k)
  | 0, _ => rfl
  | k + 1, h => by
    rw [bkws_succ, bytesOf_snoc, bytesOf_PL xs n k (by omega)]
    have step : ∀ j, j ≤ 8 → PL xs n (8 * k + j) = PL xs n (8 * k) ++ xbytes (bkw xs n k) j := by
      intro j
      induction j with
      | zero => intro _; simp [xbytes]
      | succ j ih =>
        intro hj
        rw [show 8 * k + (j + 1) = (8 * k + j) + 1 by omega, PL_succ, ih (by omega), xbytes_succ, List.append_assoc]
        congr 2
        unfold pbyte xbyte bkw
        rw [show (8 * n - 1 - (8 * k + j)) / 8 = n - 1 - k by omega, show 8 * ((8 * n - 1 - (8 * k + j)) % 8) = 56 - 8 * j by omega]
    rw [show 8 * (k + 1) = 8 * k + 8 by omega, step 8 (Nat.le_refl _)]
end Go.Proofs.Ytjcbbkkoheedpaa
