import Derived.Test.YtfkpcmjmibbmbaaMontBits
import Derived.Deep.CutRange
import Derived.Deep.RegionWith
import Derived.Lib.LazyBuf
namespace Go.Proofs.Ytfkpcmjmibbmbaa
open Go.RowKit Go.Shelf
set_option linter.unusedVariables false

theorem pmod_mul_in (a b M : Nat) : a % M * b % M = a * b % M := by rw [Nat.mul_mod, Nat.mod_mod, ← Nat.mul_mod]
theorem pcancel_pw {M k x y : Nat} (h : M % 2 = 1) (e : x * pw k % M = y * pw k % M) : x % M = y % M := by
  rw [pw_two] at e; exact mul_cancel_mod h (64 * k) e
/-- A product of brought in numbers is the product brought in. -/
theorem pow_mul {A B M k u v z : Nat} (h : M % 2 = 1) (hu : u = A * pw k % M) (hv : v = B * pw k % M) (hz : MulR u v M k z) : z = A * B * pw k % M := by
  have h2 : z * pw k % M = A * B * pw k * pw k % M := by
    rw [hz.2, hu, hv, ← Nat.mul_mod]
    congr 1
    rw [Nat.mul_mul_mul_comm, Nat.mul_assoc (A * B)]
  rw [← pcancel_pw h h2, Nat.mod_eq_of_lt hz.1]
theorem pow_sq {a n M k v z : Nat} (h : M % 2 = 1) (hv : v = a ^ n * pw k % M) (hz : MulR v v M k z) : z = a ^ (2 * n) * pw k % M := by
  rw [pow_mul h hv hv hz, ← Nat.pow_add, ← Nat.two_mul]
theorem pow_back {A M k u v : Nat} (h : M % 2 = 1) (hu : u = A * pw k % M) (hv : MulR u 1 M k v) : v = A % M := by
  have h1 : v * pw k % M = A * pw k % M := by rw [hv.2, Nat.mul_one, hu, Nat.mod_mod]
  rw [← pcancel_pw h h1, Nat.mod_eq_of_lt hv.1]

/-- A row of the call's own, in our words. -/
theorem ownsRow_x {w : World} {base e k : Nat} {v : Value} {xs : List Nat} (h : w.ownsRow base e 1 v k (u64s xs)) (hk : 0 < k) :
    ∃ g cap ex, v = .slice (some ⟨g, 0, none⟩) k cap ∧ OwnX ex w g e xs ∧ base ≤ g ∧ k ≤ cap ∧ cap ≤ maxLen := by
  obtain ⟨hlen, h⟩ := h
  rcases h with ⟨_, h0⟩ | ⟨g, cap, cur, rfl, hg, hb, h1, h2, h3, h4⟩
  · omega
  · refine ⟨g, cap, cur.toList.drop k, rfl, ?_, hg, h1, h2⟩
    rw [Nat.mul_one] at h4
    have e1 : lim .u64 xs ++ (cur.toList.drop k).toArray = cur := by
      have h5 : lim .u64 xs = (cur.toList.take k).toArray := by rw [h4]; simp [lim, u64s]
      rw [h5, List.append_toArray, List.take_append_drop]
    unfold OwnX; rw [e1]; exact hb

set_option maxHeartbeats 1000000 in
/-- slices.Clone, of a row that is not nil -/
theorem clone_x (A : Option Addr) (k c : Nat) (xs : List Nat) (w : World) (hk0 : 0 < k) (hk8 : k ≤ 8) (hx : xs.length = k) (sx : Sl w .u64 A xs) :
    Calls Try.prog 42 #[.slice A k c] w fun e w' => ∃ g cap ex, e = .returned (.slice (some ⟨g, 0, none⟩) k cap) ∧ OwnX ex w' g 22 xs ∧ w.heap.size ≤ g ∧ k ≤ cap ∧ cap ≤ maxLen ∧ Below w.heap.size w w' := by
  obtain ⟨i0, hi, hz0, hz1, hz2⟩ := info_parts info_u64
  have S2 : Sl (w.alloc (.cells #[] 22)) .u64 A xs := sx.bel ((Below.refl _ _).alloc (Nat.le_refl _) _)
  obtain ⟨b, off, rfl, hlb, _⟩ := sx (by omega)
  have Hx := Lib.hid hx
  clear hx sx
  have hnil : (binOp .eql 26 (.slice (some ⟨b, off, none⟩) k c) (.slice none 0 0)).run Try.prog w = .ok (.bool false) w := run_eql_slice_nil w 26 22 (some ⟨b, off, none⟩) k c Try.underlying26
  go_enter Try.func42, Try.ntmps42
  go_wp2_with (at_builtin; refine wpList_append_own _ rfl (.tmp 5) (.tmp 6) 26 rfl w.heap.size 22 i0 (.int .u64 0) 1 8 Try.underlying26 hi hz0 hz1 hz2 rfl (by decide) _ 0 (u64s []) rfl (own_empty _ _) ⟨b, off, none⟩ k c (u64s xs) rfl (by simp only [u64s, List.length_map, Hx.out, Nat.mul_one]) (sl_news S2) (u64s_one _) (by unfold maxLen; omega) (by omega) (by simp) ?_; intro v3 w3 hown3 hgr3 hnil3; have b3 := below_own ((Below.refl w.heap.size w).alloc (Nat.le_refl _) (.cells #[] 22)) (own_empty w 22) hgr3 (by simp) (Nat.le_refl _); rw [Nat.zero_add, u64s_append, List.nil_append] at hown3; obtain ⟨g3, cap3, ex3, rfl, own3, hg3, hcap3, hcap3'⟩ := ownsRow_x hown3 hk0; clear hnil3 hgr3 hown3)
  go_ret
  exact ⟨g3, cap3, ex3, rfl, own3, hg3, hcap3, hcap3', b3⟩


/-- copy(out, row), both of k limbs, out the head of a block. -/
theorem run_copy_x {P : Program} {w : World} (dT sT tT : TypeId) (elem : TypeId) (hu : P.underlying dT = some (.slice elem)) (hsz : (P.info? elem).map (·.size) = some 1)
    (go k co cr : Nat) (R : Option Addr) (T : TypeId) (zo rs : List Nat) (ex : List Value) (own : OwnX ex w go T zo) (hzo : zo.length = k) (sr : Sl w .u64 R rs) (hr : rs.length = k) (hk : 0 < k) :
    ∃ w', Sem.run P (Builtin.copy_ #[dT, sT] tT #[.slice (some ⟨go, 0, none⟩) k co, .slice R k cr]) w = .ok (goInt k) w' ∧ OwnX ex w' go T rs ∧ w.grownBy w' (some go) := by
  obtain ⟨b, off, rfl, _, hc⟩ := sr (by omega)
  have hlen : (rs.map fun x : Nat => Value.int .u64 (x : Int)).length = k := by rw [List.length_map, hr]
  have hcur : w.heap[go]? = some (.cells (lim .u64 zo ++ ex.toArray) T (0, 0)) := own
  have hsrc : ∀ j v, (rs.map fun x : Nat => Value.int .u64 (x : Int))[j]? = some v → w.cell? (Addr.add ⟨b, off, none⟩ j) = some v := by
    intro j v hv
    rw [List.getElem?_map] at hv
    rcases Nat.lt_or_ge j rs.length with hj | hj
    · rw [List.getElem?_eq_getElem hj] at hv
      simp only [Option.map_some, Option.some.injEq] at hv
      subst hv
      rw [← nth_eq hj, ← hc j hj]
      congr 1
      unfold Addr.add
      split
      · subst j; rfl
      · rfl
    · rw [List.getElem?_eq_none hj] at hv
      cases hv
  have hrun := run_copy_row (P := P) w dT sT tT elem go 0 k co ⟨b, off, none⟩ k cr (lim .u64 zo ++ ex.toArray) T (rs.map fun x : Nat => Value.int .u64 (x : Int)) hu hsz hcur (by rw [hlen]; exact (Nat.min_self k).symm) hsrc (by rw [hlen, Array.size_append, lim_size, hzo]; omega) (fun v hv => by obtain ⟨x, _, rfl⟩ := List.mem_map.1 hv; rfl)
  have hl : ((lim .u64 zo).toList).length = k := by rw [Array.length_toList, lim_size, hzo]
  have e : ((lim .u64 zo ++ ex.toArray).toList.take 0 ++ ((rs.map fun x : Nat => Value.int .u64 (x : Int)) ++ (lim .u64 zo ++ ex.toArray).toList.drop (0 + k))).toArray = lim .u64 rs ++ ex.toArray := by
    rw [Array.toList_append, Nat.zero_add, ← hl, List.drop_left]
    simp [lim]
  rw [hlen, List.append_assoc, e] at hrun
  exact ⟨_, hrun, setRow_heap w go _ _ T _ hcur, rfl, rfl, rfl, by simp [World.setRow], fun i hi hne => setRow_other w go i _ (fun e => hne (by rw [e]))⟩
end Go.Proofs.Ytfkpcmjmibbmbaa
