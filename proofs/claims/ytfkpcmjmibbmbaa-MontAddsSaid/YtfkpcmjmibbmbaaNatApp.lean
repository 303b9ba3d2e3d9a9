import Derived.Test.YtfkpcmjmibbmbaaNatK
import Derived.Maps.AppendAt
namespace Go.Proofs.Ytfkpcmjmibbmbaa
open Go.RowKit
set_option linter.unusedVariables false

/-- The cells of a row of limbs, as a list. -/
def u64s (zs : List Nat) : List Value := zs.map fun x : Nat => Value.int .u64 (x : Int)
theorem u64s_append (a b : List Nat) : u64s a ++ u64s b = u64s (a ++ b) := by simp [u64s]
theorem u64s_get {zs : List Nat} {j : Nat} {u : Value} (h : (u64s zs)[j]? = some u) : j < zs.length ∧ u = .int .u64 (nth zs j : Nat) := by
  unfold u64s at h
  rw [List.getElem?_map] at h
  rcases Nat.lt_or_ge j zs.length with hj | hj
  · rw [List.getElem?_eq_getElem hj] at h
    simp at h
    exact ⟨hj, by rw [nth_eq hj]; exact h.symm⟩
  · rw [List.getElem?_eq_none hj] at h
    cases h
theorem u64s_one (zs : List Nat) : ∀ u ∈ u64s zs, u.oneCell' = true := by
  intro u hu
  obtain ⟨x, _, rfl⟩ := List.mem_map.1 hu
  rfl
/-- What a source reads as, in the law's words. -/
theorem sl_news {w : World} {b off : Nat} {xs : List Nat} (h : Sl w .u64 (some ⟨b, off, none⟩) xs) : ∀ j u, (u64s xs)[j]? = some u → w.cell? ((⟨b, off, none⟩ : Addr).add j) = some u := by
  intro j u hu
  obtain ⟨hj, rfl⟩ := u64s_get hu
  obtain ⟨b', off', e, _, hc⟩ := h (by omega)
  cases e
  rw [← hc j hj]
  congr 1
  unfold Addr.add
  split
  · subst j; rfl
  · rfl
theorem own_form {w : World} {base e n : Nat} {v : Value} {zs : List Nat} (h : w.ownsRow base e 1 v n (u64s zs)) (hv : v ≠ .slice none 0 0) :
    ∃ g cap, v = .slice (some ⟨g, 0, none⟩) n cap ∧ base ≤ g ∧ g < w.heap.size ∧ n ≤ cap ∧ cap ≤ maxLen ∧ zs.length = n ∧ Sl w .u64 (some ⟨g, 0, none⟩) zs := by
  have hlen : zs.length = n := by have := h.1; simpa [u64s] using this
  rcases h.2 with ⟨h0, _⟩ | ⟨g, cap, cur, hv', hb, hg, hnc, hcap, hs, ht⟩
  · exact absurd h0 hv
  · subst hv'
    have hlt : g < w.heap.size := (Array.getElem?_eq_some_iff.1 hg).1
    refine ⟨g, cap, rfl, hb, hlt, hnc, hcap, hlen, fun hp => ⟨g, 0, rfl, hlt, fun i hi => ?_⟩⟩
    have := World.ownsRow.cellAt h i (by omega)
    rw [Nat.zero_add, this]
    unfold u64s
    rw [List.getElem?_map, List.getElem?_eq_getElem hi, nth_eq hi]; rfl
theorem own_empty (w : World) (e : TypeId) : (w.alloc (.cells #[] e)).ownsRow w.heap.size e 1 (.slice (some ⟨w.heap.size, 0, none⟩) 0 0) 0 (u64s []) :=
  World.ownsRow_lit w #[] 0 (Nat.le_refl _) (Nat.zero_le _) rfl

/-- What an append to a row of the call's own leaves, in our words. -/
theorem app_form {w' : World} {base e n m : Nat} {v v' : Value} {zs xs : List Nat} (hv : v ≠ .slice none 0 0) (h : w'.ownsRow base e 1 v' (n + m) (u64s zs ++ u64s xs)) (hn : v' = .slice none 0 0 ↔ v = .slice none 0 0 ∧ m = 0) :
    ∃ g cap, v' = .slice (some ⟨g, 0, none⟩) (n + m) cap ∧ base ≤ g ∧ g < w'.heap.size ∧ n + m ≤ cap ∧ cap ≤ maxLen ∧ (zs ++ xs).length = n + m ∧ Sl w' .u64 (some ⟨g, 0, none⟩) (zs ++ xs) := by
  rw [u64s_append] at h
  exact own_form h fun e => hv (hn.1 e).1
theorem app_form0 {w' : World} {base e m : Nat} {v v' : Value} {xs : List Nat} (hv : v ≠ .slice none 0 0) (h : w'.ownsRow base e 1 v' (0 + m) (u64s [] ++ u64s xs)) (hn : v' = .slice none 0 0 ↔ v = .slice none 0 0 ∧ m = 0) :
    ∃ g cap, v' = .slice (some ⟨g, 0, none⟩) m cap ∧ base ≤ g ∧ g < w'.heap.size ∧ m ≤ cap ∧ cap ≤ maxLen ∧ w'.ownsRow base e 1 (.slice (some ⟨g, 0, none⟩) m cap) m (u64s xs) := by
  rw [Nat.zero_add, u64s_append, List.nil_append] at h
  obtain ⟨g, cap, rfl, h1, h2, h3, h4, _⟩ := own_form h fun e => hv (hn.1 e).1
  exact ⟨g, cap, rfl, h1, h2, h3, h4, h⟩
theorem below_own {B base : Nat} {a w w' : World} {v : Value} {e n : Nat} {zs : List Value} (h : Below B a w) (hown : w.ownsRow base e 1 v n zs) (hg : w.grownBy w' v.ownBlock) (hB : B ≤ w.heap.size) (hbase : B ≤ base) : Below B a w' :=
  h.grown hg hB fun k hk => by have := (hown.lt k hk).1; omega
theorem ne_nil (g n c : Nat) : Value.slice (some ⟨g, 0, none⟩) n c ≠ .slice none 0 0 := by intro h; injection h with h; cases h
end Go.Proofs.Ytfkpcmjmibbmbaa
