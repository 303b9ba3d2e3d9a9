import Derived.Test.YtjcbbkkoheedpaaNatD
namespace Go.Proofs.Ytjcbbkkoheedpaa
open Go.RowKit
set_option linter.unusedVariables false

theorem sl_new (w : World) (T : TypeId) (k : IntKind) (zs : List Nat) : Sl (w.alloc (.cells (lim k zs) T)) k (some ⟨w.heap.size, 0, none⟩) zs := Sl.of_own (Own.new w T k zs)

set_option maxHeartbeats 400000 in
/-- chirographlaw01.alive -/
theorem alive_any (w : World) : Calls Try.prog 15 #[] w fun e w' => e = .returned (.bool true) ∧ Below w.heap.size w w' := by
  go_enter Try.func15, Try.ntmps15
  go_wp2_with fail
  have h1 : Ok [1] := Ok.cons (by decide) Ok.nil
  have s1 : Sl (w.alloc (.cells #[Value.int .u64 1] 23)) .u64 (some ⟨w.heap.size, 0, none⟩) [1] := sl_new w 23 .u64 [1]
  have s1' : Sl ((w.alloc (.cells #[Value.int .u64 1] 23)).alloc (.cells #[Value.int .u64 1] 23)) .u64 (some ⟨w.heap.size, 0, none⟩) [1] := s1.bel ((Below.refl _ _).alloc (Nat.le_refl _) _)
  have s2 : Sl ((w.alloc (.cells #[Value.int .u64 1] 23)).alloc (.cells #[Value.int .u64 1] 23)) .u64 (some ⟨w.heap.size + 1, 0, none⟩) [1] := by
    have := sl_new (w.alloc (.cells #[Value.int .u64 1] 23)) 23 .u64 [1]
    have e : (w.alloc (.cells #[Value.int .u64 1] 23)).heap.size = w.heap.size + 1 := by simp
    rw [e] at this
    exact this
  refine (add_any _ _ 1 1 1 1 [1] [1] _ (Nat.le_refl _) (by decide) (Nat.le_refl _) (by decide) rfl rfl h1 h1 s1' s2).mono ?_
  rintro e w1 ⟨g, zs, cy, rfl, own, hz, oz, hcy, hv, hb⟩
  have hz1 : zs.length = 1 := hz
  match zs, hz1 with
  | [x], _ =>
    have hx := oz.head
    have hv' : x + 18446744073709551616 * cy = 2 := by simpa [val, pw] using hv
    obtain rfl : cy = 0 := by omega
    obtain rfl : x = 2 := by omega
    have hc := own.cell (i := 0) (by decide)
    have hB := Lib.hid ((((Below.refl w.heap.size w).alloc (Nat.le_refl _) (.cells #[Value.int .u64 1] 23)).alloc (by simp) (.cells #[Value.int .u64 1] 23)).trans (hb.mono (by simp; omega)))
    clear s1 s1' s2 hv hv' own hb hz
    go_wp2
    go_ret
    exact ⟨rfl, hB.out⟩
end Go.Proofs.Ytjcbbkkoheedpaa
