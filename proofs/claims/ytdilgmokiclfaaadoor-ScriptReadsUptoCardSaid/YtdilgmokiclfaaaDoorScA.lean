/- Chapter 24: elements of the field: fr.Right, less. -/
import Derived.Test.YtdilgmokiclfaaaDoorFrF
import Derived.Deep.MidRow
import Derived.BigQuiet
namespace Go.Proofs.YtdilgmokiclfaaaDoor
open Go.RowKit
set_option linter.unusedVariables false
set_option maxRecDepth 100000

theorem fl_len4 (v : Nat) : (fl v).length = min 4 16 := rfl
theorem rL_len4 : rL.length = min 4 16 := rfl
theorem ltB_cmp (a b : Nat) : decide (cmpN a b < 0) = ltB a b := by
  unfold cmpN ltB
  by_cases h1 : a < b
  · simp [h1]
  · by_cases h2 : b < a <;> simp [h1, h2]
set_option maxHeartbeats 1000000 in
/-- fr.Right -/
theorem fright_any (v : Nat) (w : World) (hv : v < pw 4) :
    Calls Tryd.prog 51 #[.agg (lim .u64 (fl v))] w fun e w' => e = .returned (.bool (ltB v rN)) ∧ Below w.heap.size w w' := by
  have D1 := Lib.hid (fun W => coreR_any W)
  have hal1 : Tryd.prog.arrayLen 24 = 4 := by kernel_rfl
  have hl : val (fl v) = v := fl_val hv
  have Hv := Lib.hid hl
  have ok := fl_ok v
  have hx : (fl v).length = 4 := rfl
  have Hx := Lib.hid hx
  clear hv hl
  have o1 := Own.new w 24 .u64 (fl v)
  have b0 := (Below.refl w.heap.size w).alloc (Nat.le_refl _) (.cells (lim .u64 (fl v)) 24)
  generalize fl v = xs at *
  clear hx
  go_enter Tryd.func51, Tryd.ntmps51
  go_wp2_with fail
  refine (D1.out _).mono ?_
  rintro e w1 ⟨rfl, b1⟩
  have p1 := (o1.bel b1).alloc (.cells (lim .u64 rL) 24)
  have p2 := Own.new w1 24 .u64 rL
  have b2 := (b0.trans (b1.mono b0.size)).alloc (b0.trans (b1.mono b0.size)).size (.cells (lim .u64 rL) 24)
  clear o1 b1 b0
  go_wp2_with (refine wpList_store_new rfl 24 (.tmp 3) (.tmp 4) rfl .u64 rL rfl rfl 24 _ (by kernel_rfl) rfl ?_)
  generalize w1.alloc (.cells (lim .u64 rL) 24) = W2 at *
  have C1 := Lib.hid (fun W (h1 : Own W w.heap.size 24 .u64 xs) (h2 : Own W w1.heap.size 24 .u64 rL) => cmp_any (some ⟨w.heap.size, 0, none⟩) (some ⟨w1.heap.size, 0, none⟩) 4 4 4 4 xs rL W (by decide) (by decide) (by decide) (by decide) (by rw [Hx.out]; rfl) rfl ok rL_ok (Sl.of_own h1) (Sl.of_own h2))
  go_quiet ((go_at_call 72; exact Calls.quiet_of_same ((C1.out _ (p1.drewN _) (p2.drewN _)).mono fun _ _ ⟨h1, h2⟩ => ⟨h1, h2.symm⟩)))
  go_wp2_with fail
  go_ret
  refine ⟨?_, below_drewN b2 _⟩
  rw [Hv.out, rL_val, ← ltB_cmp]
  rfl
end Go.Proofs.YtdilgmokiclfaaaDoor
