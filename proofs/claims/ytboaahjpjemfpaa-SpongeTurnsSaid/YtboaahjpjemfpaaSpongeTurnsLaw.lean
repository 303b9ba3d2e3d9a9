import Derived.Test.YtboaahjpjemfpaaSpEq
namespace Go.Proofs.Ytboaahjpjemfpaa
open Go.RowKit
set_option linter.unusedVariables false

set_option maxHeartbeats 1000000 in
theorem spongeTurns_any (zs : List Nat) (w : World) (ha : zs.length = 25) (oa : Ok zs) :
    Calls Try.prog 3 #[.agg (lim .u64 zs)] w fun e w' => e = .returned (.bool true) ∧ Below w.heap.size w w' := by
  have hal : Try.prog.arrayLen 23 = 25 := by kernel_rfl
  have HP := Lib.hid (fun W => permute_any zs W ha oa)
  have HQ := Lib.hid (fun W => refperm_any zs W ha oa)
  have he : prmL zs 24 = permN zs 24 := perm_same ha 24 (Nat.le_refl _)
  rw [he] at HQ
  clear he
  have lr : (permN zs 24).length = 25 := by rw [permN_length, ha]
  generalize permN zs 24 = r at *
  have heq : ∀ w, (Op.equalIn 10000 23 (.agg (lim .u64 r)) (.agg (lim .u64 r))).run Try.prog w = .ok true w := fun w => by rw [eq_lim r r lr lr w]; simp
  go_enter Try.func3, Try.ntmps3
  go_wp2_with fail
  have o1 := (Own.new w 23 .u64 zs).drew
  have hb := ((Below.refl w.heap.size w).alloc (Nat.le_refl _) (.cells (lim .u64 zs) 23)).drew
  refine wp_region_any (by kernel_rfl) ?_
  change wpAny _ _ _ _ _ _ _ (World.drew _)
  generalize (w.alloc (.cells (lim .u64 zs) 23)).drew = w0 at *
  refine wpAny_ready (rs := [0]) (by kernel_rfl) (by simp) ?_
  refine AllReady.cons rfl (fun K hK => ?_) AllReady.nil
  go_simp
  refine (alive_any _).mono ?_
  rintro e w1 ⟨rfl, b1⟩
  refine hK _ _ ?_
  clear hK K
  have o2 := o1.bel b1
  have hb1 := hb.trans (b1.mono hb.size)
  clear o1 hb b1
  refine wpAny_take (i := 1) (v := .bool true) rfl (by kernel_rfl) (by kernel_rfl) (by kernel_rfl) (fun _ _ _ h => h) (Or.inl ⟨by rfl, ?_⟩) ?_
  · intro w
    go_simp
  refine wpAny_ready (rs := [2, 4]) (by kernel_rfl) (by simp) ?_
  refine AllReady.cons rfl (fun K hK => ?_) (AllReady.cons rfl (fun K hK => ?_) AllReady.nil)
  · refine step_load_rowG o2 (by rfl) 23 (.tmp 1) rfl rfl 25 22 ha (by kernel_rfl) (by kernel_rfl) ?_
    refine hK _ _ ?_
    clear hK K
    refine wpAny_ready (rs := [3, 4]) (by kernel_rfl) (by simp) ?_
    refine AllReady.cons rfl (fun K hK => ?_) (AllReady.cons rfl (fun K hK => ?_) AllReady.nil)
    · go_simp
      refine (HP.out _).mono ?_
      rintro e w2 ⟨rfl, b2⟩
      refine hK _ _ ?_
      clear hK K
      have o3 := o2.bel b2
      have hb2 := hb1.trans (b2.mono hb1.size)
      refine wpAny_ready (rs := [4]) (by kernel_rfl) (by simp) ?_
      refine AllReady.cons rfl (fun K hK => ?_) AllReady.nil
      refine step_load_rowG o3 (by rfl) 23 (.tmp 1) rfl rfl 25 22 ha (by kernel_rfl) (by kernel_rfl) ?_
      refine hK _ _ ?_
      clear hK K
      refine wpAny_ready (rs := [5]) (by kernel_rfl) (by simp) ?_
      refine AllReady.cons rfl (fun K hK => ?_) AllReady.nil
      go_simp
      refine (HQ.out _).mono ?_
      rintro e w3 ⟨rfl, b3⟩
      refine hK _ _ ?_
      clear hK K
      have o4 := o3.bel b3
      have hb3 := hb2.trans (b3.mono hb2.size)
      refine wpAny_ready (rs := [6]) (by kernel_rfl) (by simp) ?_
      refine AllReady.cons rfl (fun K hK => ?_) AllReady.nil
      go_simp
      refine hK _ _ ?_
      clear hK K
      refine wpAny_ready (rs := [7]) (by kernel_rfl) (by simp) ?_
      refine AllReady.cons rfl (fun K hK => ?_) AllReady.nil
      go_simp
      refine hK _ _ ?_
      clear hK K
      refine wpAny_ready (rs := [8]) (by kernel_rfl) (by simp) ?_
      refine AllReady.cons rfl (fun K hK => ?_) AllReady.nil
      go_simp
      refine hK _ _ ?_
      clear hK K
      refine wpAny_done (by kernel_rfl) ?_ _
      go_wp2_with fail
      go_ret
      exact ⟨rfl, hb3⟩
    · refine step_load_rowG o2 (by rfl) 23 (.tmp 1) rfl rfl 25 22 ha (by kernel_rfl) (by kernel_rfl) ?_
      refine hK _ _ ?_
      clear hK K
      refine wpAny_ready (rs := [3]) (by kernel_rfl) (by simp) ?_
      refine AllReady.cons rfl (fun K hK => ?_) AllReady.nil
      go_simp
      refine (HP.out _).mono ?_
      rintro e w2 ⟨rfl, b2⟩
      refine hK _ _ ?_
      clear hK K
      have o3 := o2.bel b2
      have hb2 := hb1.trans (b2.mono hb1.size)
      refine wpAny_ready (rs := [5]) (by kernel_rfl) (by simp) ?_
      refine AllReady.cons rfl (fun K hK => ?_) AllReady.nil
      go_simp
      refine (HQ.out _).mono ?_
      rintro e w3 ⟨rfl, b3⟩
      refine hK _ _ ?_
      clear hK K
      have o4 := o3.bel b3
      have hb3 := hb2.trans (b3.mono hb2.size)
      refine wpAny_ready (rs := [6]) (by kernel_rfl) (by simp) ?_
      refine AllReady.cons rfl (fun K hK => ?_) AllReady.nil
      go_simp
      refine hK _ _ ?_
      clear hK K
      refine wpAny_ready (rs := [7]) (by kernel_rfl) (by simp) ?_
      refine AllReady.cons rfl (fun K hK => ?_) AllReady.nil
      go_simp
      refine hK _ _ ?_
      clear hK K
      refine wpAny_ready (rs := [8]) (by kernel_rfl) (by simp) ?_
      refine AllReady.cons rfl (fun K hK => ?_) AllReady.nil
      go_simp
      refine hK _ _ ?_
      clear hK K
      refine wpAny_done (by kernel_rfl) ?_ _
      go_wp2_with fail
      go_ret
      exact ⟨rfl, hb3⟩
  · refine step_load_rowG o2 (by rfl) 23 (.tmp 1) rfl rfl 25 22 ha (by kernel_rfl) (by kernel_rfl) ?_
    refine hK _ _ ?_
    clear hK K
    refine wpAny_ready (rs := [2]) (by kernel_rfl) (by simp) ?_
    refine AllReady.cons rfl (fun K hK => ?_) AllReady.nil
    refine step_load_rowG o2 (by rfl) 23 (.tmp 1) rfl rfl 25 22 ha (by kernel_rfl) (by kernel_rfl) ?_
    refine hK _ _ ?_
    clear hK K
    refine wpAny_ready (rs := [3]) (by kernel_rfl) (by simp) ?_
    refine AllReady.cons rfl (fun K hK => ?_) AllReady.nil
    go_simp
    refine (HP.out _).mono ?_
    rintro e w2 ⟨rfl, b2⟩
    refine hK _ _ ?_
    clear hK K
    have o3 := o2.bel b2
    have hb2 := hb1.trans (b2.mono hb1.size)
    refine wpAny_ready (rs := [5]) (by kernel_rfl) (by simp) ?_
    refine AllReady.cons rfl (fun K hK => ?_) AllReady.nil
    go_simp
    refine (HQ.out _).mono ?_
    rintro e w3 ⟨rfl, b3⟩
    refine hK _ _ ?_
    clear hK K
    have o4 := o3.bel b3
    have hb3 := hb2.trans (b3.mono hb2.size)
    refine wpAny_ready (rs := [6]) (by kernel_rfl) (by simp) ?_
    refine AllReady.cons rfl (fun K hK => ?_) AllReady.nil
    go_simp
    refine hK _ _ ?_
    clear hK K
    refine wpAny_ready (rs := [7]) (by kernel_rfl) (by simp) ?_
    refine AllReady.cons rfl (fun K hK => ?_) AllReady.nil
    go_simp
    refine hK _ _ ?_
    clear hK K
    refine wpAny_ready (rs := [8]) (by kernel_rfl) (by simp) ?_
    refine AllReady.cons rfl (fun K hK => ?_) AllReady.nil
    go_simp
    refine hK _ _ ?_
    clear hK K
    refine wpAny_done (by kernel_rfl) ?_ _
    go_wp2_with fail
    go_ret
    exact ⟨rfl, hb3⟩
end Go.Proofs.Ytboaahjpjemfpaa
