import Derived.Test.YtboaahjpjemfpaaSpA
import Derived.Deep.RegionWith
namespace Go.Proofs.Ytboaahjpjemfpaa
open Go.RowKit
set_option linter.unusedVariables false

theorem step_load_row {P : Program} {ops : Array Oper} {o : Oper} {a : Act} {w : World} {K : Act → World → Prop} {Q : Exit → Act → World → Prop} {E : Prop} {g : Nat} {T : TypeId} {k : IntKind} {zs : List Nat} (own : Own w g T k zs)
    (hgd : o.guard = none) (ty : TypeId) (x : Operand) (ho : o.op = .load ty x) (hx : a.eval x = .pointer (some ⟨g, 0, none⟩)) (n : Nat) (e : TypeId) (hn : zs.length = n)
    (hu : P.underlying ty = some (.array n e)) (hi : (P.info? ty).map (·.size) = some n)
    (h : K (a.put o.dst (.agg (lim k zs))) w) : if Region.wanted o (yielded ops a.tmps) = true then Oper.wp P o a w K Q else E := by
  have hw : Region.wanted o (yielded ops a.tmps) = true := by simp [Region.wanted, hgd]
  rw [if_pos hw]
  exact wp_load_row ty x ho g hx T (lim k zs) (0, 0) _ own hu rfl (by rw [lim_size, hn]; exact hi) h
theorem step_store_row {P : Program} {ops : Array Oper} {o : Oper} {a : Act} {w : World} {K : Act → World → Prop} {Q : Exit → Act → World → Prop} {E : Prop} {g : Nat} {T : TypeId} {k k' : IntKind} {zs rs : List Nat} (own : Own w g T k zs)
    (hgd : o.guard = none) (ty : TypeId) (x y : Operand) (ho : o.op = .store ty x y) (hx : a.eval x = .pointer (some ⟨g, 0, none⟩)) (hy : a.eval y = .agg (lim k' rs)) (n : Nat) (hn : zs.length = n) (hr : rs.length = n)
    (hi : (P.info? ty).map (·.size) = some n)
    (h : K (a.put o.dst undef) (w.setRow g (lim k' rs))) : if Region.wanted o (yielded ops a.tmps) = true then Oper.wp P o a w K Q else E := by
  have hw : Region.wanted o (yielded ops a.tmps) = true := by simp [Region.wanted, hgd]
  rw [if_pos hw]
  exact wp_store_row ty x y ho g (lim k' rs) hx hy T (lim k zs) own (by rw [lim_size, hr]; exact hi) (by rw [lim_size, lim_size, hn, hr]) (lim_one _ _) h

structure PrmEq (zs pp : List Nat) : Prop where
  eq : permN zs 24 = pp
def PermRel (zs : List Nat) (s : Nat) (w : World) (i : Value) (wr : World) : Prop :=
  ∃ j : Nat, j ≤ 24 ∧ i = .int .i64 (j : Int) ∧ Own wr s 23 .u64 (permN zs j) ∧ Own wr (s + 1) 23 .u64 (List.replicate 25 0) ∧ Below s w wr

theorem PermRel.step {zs rr : List Nat} {s j : Nat} {w wr w2 w3 : World} (hj : j < 24) (o1 : Own wr s 23 .u64 (permN zs j)) (o2 : Own wr (s + 1) 23 .u64 (List.replicate 25 0)) (hb : Below s w wr)
    (b1 : Below wr.heap.size wr w2) (ew : w2.setRow s (lim .u64 rr) = w3) (er : rr = roundS (permN zs j) (nth rcs j)) :
    PermRel zs s w (.int .i64 ((j + 1 : Nat) : Int)) w3 := by
  have h1 := o1.bel b1
  have h2 := o2.bel b1
  have h3 : Own w3 s 23 .u64 rr := by rw [← ew]; exact setRow_heap _ _ _ _ _ _ h1
  have h4 : Own w3 (s + 1) 23 .u64 (List.replicate 25 0) := by rw [← ew]; exact (setRow_other _ _ _ _ (by omega)).trans h2
  have h5 : Below s w w3 := by rw [← ew]; exact below_setRow (hb.trans (b1.mono (Nat.le_of_lt o1.lt))) (Nat.le_refl _) _
  have e : permN zs (j + 1) = rr := by rw [er, permN]
  exact ⟨j + 1, by omega, rfl, by rw [e]; exact h3, h4, h5⟩

set_option maxHeartbeats 1000000 in
/-- sponge.Permute -/
theorem permute_any (zs : List Nat) (w : World) (ha : zs.length = 25) (oa : Ok zs) :
    Calls Try.prog 9 #[.agg (lim .u64 zs)] w fun e w' => e = .returned (.agg (lim .u64 (permN zs 24))) ∧ Below w.heap.size w w' := by
  have hal : Try.prog.arrayLen 23 = 25 := by kernel_rfl
  go_enter Try.func9, Try.ntmps9
  go_wp2
  go_loopw [4] (PermRel zs w.heap.size w) (fun i _ => 24 - (intOf i).toNat)
  case atStart => exact ⟨0, by omega, rfl, (Own.new w 23 .u64 zs).alloc _, own_new1 w _ 23 .u64 (List.replicate 25 0), ((Below.refl _ _).alloc (Nat.le_refl _) _).alloc (by simp) _⟩
  case round =>
    obtain ⟨j, hj, rfl, o1, o2, hb⟩ := hrel
    by_cases hj25 : j < 24
    · have lp : (permN zs j).length = 25 := by rw [permN_length, ha]
      have op := permN_ok oa j
      have hrc : nth rcs j < 18446744073709551616 := rcs_ok.getD _
      have HS := Lib.hid (fun (rr : List Nat) (wr w2 w3 : World) (hj : j < 24) (o1 : Own wr w.heap.size 23 .u64 (permN zs j)) (o2 : Own wr (w.heap.size + 1) 23 .u64 (List.replicate 25 0)) (hb : Below w.heap.size w wr) (b1 : Below wr.heap.size wr w2) (ew : w2.setRow w.heap.size (lim .u64 rr) = w3) (er : rr = roundS (permN zs j) (nth rcs j)) => PermRel.step hj o1 o2 hb b1 ew er)
      generalize permN zs j = pp at *
      go_wp2_with fail
      have o1d := o1.drew
      have o2d := o2.drew
      have hbd : Below w.heap.size w wr.drew := below_drewN hb 1
      refine wp_region_any (by kernel_rfl) ?_
      change wpAny _ _ _ _ _ _ _ (World.drew _)
      clear o1 o2 hb
      generalize wr.drew = w0 at *
      refine wpAny_take (i := 1) (v := .int .i64 (j : Int)) rfl (by kernel_rfl) (by kernel_rfl) (by kernel_rfl) (fun _ _ _ h => h) (Or.inl ⟨by rfl, ?_⟩) ?_
      · intro w
        go_simp
      refine wpAny_ready (rs := [0, 2]) (by kernel_rfl) (by simp) ?_
      refine AllReady.cons rfl (fun K hK => ?_) (AllReady.cons rfl (fun K hK => ?_) AllReady.nil)
      · refine step_load_row o1d rfl 23 (.tmp 1) rfl rfl 25 22 lp (by kernel_rfl) (by kernel_rfl) ?_
        refine hK _ _ ?_
        clear hK K
        refine wpAny_ready (rs := [2]) (by kernel_rfl) (by simp) ?_
        refine AllReady.cons rfl (fun K hK => ?_) AllReady.nil
        go_simp
        refine (constant_any j _ hj25).mono ?_
        rintro e w1 ⟨rfl, b1⟩
        refine hK _ _ ?_
        clear hK K
        refine wpAny_ready (rs := [3]) (by kernel_rfl) (by simp) ?_
        refine AllReady.cons rfl (fun K hK => ?_) AllReady.nil
        go_simp
        refine (round_any pp (nth rcs j) _ lp op hrc).mono ?_
        rintro e w2 ⟨rfl, b2⟩
        refine hK _ _ ?_
        clear hK K
        have b3 := b1.trans (b2.mono b1.size)
        have lr : (roundS pp (nth rcs j)).length = 25 := by rw [roundS_length, lp]
        have HS2 := Lib.hid (fun w3 ew => HS.out (roundS pp (nth rcs j)) w0 w2 w3 hj25 o1d o2d hbd b3 ew rfl)
        clear HS
        generalize roundS pp (nth rcs j) = rr at *
        refine wpAny_ready (rs := [4]) (by kernel_rfl) (by simp) ?_
        refine AllReady.cons rfl (fun K hK => ?_) AllReady.nil
        refine step_store_row (o1d.bel b3) rfl 23 (.tmp 1) (.tmp 10) rfl rfl rfl 25 lp lr (by kernel_rfl) ?_
        refine hK _ _ ?_
        clear hK K
        refine wpAny_done (by kernel_rfl) ?_ _
        go_wp2_with fail
        exact ⟨HS2.out _ rfl, by simp [intOf]; omega⟩
      · go_simp
        refine (constant_any j _ hj25).mono ?_
        rintro e w1 ⟨rfl, b1⟩
        refine hK _ _ ?_
        clear hK K
        refine wpAny_ready (rs := [0]) (by kernel_rfl) (by simp) ?_
        refine AllReady.cons rfl (fun K hK => ?_) AllReady.nil
        refine step_load_row (o1d.bel b1) rfl 23 (.tmp 1) rfl rfl 25 22 lp (by kernel_rfl) (by kernel_rfl) ?_
        refine hK _ _ ?_
        clear hK K
        refine wpAny_ready (rs := [3]) (by kernel_rfl) (by simp) ?_
        refine AllReady.cons rfl (fun K hK => ?_) AllReady.nil
        go_simp
        refine (round_any pp (nth rcs j) _ lp op hrc).mono ?_
        rintro e w2 ⟨rfl, b2⟩
        refine hK _ _ ?_
        clear hK K
        have b3 := b1.trans (b2.mono b1.size)
        have lr : (roundS pp (nth rcs j)).length = 25 := by rw [roundS_length, lp]
        have HS2 := Lib.hid (fun w3 ew => HS.out (roundS pp (nth rcs j)) w0 w2 w3 hj25 o1d o2d hbd b3 ew rfl)
        clear HS
        generalize roundS pp (nth rcs j) = rr at *
        refine wpAny_ready (rs := [4]) (by kernel_rfl) (by simp) ?_
        refine AllReady.cons rfl (fun K hK => ?_) AllReady.nil
        refine step_store_row (o1d.bel b3) rfl 23 (.tmp 1) (.tmp 10) rfl rfl rfl 25 lp lr (by kernel_rfl) ?_
        refine hK _ _ ?_
        clear hK K
        refine wpAny_done (by kernel_rfl) ?_ _
        go_wp2_with fail
        exact ⟨HS2.out _ rfl, by simp [intOf]; omega⟩
    · obtain rfl : j = 24 := by omega
      have lp : (permN zs 24).length = 25 := by rw [permN_length, ha]
      generalize hpp : permN zs 24 = pp at *
      have HP := PrmEq.mk hpp
      clear hpp
      go_wp2_with (first | refine own_load o1 rfl 23 (.tmp 1) rfl rfl 25 22 lp (by kernel_rfl) (by kernel_rfl) ?_ | refine wpList_store_row rfl 23 (.tmp 2) (.tmp 12) rfl (w.heap.size + 1) (lim .u64 pp) rfl rfl 23 _ o2 (by rw [lim_size, lp]; kernel_rfl) (by rw [lim_size, lim_size, lp]; rfl) (lim_one _ _) ?_)
      have o3' : Own (wr.setRow (w.heap.size + 1) (lim .u64 pp)) (w.heap.size + 1) 23 .u64 pp := setRow_heap _ _ _ _ _ _ o2
      exact bodyPost_ret (results_cell_row rfl _ _ (w.heap.size + 1) 23 (lim .u64 pp) (0, 0) (.array 25 22) rfl o3' (by kernel_rfl) rfl (by rw [lim_size, lp]; kernel_rfl)) rfl ⟨by rw [HP.eq], below_setRow hb (by omega) _⟩
end Go.Proofs.Ytboaahjpjemfpaa
