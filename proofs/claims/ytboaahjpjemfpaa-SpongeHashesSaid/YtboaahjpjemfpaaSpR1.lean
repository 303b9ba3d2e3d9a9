import Derived.Test.YtboaahjpjemfpaaSpR
namespace Go.Proofs.Ytboaahjpjemfpaa
open Go.RowKit
set_option linter.unusedVariables false

theorem wpList_store_new2 {P : Program} {ops : Array Oper} {rest : List Oper} {o : Oper} {a : Act} {w : World} {A B : Obj} {Q : Exit → Act → World → Prop} (hgd : o.guard = none) (ty : TypeId) (x y : Operand) (ho : o.op = .store ty x y)
    (k : IntKind) (zs : List Nat) (hx : a.eval x = .pointer (some ⟨w.heap.size + 1 + 1, 0, none⟩)) (hy : a.eval y = .agg (lim k zs))
    (t : TypeId) (old : Array Value) (hi : (P.info? ty).map (·.size) = some zs.length)
    (hold : old.size = zs.length) (h : wpList P ops Q rest (a.put o.dst undef) (((w.alloc A).alloc B).alloc (.cells (lim k zs) t))) : wpList P ops Q (o :: rest) a (((w.alloc A).alloc B).alloc (.cells old t)) := by
  have e : ((w.alloc A).alloc B).heap.size = w.heap.size + 1 + 1 := by simp
  exact wpList_store_new hgd ty x y ho k zs (by rw [hx, e]) hy t old hi hold h
structure OneE (zs pp : List Nat) : Prop where
  eq : oneX zs 5 = pp
structure OneS (zs : List Nat) (j c d : Nat) (O : List Nat) : Prop where
  eo : oneX zs j = O
  ec : oneC zs (j + 4) 5 = c
  ed : oneC zs (j + 6) 5 = d
def OneRel (zs : List Nat) (s : Nat) (w : World) (x : Value) (wr : World) : Prop :=
  ∃ j : Nat, j ≤ 5 ∧ x = .int .i64 (j : Int) ∧ Own wr s 23 .u64 zs ∧ Own wr (s + 1) 23 .u64 (List.replicate 25 0) ∧ Own wr (s + 2) 23 .u64 (oneX zs j) ∧ Below s w wr
def OneC (zs : List Nat) (j : Nat) (w : World) (c d y : Value) (wr : World) : Prop :=
  ∃ k : Nat, k ≤ 5 ∧ y = .int .i64 (k : Int) ∧ c = .int .u64 (oneC zs (j + 4) k : Nat) ∧ d = .int .u64 (oneC zs (j + 6) k : Nat) ∧ wr = w
def OneO (zs O : List Nat) (j c d : Nat) (s : Nat) (w : World) (y : Value) (wr : World) : Prop :=
  ∃ k : Nat, k ≤ 5 ∧ y = .int .i64 (k : Int) ∧ Own wr s 23 .u64 zs ∧ Own wr (s + 1) 23 .u64 (List.replicate 25 0) ∧ Own wr (s + 2) 23 .u64 (oneO zs O j c d k) ∧ Below s w wr
theorem OneO.step {zs O : List Nat} {j c d s k l : Nat} {v : Int} {w wr wr' : World} (hj : k < 5) (o1 : Own wr s 23 .u64 zs) (o2 : Own wr (s + 1) 23 .u64 (List.replicate 25 0)) (o3 : Own wr (s + 2) 23 .u64 (oneO zs O j c d k)) (hb : Below s w wr)
    (ew : wr.setCell ⟨s + 2, l, none⟩ (.int .u64 v) = wr') (hl : laneN (j + 5) (k + 5) = l) (e1 : v = (oneV zs j c d k : Nat)) : OneO zs O j c d s w (.int .i64 ((k + 1 : Nat) : Int)) wr' := by
  subst ew e1 hl
  exact ⟨k + 1, by omega, rfl, o1.far (by simp) _, o2.far (by simp) _, o3.set _ _, hb.setCell (p := ⟨s + 2, _, none⟩) (by show s ≤ s + 2; omega) _⟩

set_option maxHeartbeats 1000000 in
/-- ref.One -/
theorem one_any (zs : List Nat) (w : World) (ha : zs.length = 25) (oa : Ok zs) :
    Calls Try.prog 17 #[.agg (lim .u64 zs)] w fun e w' => e = .returned (.agg (lim .u64 (oneX zs 5))) ∧ Below w.heap.size w w' := by
  have hal : Try.prog.arrayLen 23 = 25 := by kernel_rfl
  go_enter Try.func17, Try.ntmps17
  go_wp2_with (first | refine own_load ((Own.new w 23 .u64 zs).alloc _) rfl 23 (.tmp 1) rfl rfl 25 22 ha (by kernel_rfl) (by kernel_rfl) ?_ | refine wpList_store_new2 rfl 23 (.tmp 3) (.tmp 9) rfl .u64 zs rfl rfl 23 _ (by rw [ha]; kernel_rfl) (by rw [ha]; rfl) ?_)
  go_loopw [4, 5, 6, 7, 8] (fun x _ _ _ _ wr => OneRel zs w.heap.size w x wr) (fun x _ _ _ _ _ => 5 - (intOf x).toNat)
  case atStart => exact ⟨0, by omega, rfl, ((Own.new w 23 .u64 zs).alloc _).alloc _, (own_new1 w _ 23 .u64 (List.replicate 25 0)).alloc _, own_new2 w _ _ 23 .u64 zs, (((Below.refl _ _).alloc (Nat.le_refl _) _).alloc (by simp) _).alloc (by simp; omega) _⟩
  case round =>
    obtain ⟨j, hj, rfl, o1, o2, o3, hb⟩ := hrel
    by_cases hj5 : j < 5
    · have hd : decide ((j : Int) < 5) = true := decide_eq_true (by omega)
      go_wp2_with fail
      go_loopw [5, 6, 7] (OneC zs j wr) (fun _ _ y _ => 5 - (intOf y).toNat)
      case atStart => exact ⟨0, by omega, rfl, rfl, rfl, rfl⟩
      case round =>
        obtain ⟨k, hk, rfl, rfl, rfl, rfl⟩ := hrel
        by_cases hk5 : k < 5
        · obtain ⟨l1, hl1⟩ : ∃ l, laneN (j + 4) (k + 5) = l := ⟨_, rfl⟩
          obtain ⟨l2, hl2⟩ : ∃ l, laneN (j + 6) (k + 5) = l := ⟨_, rfl⟩
          have h1 : l1 < 25 := by rw [← hl1]; exact laneN_lt _ _
          have h2 : l2 < 25 := by rw [← hl2]; exact laneN_lt _ _
          have hc1 := o1.cell (i := l1) (by omega)
          have hc2 := o1.cell (i := l2) (by omega)
          have hx1 : bits .xor .u64 (oneC zs (j + 4) k : Int) (nth zs l1 : Int) = ((oneC zs (j + 4) (k + 1) : Nat) : Int) := by
            rw [u64_xor_nat _ _ (oneC_lt oa _ _) (oa.getD _), ← hl1]; rfl
          have hx2 : bits .xor .u64 (oneC zs (j + 6) k : Int) (nth zs l2 : Int) = ((oneC zs (j + 6) (k + 1) : Nat) : Int) := by
            rw [u64_xor_nat _ _ (oneC_lt oa _ _) (oa.getD _), ← hl2]; rfl
          go_wp2_with fail
          refine (lane_any _ _ (j + 4) (k + 5) l1 _ ?_ ?_ (by omega) (by omega) hl1).mono ?_
          · omega
          · omega
          rintro e w1 ⟨rfl, rfl⟩
          go_wp2_with fail
          refine (lane_any _ _ (j + 6) (k + 5) l2 _ ?_ ?_ (by omega) (by omega) hl2).mono ?_
          · omega
          · omega
          rintro e w1 ⟨rfl, rfl⟩
          go_wp2_with fail
          exact ⟨⟨k + 1, by omega, rfl, rfl, rfl, rfl⟩, by simp [intOf]; omega⟩
        · obtain rfl : k = 5 := by omega
          have oc := oneC_lt oa (j + 4) 5
          have od := oneC_lt oa (j + 6) 5
          generalize hec : oneC zs (j + 4) 5 = c at *
          generalize hed : oneC zs (j + 6) 5 = d at *
          have lx := oneX_length zs j
          have HX : OneO zs (oneX zs j) j c d w.heap.size w (.int .i64 0) wr := ⟨0, by omega, rfl, o1, o2, o3, hb⟩
          generalize heo : oneX zs j = O at *
          have HS := OneS.mk heo hec hed
          clear heo hec hed
          go_wp2_with fail
          clear o1 o2 o3 hb
          try simp only [Int.cast_ofNat_Int]
          go_loopw [8] (OneO zs O j c d w.heap.size w) (fun y _ => 5 - (intOf y).toNat)
          case atStart => exact HX
          case round =>
            clear HX
            obtain ⟨k, hk, rfl, o1, o2, o3, hb⟩ := hrel
            by_cases hk5 : k < 5
            · obtain ⟨l, hl⟩ : ∃ l, laneN (j + 5) (k + 5) = l := ⟨_, rfl⟩
              have h1 : l < 25 := by rw [← hl]; exact laneN_lt _ _
              have hc1 := o1.cell (i := l) (by omega)
              have h1' : (l : Int) < 25 := by omega
              have HL := Lib.hid (fun W => lane_any (j : Int) (k : Int) (j + 5) (k + 5) l W (by omega) (by omega) (by omega) (by omega) hl)
              have HF := Lib.hid (fun W => left_any d 1 W od (by decide))
              go_wp2_with fail
              refine wp_region_still_tail 14 (by kernel_rfl) (by kernel_rfl) ?_
              simp only [List.take_succ_cons, List.take_zero, List.drop_succ_cons, List.drop_zero]
              repeat still_step
              still_call (HL.out _)
              repeat still_step
              still_call (HL.out _)
              repeat still_step
              still_call (HF.out _)
              repeat still_step
              refine wpStill_nil ?_
              change wpList _ _ _ _ _ wr.drew
              have o1d := o1.drew
              have o2d := o2.drew
              have o3d := o3.drew
              have hbd : Below w.heap.size w wr.drew := below_drewN hb 1
              have hf3 := o3d.frozen l
              have hc3 := o3d.cell (i := l) (by rw [oneO_length]; omega)
              clear o1 o2 o3 hb hc1
              generalize wr.drew = w2 at *
              go_wp2_with fail
              refine ⟨OneO.step hk5 o1d o2d o3d hbd rfl hl ?_, by simp [intOf]; omega⟩
              rw [u64_xor_nat _ _ (oa.getD _) oc, u64_xor_nat _ _ (xor_lt (oa.getD _) oc) (rotl_lt od _), Nat.xor_assoc, ← hl]
              rfl
            · obtain rfl : k = 5 := by omega
              go_wp2_with fail
              exact ⟨⟨j + 1, by omega, rfl, o1, o2, by rw [oneX, HS.eo, HS.ec, HS.ed]; exact o3, hb⟩, by simp [intOf]; omega⟩
    · obtain rfl : j = 5 := by omega
      have lp := oneX_length zs 5
      generalize hpp : oneX zs 5 = pp at *
      have HP := OneE.mk hpp
      clear hpp
      rw [ha] at lp
      go_wp2_with (first | refine own_load o3 rfl 23 (.tmp 3) rfl rfl 25 22 lp (by kernel_rfl) (by kernel_rfl) ?_ | refine wpList_store_row rfl 23 (.tmp 2) (.tmp 52) rfl (w.heap.size + 1) (lim .u64 pp) rfl rfl 23 _ o2 (by rw [lim_size, lp]; kernel_rfl) (by rw [lim_size, lim_size, lp]; rfl) (lim_one _ _) ?_)
      have o3' : Own (wr.setRow (w.heap.size + 1) (lim .u64 pp)) (w.heap.size + 1) 23 .u64 pp := setRow_heap _ _ _ _ _ _ o2
      exact bodyPost_ret (results_cell_row rfl _ _ (w.heap.size + 1) 23 (lim .u64 pp) (0, 0) (.array 25 22) rfl o3' (by kernel_rfl) rfl (by rw [lim_size, lp]; kernel_rfl)) rfl ⟨by rw [HP.eq], below_setRow hb (by omega) _⟩
end Go.Proofs.Ytboaahjpjemfpaa
