import Derived.Test.YtboaahjpjemfpaaSpEq
import Derived.Test.YtboaahjpjemfpaaSpR1
import Derived.Test.YtboaahjpjemfpaaSpApN
namespace Go.Proofs.Ytboaahjpjemfpaa
open Go.RowKit
set_option linter.unusedVariables false

theorem wpList_store_new1 {P : Program} {ops : Array Oper} {rest : List Oper} {o : Oper} {a : Act} {w : World} {A : Obj} {Q : Exit → Act → World → Prop} (hgd : o.guard = none) (ty : TypeId) (x y : Operand) (ho : o.op = .store ty x y)
    (k : IntKind) (zs : List Nat) (hx : a.eval x = .pointer (some ⟨w.heap.size + 1, 0, none⟩)) (hy : a.eval y = .agg (lim k zs))
    (t : TypeId) (old : Array Value) (hi : (P.info? ty).map (·.size) = some zs.length)
    (hold : old.size = zs.length) (h : wpList P ops Q rest (a.put o.dst undef) ((w.alloc A).alloc (.cells (lim k zs) t))) : wpList P ops Q (o :: rest) a ((w.alloc A).alloc (.cells old t)) := by
  have e : (w.alloc A).heap.size = w.heap.size + 1 := by simp
  exact wpList_store_new hgd ty x y ho k zs (by rw [hx, e]) hy t old hi hold h
theorem xor_nonzero {a x : Nat} (h : a ^^^ x = a) : x = 0 := by
  have h1 : a ^^^ (a ^^^ x) = a ^^^ a := by rw [h]
  rwa [← Nat.xor_assoc, Nat.xor_self, Nat.zero_xor] at h1
set_option maxHeartbeats 2000000 in
theorem spongeApart_any (zs : List Nat) (i : Int) (x : Nat) (w : World) (ha : zs.length = 25) (oa : Ok zs) (hi : -9223372036854775808 ≤ i ∧ i ≤ 9223372036854775807) (hx : x < 18446744073709551616) :
    Calls Try.prog 5 #[.agg (lim .u64 zs), .int .i64 i, .int .u64 (x : Int)] w fun e w' => e = .returned (.bool true) ∧ Below w.heap.size w w' := by
  have hal : Try.prog.arrayLen 23 = 25 := by kernel_rfl
  obtain ⟨r0, hr0⟩ : ∃ r, i.tmod 25 = r := ⟨_, rfl⟩
  have hr1 : -25 < r0 ∧ r0 < 25 := by rw [← hr0]; exact ⟨Int.lt_tmod_of_pos i (by decide), Int.tmod_lt_of_pos i (by decide)⟩
  obtain ⟨p, hp⟩ : ∃ p : Nat, (r0 + 25).tmod 25 = (p : Int) := Int.eq_ofNat_of_zero_le (by rw [Int.tmod_eq_emod_of_nonneg (by omega)]; omega)
  have hp2 : (r0 + 25) % 25 = (p : Int) := by rw [← hp, Int.tmod_eq_emod_of_nonneg (by omega)]
  have hp25 : p < 25 := by omega
  have hp25' : (p : Int) < 25 := by omega
  have hwr : IntKind.i64.wrap (r0 + 25) = r0 + 25 := by rw [IntKind.wrap_i64]; omega
  have hxor : bits .xor .u64 (nth zs p : Int) (x : Int) = ((nth zs p ^^^ x : Nat) : Int) := u64_xor_nat _ _ (oa.getD _) hx
  have lb : (zs.set p (nth zs p ^^^ x)).length = 25 := by rw [List.length_set, ha]
  have ob : Ok (zs.set p (nth zs p ^^^ x)) := oa.set (xor_lt (oa.getD _) hx) _
  have hiff : (permN zs 24 = permN (zs.set p (nth zs p ^^^ x)) 24) ↔ x = 0 := by
    constructor
    · intro h
      have h2 := perm_inj ha lb oa ob 24 h
      have h3 : nth (zs.set p (nth zs p ^^^ x)) p = nth zs p ^^^ x := by rw [nth_set (by omega), if_pos rfl]
      rw [← h2] at h3
      exact xor_nonzero h3.symm
    · intro h
      subst h
      congr 1
      refine list_ext25 ha lb fun j hj => ?_
      rw [nth_set (by omega), Nat.xor_zero]
      split
      · rename_i e; rw [e]
      · rfl
  have HP := Lib.hid (fun W => permute_any zs W ha oa)
  have HQ := Lib.hid (fun W => permute_any (zs.set p (nth zs p ^^^ x)) W lb ob)
  have lr1 : (permN zs 24).length = 25 := by rw [permN_length, ha]
  have lr2 : (permN (zs.set p (nth zs p ^^^ x)) 24).length = 25 := by rw [permN_length, lb]
  generalize permN zs 24 = r at *
  generalize permN (zs.set p (nth zs p ^^^ x)) 24 = s at *
  obtain ⟨q, hq⟩ : ∃ q : Bool, decide (x = 0) = q := ⟨_, rfl⟩
  have heq : ∀ w, (Op.equalIn 10000 23 (.agg (lim .u64 r)) (.agg (lim .u64 s))).run Try.prog w = .ok q w := fun w => by
    rw [eq_lim r s lr1 lr2 w, ← hq]
    congr 1
    exact decide_eq_decide.2 hiff
  have hq8 : ((x : Int) == 0) = q := by
    rw [← hq]
    by_cases e : x = 0
    · subst e; rfl
    · rw [decide_eq_false e]; simp; omega
  clear hiff hq lr1 lr2 ob
  go_enter Try.func5, Try.ntmps5
  have oB := own_new1 w (.cells (lim .u64 zs) 23) 23 .u64 zs
  have hcB := oB.cell (i := p) (by omega)
  have hfB := oB.frozen p
  go_wp2_with (first | refine own_load (Own.new w 23 .u64 zs) rfl 23 (.tmp 3) rfl rfl 25 22 ha (by kernel_rfl) (by kernel_rfl) ?_ | refine wpList_store_new1 rfl 23 (.tmp 7) (.tmp 8) rfl .u64 zs rfl rfl 23 _ (by rw [ha]; kernel_rfl) (by rw [ha]; rfl) ?_)
  have oA : Own (((w.alloc (.cells (lim .u64 zs) 23)).alloc (.cells ((lim .u64 zs).setIfInBounds p (.int .u64 ((nth zs p ^^^ x : Nat) : Int))) 23)).drew) w.heap.size 23 .u64 zs := ((Own.new w 23 .u64 zs).alloc _).drew
  have oC : Own (((w.alloc (.cells (lim .u64 zs) 23)).alloc (.cells ((lim .u64 zs).setIfInBounds p (.int .u64 ((nth zs p ^^^ x : Nat) : Int))) 23)).drew) (w.heap.size + 1) 23 .u64 (zs.set p (nth zs p ^^^ x)) := by
    rw [lim_set]
    exact (own_new1 w (.cells (lim .u64 zs) 23) 23 .u64 (zs.set p (nth zs p ^^^ x))).drew
  have hb : Below w.heap.size w (((w.alloc (.cells (lim .u64 zs) 23)).alloc (.cells ((lim .u64 zs).setIfInBounds p (.int .u64 ((nth zs p ^^^ x : Nat) : Int))) 23)).drew) := (((Below.refl w.heap.size w).alloc (Nat.le_refl _) _).alloc (by simp) _).drew
  clear oB hcB hfB
  refine wp_region_any (by kernel_rfl) ?_
  change wpAny _ _ _ _ _ _ _ (World.drew _)
  generalize ((w.alloc (.cells (lim .u64 zs) 23)).alloc (.cells ((lim .u64 zs).setIfInBounds p (.int .u64 ((nth zs p ^^^ x : Nat) : Int))) 23)).drew = w0 at *
  refine wpAny_ready (rs := [0]) (by kernel_rfl) (by simp) ?_
  refine AllReady.cons rfl (fun K hK => ?_) AllReady.nil
  go_simp
  refine (alive_any _).mono ?_
  rintro e w1 ⟨rfl, b1⟩
  refine hK _ _ ?_
  clear hK K
  have o2 := oA.bel b1
  have c2 := oC.bel b1
  have hb1 := hb.trans (b1.mono hb.size)
  clear oA oC hb b1
  refine wpAny_take (i := 1) (v := .bool true) rfl (by kernel_rfl) (by kernel_rfl) (by kernel_rfl) (fun _ _ _ h => h) (Or.inl ⟨by rfl, ?_⟩) ?_
  · intro w
    go_simp
  refine wpAny_take (i := 7) (v := .int .u64 (x : Int)) rfl (by kernel_rfl) (by kernel_rfl) (by kernel_rfl) (fun _ _ _ h => h) (Or.inl ⟨by rfl, ?_⟩) ?_
  · intro w
    go_simp
  refine wpAny_take (i := 8) (v := .bool q) rfl (by kernel_rfl) (by kernel_rfl) (by kernel_rfl) (fun _ _ _ h => h) (Or.inl ⟨by rfl, ?_⟩) ?_
  · intro w
    go_simp
  refine wpAny_ready (rs := [2, 4]) (by kernel_rfl) (by simp) ?_
  refine AllReady.cons rfl (fun K hK => ?_) (AllReady.cons rfl (fun K hK => ?_) AllReady.nil)
  · refine step_load_rowG o2 (by rfl) 23 (.tmp 3) rfl rfl 25 22 ha (by kernel_rfl) (by kernel_rfl) ?_
    refine hK _ _ ?_
    clear hK K
    refine wpAny_ready (rs := [3, 4]) (by kernel_rfl) (by simp) ?_
    refine AllReady.cons rfl (fun K hK => ?_) (AllReady.cons rfl (fun K hK => ?_) AllReady.nil)
    · go_simp
      refine (HP.out _).mono ?_
      rintro e w2 ⟨rfl, b2⟩
      refine hK _ _ ?_
      clear hK K
      have c3 := c2.bel b2
      have hb2 := hb1.trans (b2.mono hb1.size)
      refine wpAny_ready (rs := [4]) (by kernel_rfl) (by simp) ?_
      refine AllReady.cons rfl (fun K hK => ?_) AllReady.nil
      refine step_load_rowG c3 (by rfl) 23 (.tmp 7) rfl rfl 25 22 lb (by kernel_rfl) (by kernel_rfl) ?_
      refine hK _ _ ?_
      clear hK K
      refine wpAny_ready (rs := [5]) (by kernel_rfl) (by simp) ?_
      refine AllReady.cons rfl (fun K hK => ?_) AllReady.nil
      go_simp
      refine (HQ.out _).mono ?_
      rintro e w3 ⟨rfl, b3⟩
      refine hK _ _ ?_
      clear hK K
      have hb3 := hb2.trans (b3.mono hb2.size)
      refine wpAny_ready (rs := [6]) (by kernel_rfl) (by simp) ?_
      refine AllReady.cons rfl (fun K hK => ?_) AllReady.nil
      go_simp
      refine hK _ _ ?_
      clear hK K
      refine wpAny_ready (rs := [9]) (by kernel_rfl) (by simp) ?_
      refine AllReady.cons rfl (fun K hK => ?_) AllReady.nil
      go_simp
      refine hK _ _ ?_
      clear hK K
      refine wpAny_ready (rs := [10]) (by kernel_rfl) (by simp) ?_
      refine AllReady.cons rfl (fun K hK => ?_) AllReady.nil
      go_simp
      refine hK _ _ ?_
      clear hK K
      refine wpAny_ready (rs := [11]) (by kernel_rfl) (by simp) ?_
      refine AllReady.cons rfl (fun K hK => ?_) AllReady.nil
      go_simp
      refine hK _ _ ?_
      clear hK K
      refine wpAny_done (by kernel_rfl) ?_ _
      go_wp2_with fail
      go_ret
      exact ⟨by simp, hb3⟩
    · refine step_load_rowG c2 (by rfl) 23 (.tmp 7) rfl rfl 25 22 lb (by kernel_rfl) (by kernel_rfl) ?_
      refine hK _ _ ?_
      clear hK K
      refine wpAny_ready (rs := [3]) (by kernel_rfl) (by simp) ?_
      refine AllReady.cons rfl (fun K hK => ?_) AllReady.nil
      go_simp
      refine (HP.out _).mono ?_
      rintro e w2 ⟨rfl, b2⟩
      refine hK _ _ ?_
      clear hK K
      have hb2 := hb1.trans (b2.mono hb1.size)
      refine wpAny_ready (rs := [5]) (by kernel_rfl) (by simp) ?_
      refine AllReady.cons rfl (fun K hK => ?_) AllReady.nil
      go_simp
      refine (HQ.out _).mono ?_
      rintro e w3 ⟨rfl, b3⟩
      refine hK _ _ ?_
      clear hK K
      have hb3 := hb2.trans (b3.mono hb2.size)
      refine wpAny_ready (rs := [6]) (by kernel_rfl) (by simp) ?_
      refine AllReady.cons rfl (fun K hK => ?_) AllReady.nil
      go_simp
      refine hK _ _ ?_
      clear hK K
      refine wpAny_ready (rs := [9]) (by kernel_rfl) (by simp) ?_
      refine AllReady.cons rfl (fun K hK => ?_) AllReady.nil
      go_simp
      refine hK _ _ ?_
      clear hK K
      refine wpAny_ready (rs := [10]) (by kernel_rfl) (by simp) ?_
      refine AllReady.cons rfl (fun K hK => ?_) AllReady.nil
      go_simp
      refine hK _ _ ?_
      clear hK K
      refine wpAny_ready (rs := [11]) (by kernel_rfl) (by simp) ?_
      refine AllReady.cons rfl (fun K hK => ?_) AllReady.nil
      go_simp
      refine hK _ _ ?_
      clear hK K
      refine wpAny_done (by kernel_rfl) ?_ _
      go_wp2_with fail
      go_ret
      exact ⟨by simp, hb3⟩
  · refine step_load_rowG c2 (by rfl) 23 (.tmp 7) rfl rfl 25 22 lb (by kernel_rfl) (by kernel_rfl) ?_
    refine hK _ _ ?_
    clear hK K
    refine wpAny_ready (rs := [2]) (by kernel_rfl) (by simp) ?_
    refine AllReady.cons rfl (fun K hK => ?_) AllReady.nil
    refine step_load_rowG o2 (by rfl) 23 (.tmp 3) rfl rfl 25 22 ha (by kernel_rfl) (by kernel_rfl) ?_
    refine hK _ _ ?_
    clear hK K
    refine wpAny_ready (rs := [3]) (by kernel_rfl) (by simp) ?_
    refine AllReady.cons rfl (fun K hK => ?_) AllReady.nil
    go_simp
    refine (HP.out _).mono ?_
    rintro e w2 ⟨rfl, b2⟩
    refine hK _ _ ?_
    clear hK K
    have hb2 := hb1.trans (b2.mono hb1.size)
    refine wpAny_ready (rs := [5]) (by kernel_rfl) (by simp) ?_
    refine AllReady.cons rfl (fun K hK => ?_) AllReady.nil
    go_simp
    refine (HQ.out _).mono ?_
    rintro e w3 ⟨rfl, b3⟩
    refine hK _ _ ?_
    clear hK K
    have hb3 := hb2.trans (b3.mono hb2.size)
    refine wpAny_ready (rs := [6]) (by kernel_rfl) (by simp) ?_
    refine AllReady.cons rfl (fun K hK => ?_) AllReady.nil
    go_simp
    refine hK _ _ ?_
    clear hK K
    refine wpAny_ready (rs := [9]) (by kernel_rfl) (by simp) ?_
    refine AllReady.cons rfl (fun K hK => ?_) AllReady.nil
    go_simp
    refine hK _ _ ?_
    clear hK K
    refine wpAny_ready (rs := [10]) (by kernel_rfl) (by simp) ?_
    refine AllReady.cons rfl (fun K hK => ?_) AllReady.nil
    go_simp
    refine hK _ _ ?_
    clear hK K
    refine wpAny_ready (rs := [11]) (by kernel_rfl) (by simp) ?_
    refine AllReady.cons rfl (fun K hK => ?_) AllReady.nil
    go_simp
    refine hK _ _ ?_
    clear hK K
    refine wpAny_done (by kernel_rfl) ?_ _
    go_wp2_with fail
    go_ret
    exact ⟨by simp, hb3⟩
end Go.Proofs.Ytboaahjpjemfpaa
