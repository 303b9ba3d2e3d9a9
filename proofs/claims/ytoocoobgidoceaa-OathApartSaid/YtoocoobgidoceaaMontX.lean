import Derived.Test.YtoocoobgidoceaaMontE
namespace Go.Proofs.Ytoocoobgidoceaa
open Go.RowKit
set_option linter.unusedVariables false

/-- Block g holds these limbs, and behind them ex. -/
def OwnX (ex : List Value) (w : World) (g : Nat) (T : TypeId) (zs : List Nat) : Prop := w.heap[g]? = some (.cells (lim .u64 zs ++ ex.toArray) T (0, 0))
section
variable {ex : List Value} {w w' : World} {g : Nat} {T : TypeId} {zs : List Nat}
theorem OwnX.lt (h : OwnX ex w g T zs) : g < w.heap.size := (Array.getElem?_eq_some_iff.1 h).1
theorem OwnX.below (h : OwnX ex w g T zs) {B : Nat} (hb : Below B w w') (hg : g < B) : OwnX ex w' g T zs := (hb.block g hg).trans h
theorem OwnX.bel (h : OwnX ex w g T zs) (hb : Below w.heap.size w w') : OwnX ex w' g T zs := h.below hb h.lt
theorem OwnX.alloc (h : OwnX ex w g T zs) (o : Obj) : OwnX ex (w.alloc o) g T zs := (Below.heap_alloc w o g h.lt).trans h
theorem OwnX.grown {go : Nat} (h : OwnX ex w g T zs) (hg : w.grownBy w' (some go)) (hne : g ≠ go) : OwnX ex w' g T zs :=
  (hg.block g h.lt (fun e => hne (by injection e))).trans h
theorem OwnX.cell (h : OwnX ex w g T zs) {i : Nat} (hi : i < zs.length) : w.cell? ⟨g, i, none⟩ = some (.int .u64 (nth zs i : Nat)) :=
  (cell_of_row w g i _ T (0, 0) h).trans (by
    rw [Array.getElem?_append_left (by rw [lim_size]; exact hi)]; exact lim_get hi)
theorem OwnX.sl (h : OwnX ex w g T zs) : Sl w .u64 (some ⟨g, 0, none⟩) zs := fun _ => ⟨g, 0, rfl, h.lt, fun i hi => by rw [Nat.zero_add]; exact h.cell hi⟩
end
theorem lim_append (k : IntKind) (a b : List Nat) : lim k (a ++ b) = lim k a ++ lim k b := by simp [lim]
theorem Own.x {w : World} {g : Nat} {T : TypeId} {a b : List Nat} (h : Own w g T .u64 (a ++ b)) : OwnX (u64s b) w g T a := by
  have e : lim .u64 a ++ (u64s b).toArray = lim .u64 (a ++ b) := by simp [lim, u64s]
  unfold OwnX; rw [e]; exact h
theorem Own.x0 {w : World} {g : Nat} {T : TypeId} {a : List Nat} (h : Own w g T .u64 a) : OwnX [] w g T a := by
  have e : lim .u64 a ++ ([] : List Value).toArray = lim .u64 a := by simp
  unfold OwnX; rw [e]; exact h
/-- copy(out, row), both of k limbs, out a whole row of the call's own. -/
theorem wpList_copy_x {P : Program} {w : World} {ops : Array Oper} {rest : List Oper} {o : Oper} {a : Act} {Q : Exit → Act → World → Prop} (hgd : o.guard = none) (d s : Operand) (dT sT : TypeId)
    (ho : o.op = .call { callee := .builtin .copy, args := #[d, s], argTypes := #[dT, sT] }) (elem : TypeId) (hu : P.underlying dT = some (.slice elem)) (hsz : (P.info? elem).map (·.size) = some 1)
    (go k co cr : Nat) (R : Option Addr) (hd : a.eval d = .slice (some ⟨go, 0, none⟩) k co) (hs : a.eval s = .slice R k cr) (T : TypeId) (zo rs : List Nat) (ex : List Value) (own : OwnX ex w go T zo) (hzo : zo.length = k) (sr : Sl w .u64 R rs) (hr : rs.length = k) (hk : 0 < k)
    (h : ∀ w', OwnX ex w' go T rs → w.grownBy w' (some go) → wpList P ops Q rest (a.put o.dst (goInt k)) w') : wpList P ops Q (o :: rest) a w := by
  obtain ⟨b, off, rfl, _, hc⟩ := sr (by omega)
  have hlen : (rs.map fun x : Nat => Value.int .u64 (x : Int)).length = k := by rw [List.length_map, hr]
  have hcur : w.heap[go]? = some (.cells (lim .u64 zo ++ ex.toArray) T (0, 0)) := own
  refine wpList_copy_own hgd d s dT sT ho elem hu hsz go 0 k co ⟨b, off, none⟩ k cr hd hs (lim .u64 zo ++ ex.toArray) T hcur (rs.map fun x : Nat => Value.int .u64 (x : Int)) (by rw [hlen]; exact (Nat.min_self k).symm) ?_ (by rw [hlen, Array.size_append, lim_size, hzo]; omega) (fun v hv => by obtain ⟨x, _, rfl⟩ := List.mem_map.1 hv; rfl) ?_
  · intro j v hv
    rw [List.getElem?_map] at hv
    rcases Nat.lt_or_ge j rs.length with hj | hj
    · rw [List.getElem?_eq_getElem hj] at hv
      simp only [Option.map_some, Option.some.injEq] at hv
      subst hv
      rw [← nth_eq hj, ← hc j hj]
      congr 1
      unfold Addr.add
      split
      · subst j; rfl
      · rfl
    · rw [List.getElem?_eq_none hj] at hv
      cases hv
  · rw [hlen]
    have hl : ((lim .u64 zo).toList).length = k := by rw [Array.length_toList, lim_size, hzo]
    have e : ((lim .u64 zo ++ ex.toArray).toList.take 0 ++ ((rs.map fun x : Nat => Value.int .u64 (x : Int)) ++ (lim .u64 zo ++ ex.toArray).toList.drop (0 + k))).toArray = lim .u64 rs ++ ex.toArray := by
      rw [Array.toList_append, Nat.zero_add, ← hl, List.drop_left]
      simp [lim]
    rw [e]
    exact h _ (setRow_heap w go _ _ T _ hcur) ⟨rfl, rfl, rfl, by simp [World.setRow], fun i hi hne => setRow_other w go i _ (fun e => hne (by rw [e]))⟩

def RedX (ex : List Value) (go k : Nat) (T : TypeId) (V : Nat) (w : World) (e : Ending) (w' : World) : Prop :=
  ∃ zs : List Nat, e = .returned (.tuple #[]) ∧ OwnX ex w' go T zs ∧ zs.length = k ∧ Ok zs ∧ val zs = V ∧ w.grownBy w' (some go)

set_option maxHeartbeats 800000 in
/-- mont.Reduce -/
theorem reduce_x (ex : List Value) (go k co cr cm more : Nat) (T : TypeId) (R M : Option Addr) (zo rs ms : List Nat) (w : World) (hk0 : 0 < k) (hk : k ≤ 8) (hcm : k ≤ cm) (own : OwnX ex w go T zo) (hzo : zo.length = k)
    (hrs : rs.length = k) (hms : ms.length = k) (or_ : Ok rs) (om : Ok ms) (sr : Sl w .u64 R rs) (sm : Sl w .u64 M ms) (hmore : more < 18446744073709551616) (hT : val rs + pw k * more < 2 * val ms) :
    Calls Try.prog 48 #[.slice (some ⟨go, 0, none⟩) k co, .slice R k cr, .int .u64 (more : Int), .slice M k cm] w
      (RedX ex go k T (redN (val rs + pw k * more) (val ms)) w) := by
  have Hr := Lib.hid hrs
  have Hm := Lib.hid hms
  have HT := Lib.hid hT
  have Hown := Lib.hid own
  have Hzo := Lib.hid hzo
  clear hrs hms hT own hzo
  go_enter Try.func48, Try.ntmps48
  go_wp2_with fail
  go_loopw [14, 9] (RwRel (fun j V c => c ≤ 1 ∧ V + val (ms.take j) = val (rs.take j) + pw j * c) (List.replicate 8 0) k 8 w.heap.size 83 w) (fun i _ _ => k - (intOf i).toNat)
  case atStart => exact ⟨0, 0, List.replicate 8 0, Nat.zero_le _, rfl, rfl, by decide, List.length_replicate, Ok.replicate _, Own.new w 83 .u64 (List.replicate 8 0), (Below.refl _ _).alloc (Nat.le_refl _) _, ⟨by decide, by simp [val]⟩, fun t ht => rfl⟩
  case round =>
    obtain ⟨j, cy, zs, hj, rfl, rfl, hcy, hz, oz, own, hb, ⟨hcy1, hval⟩, hkeep⟩ := hrel
    have Hv := Lib.hid hval
    have Hz := Lib.hid hz
    have Hown1 := Lib.hid own
    have Hk := Lib.hid hkeep
    clear hval hkeep
    by_cases hlt : j < k
    · obtain ⟨br, offr, rfl, hlr, hcr⟩ := sr.at2 hb (by have := Hr.out; omega)
      obtain ⟨bm, offm, rfl, hlm, hcm'⟩ := sm.at2 hb (by have := Hm.out; omega)
      have hc1 := hcr j (by have := Hr.out; omega)
      have hc2 := hcm' j (by have := Hm.out; omega)
      have hcell := own.cell (i := j) (by omega)
      have hfr := own.frozen j
      have hsub := sub64_at (nth rs j) (nth ms j) cy hcy1
      have hj8 : (j : Int) < 8 := by omega
      clear hcr hcm' own hz
      go_wp2_with fail
      refine ⟨RwRel.step hlt hk Hz.out oz Hown1.out hb (Nat.le_refl _) Hk.out rfl rfl (subLo_lt _ _ _) rfl (by have := subHi_le (nth rs j) (nth ms j) cy; omega) ⟨subHi_le _ _ _, ?_⟩, by simp [intOf]; omega⟩
      rw [val_take_succ ms, val_take_succ rs, pw_succ]
      exact sub_step _ _ _ _ _ _ _ (or_.getD j) (om.getD j) hcy1 Hv.out
    · obtain rfl : j = k := by omega
      have hv1 := val_lt or_
      have hv2 := val_lt om
      have hv3 := val_lt (oz.take j)
      have hl3 : (zs.take j).length = j := by rw [List.length_take, Hz.out]; omega
      rw [Hr.out] at hv1
      rw [Hm.out] at hv2
      rw [hl3] at hv3
      have hcon := red_case (more := more) hcy1 (val_take_all ms (show ms.length ≤ j by have := Hm.out; omega) ▸ val_take_all rs (show rs.length ≤ j by have := Hr.out; omega) ▸ Hv.out) hv1 hv2 hv3 HT.out
      have Hcon := Lib.hid hcon
      have Hl3 := Lib.hid hl3
      have hcur := (Hown.out.bel hb)
      have Hcur := Lib.hid hcur
      clear own hz hv1 hv2 hv3 hl3 hcon hcur
      by_cases hge : cy ≤ more
      · have hge' : ((cy : Nat) : Int) ≤ ((more : Nat) : Int) := by omega
        have hal : Try.prog.arrayLen 83 = 8 := by kernel_rfl
        have hk8 : (j : Int) ≤ 8 := by omega
        go_wp2_with (refine wpList_copy_x rfl (.tmp 35) (.tmp 38) _ _ rfl 33 Try.underlying72 (by kernel_rfl) go j co 8 _ rfl rfl T zo (zs.take j) ex Hcur.out Hzo.out ((Sl.of_own Hown1.out).take j) Hl3.out (by omega) ?_; intro w3 own3 hg3)
        refine bodyPost_ret (results_none rfl _ _ _) rfl ?_
        refine ⟨zs.take j, rfl, own3, Hl3.out, oz.take j, ?_, grown_of_below hb hg3⟩
        obtain ⟨h1, h2⟩ := Hcon.out.1 (by omega)
        unfold redN
        rw [if_pos h1, h2]
      · have hge' : ¬ ((cy : Nat) : Int) ≤ ((more : Nat) : Int) := by omega
        go_wp2_with (refine wpList_copy_x rfl (.tmp 40) (.tmp 41) _ _ rfl 33 Try.underlying72 (by kernel_rfl) go j co cr R rfl rfl T zo rs ex Hcur.out Hzo.out (sr.bel hb) Hr.out (by omega) ?_; intro w3 own3 hg3)
        go_end0
        refine ⟨rs, rfl, own3, Hr.out, or_, ?_, grown_of_below hb hg3⟩
        obtain ⟨h1, h2⟩ := Hcon.out.2 (by omega)
        unfold redN
        rw [if_neg h1]; exact h2

def ProdX (ex : List Value) (go k : Nat) (T : TypeId) (A B M : Nat) (w : World) (e : Ending) (w' : World) : Prop :=
  ∃ zs : List Nat, e = .returned (.tuple #[]) ∧ OwnX ex w' go T zs ∧ zs.length = k ∧ Ok zs ∧ val zs < M ∧ val zs * pw k % M = A * B % M ∧ w.grownBy w' (some go)

set_option maxHeartbeats 2000000 in
set_option maxRecDepth 100000 in
/-- mont.Product -/
theorem product_x (ex : List Value) (go k co ca cb cm n : Nat) (T : TypeId) (A B M : Option Addr) (zo xs ys ms : List Nat) (w : World) (hk0 : 0 < k) (hk : k ≤ 8) (own : OwnX ex w go T zo) (hzo : zo.length = k)
    (hx : xs.length = k) (hy : ys.length = k) (hms : ms.length = k) (ox : Ok xs) (oy : Ok ys) (om : Ok ms) (sx : Sl w .u64 A xs) (sy : Sl w .u64 B ys) (sm : Sl w .u64 M ms) (hcm : k ≤ cm) (hn : NegIs (nth ms 0) n) (hodd : nth ms 0 % 2 = 1)
    (hlt : val ys < val ms) :
    Calls Try.prog 39 #[.slice (some ⟨go, 0, none⟩) k co, .slice A k ca, .slice B k cb, .slice M k cm, .int .u64 (n : Int)] w (ProdX ex go k T (val xs) (val ys) (val ms) w) := by
  have Hx := Lib.hid hx
  have Hy := Lib.hid hy
  have Hm := Lib.hid hms
  have Hzo := Lib.hid hzo
  have Hown := Lib.hid own
  have Hn := Lib.hid hn
  have Hodd := Lib.hid hodd
  have Hlt := Lib.hid hlt
  have hnl := hn.1
  clear hx hy hms hzo own hn hodd hlt
  go_enter Try.func39, Try.ntmps39
  go_wp2_with fail
  go_loopw [30] (ProdRel xs (val ys) (val ms) k w.heap.size w) (fun i _ => k - (intOf i).toNat)
  case atStart => exact ⟨0, 0, List.replicate 10 0, Nat.zero_le _, rfl, List.length_replicate, Ok.replicate _, Own.new w 78 .u64 (List.replicate 10 0), (Below.refl _ _).alloc (Nat.le_refl _) _, by rw [List.take_replicate, val_replicate]; have := Hlt.out; omega, by rw [List.take_replicate, val_replicate]; simp [val]⟩
  case round =>
    obtain ⟨i, Q, rs, hi, rfl, hr, or_, ownr, hb, hbd, hcg⟩ := hrel
    have Hr := Lib.hid hr
    have Hbd := Lib.hid hbd
    have Hcg := Lib.hid hcg
    have Hownr := Lib.hid ownr
    clear hr hbd hcg ownr
    by_cases hlt : i < k
    · obtain ⟨ba, offa, rfl, hla, hca⟩ := sx.at2 hb (by have := Hx.out; omega)
      have hc1 := hca i (by have := Hx.out; omega)
      have bx := ox.getD i
      clear hca
      go_wp2_with fail
      clear hc1
      obtain ⟨wo, rfl⟩ : ∃ wo : World, wo = wr := ⟨_, rfl⟩
      go_loopw [38, 14] (RwRel (fun j V c => V + pw j * c = val (rs.take j) + nth xs i * val (ys.take j)) rs k 10 w.heap.size 78 w) (fun j _ _ => k - (intOf j).toNat)
      case atStart => exact ⟨0, 0, rs, Nat.zero_le _, rfl, rfl, by decide, Hr.out, or_, Hownr.out, hb, by simp [val], fun t ht => rfl⟩
      case round =>
        obtain ⟨j, cy, r1, hj, rfl, rfl, hcy, hr1, or1, own1, hb1, hval1, hkeep1⟩ := hrel
        have Hv1 := Lib.hid hval1
        have Hr1 := Lib.hid hr1
        have Hown1 := Lib.hid own1
        have Hk1 := Lib.hid hkeep1
        clear hval1 hkeep1
        by_cases hjl : j < k
        · obtain ⟨bb, offb, rfl, hlb', hcb'⟩ := sy.at2 hb1 (by have := Hy.out; omega)
          have hc2 := hcb' j (by have := Hy.out; omega)
          have by' := oy.getD j
          have hcell := own1.cell (i := j) (by omega)
          have hfr := own1.frozen j
          have ha1 := add64_0 (mulLo (nth xs i) (nth ys j)) (nth r1 j) (mulLo_lt _ _) (or1.getD _)
          have ha2 := add64_0 (addLo (mulLo (nth xs i) (nth ys j)) (nth r1 j) 0) cy (addLo_lt _ _ _) hcy
          have hj10 : (j : Int) < 10 := by omega
          clear hcb' own1 hr1
          go_wp2_with fail
          refine (mul64_at (nth xs i) (nth ys j) bx by' _).mono ?_
          rintro e w' ⟨rfl, rfl⟩
          go_wp2_with fail
          refine ⟨RwRel.step hjl (by omega) Hr1.out or1 Hown1.out hb1 (Nat.le_refl _) Hk1.out rfl (congrArg _ (round_lo _ _ _ _)) (lo_lt _ _ _ _) (round_hi bx by' (or1.getD _) hcy) (hi_lt bx by' (or1.getD _) hcy) ?_, by simp [intOf]; omega⟩
          rw [val_take_succ rs, val_take_succ ys, pw_succ, Hk1.out j (Nat.le_refl _)]
          exact prod_in Hv1.out
        · obtain rfl : j = k := by omega
          have hcell := own1.cell (i := j) (by omega)
          have hfr := own1.frozen j
          have hfr1 := own1.frozen (j + 1)
          have hj10 : (j : Int) < 10 := by omega
          have hj11 : (j : Int) + 1 < 10 := by omega
          have ha1 := add64_0 (nth r1 j) cy (or1.getD _) hcy
          have o2 := own1.set j (addLo (nth r1 j) cy 0)
          have hcell1 := o2.cell (i := j + 1) (by simp; omega)
          have hcell0 := own1.cell (i := 0) (by omega)
          obtain ⟨bm, offm, rfl, hlm, hcmm⟩ := sm.at2 hb1 (by have := Hm.out; omega)
          have hm0 := hcmm 0 (by have := Hm.out; omega)
          rw [Nat.add_zero] at hm0
          obtain ⟨q, hq⟩ : ∃ q, nth r1 0 * n % 18446744073709551616 = q := ⟨_, rfl⟩
          have hqe : IntKind.u64.wrap (((nth r1 0 : Nat) : Int) * (n : Int)) = (q : Int) := by rw [← hq, IntKind.wrap_u64, ← Int.natCast_mul]; rfl
          have hql : q < 18446744073709551616 := by omega
          have Hq := Lib.hid hq
          have O3 := Lib.hid (o2.set (j + 1) (addHi (nth r1 j) cy 0))
          have hb3 := (hb1.setCell (p := ⟨w.heap.size, j, none⟩) (Nat.le_refl _) (.int .u64 (addLo (nth r1 j) cy 0 : Nat))).setCell (p := ⟨w.heap.size, j + 1, none⟩) (Nat.le_refl _) (.int .u64 (addHi (nth r1 j) cy 0 : Nat))
          have bm0 := om.getD 0
          have Br0 := Lib.hid (or1.getD 0)
          obtain ⟨hl2, ok2, hr20, hcc, hv2⟩ := prod_mid Hr1.out or1 hk0 hk hcy Hv1.out Hk1.out Hy.out
          have V2 := Lib.hid hv2
          have R20 := Lib.hid hr20
          have L2 := Lib.hid hl2
          have CC := Lib.hid hcc
          clear own1 hr1 o2 hq hcmm hv2 hr20 hl2 hcc
          go_wp2_with fail
          generalize (wr.setCell ⟨w.heap.size, j, none⟩ (.int .u64 (addLo (nth r1 j) cy 0 : Nat))).setCell ⟨w.heap.size, j + 1, none⟩ (.int .u64 (addHi (nth r1 j) cy 0 : Nat)) = W2 at O3 hb3 ⊢
          generalize (r1.set j (addLo (nth r1 j) cy 0)).set (j + 1) (addHi (nth r1 j) cy 0) = r2 at O3 V2 R20 L2 CC ok2
          refine (mul64_at q (nth ms 0) hql bm0 _).mono ?_
          rintro e w' ⟨rfl, rfl⟩
          have hcell20 := O3.out.cell (i := 0) (by have := L2.out; omega)
          rw [R20.out] at hcell20
          have hqz := prod_q (r := nth r1 0) Hodd.out Hn.out
          rw [Hq.out] at hqz
          obtain ⟨hc0, hc0l⟩ := prod_c0 hql bm0 Br0.out hqz
          have Hc0 := Lib.hid hc0
          have ha3 := add64_0 (mulLo q (nth ms 0)) (nth r1 0) (mulLo_lt _ _) Br0.out
          clear hcell hfr hfr1 hcell1 hcell0 hm0 ha1 hqe hqz hc0
          go_wp2_with fail
          clear hcell20 ha3
          obtain ⟨wp, rfl⟩ : ∃ wp : World, wp = W2 := ⟨_, rfl⟩
          go_loopw [23, 14] (ProdIn r2 ms q j w.heap.size w) (fun jv _ _ => j + 1 - (intOf jv).toNat)
          case atStart =>
            refine ⟨0, mulHi q (nth ms 0) + addHi (mulLo q (nth ms 0)) (nth r1 0) 0, r2, by omega, rfl, ?_, hc0l, L2.out, ok2, O3.out, hb3, ?_, fun t ht => rfl⟩
            · first | exact int_eq (by omega) | exact int_eq (by rw [IntWalk.u64_in _ (by omega)]; omega)
            · have h := Hc0.out
              rw [val_take_succ r2 0, val_take_succ ms 0, R20.out]
              simp only [List.take_zero, val_nil, pw_zero, Nat.one_mul, Nat.zero_add]
              omega
          case round =>
            obtain ⟨p, c, r3, hp, rfl, rfl, hc, hr3, or3, own3, hb3', hv3, hkeep3⟩ := hrel
            have Hv3 := Lib.hid hv3
            have Hr3 := Lib.hid hr3
            have Hown3 := Lib.hid own3
            have Hk3 := Lib.hid hkeep3
            clear hv3 hkeep3
            by_cases hpl : p + 1 < j
            · have hpl' : (p : Int) + 1 < (j : Int) := by omega
              obtain ⟨bm', offm', hbm, hlm', hcm'⟩ := sm.at2 hb3' (by have := Hm.out; omega)
              injection hbm with hbm
              injection hbm with hbm1 hbm2
              subst hbm1
              subst hbm2
              have hc2 := hcm' (p + 1) (by have := Hm.out; omega)
              have bmp := om.getD (p + 1)
              have hcell := own3.cell (i := p + 1) (by omega)
              have hcellp := own3.cell (i := p) (by omega)
              have hfr := own3.frozen p
              have ha1 := add64_0 (mulLo q (nth ms (p + 1))) (nth r3 (p + 1)) (mulLo_lt _ _) (or3.getD _)
              have ha2 := add64_0 (addLo (mulLo q (nth ms (p + 1))) (nth r3 (p + 1)) 0) c (addLo_lt _ _ _) hc
              have hp10 : (p : Int) + 1 < 10 := by omega
              clear hcm' own3 hr3
              go_wp2_with fail
              refine (mul64_at q (nth ms (p + 1)) hql bmp _).mono ?_
              rintro e w' ⟨rfl, rfl⟩
              go_wp2_with fail
              exact ⟨ProdIn.step hql om (by omega) hk hc Hr3.out or3 Hown3.out hb3' (Nat.le_refl _) Hv3.out Hk3.out rfl (congrArg _ (round_lo _ _ _ _)) (round_hi hql bmp (or3.getD _) hc), by simp [intOf]; omega⟩
            · obtain rfl : j = p + 1 := by omega
              have hcell := own3.cell (i := p + 1) (by omega)
              have hcellp := own3.cell (i := p) (by omega)
              have hcell2 := own3.cell (i := p + 1 + 1) (by omega)
              have hfr := own3.frozen p
              have hfr1 := own3.frozen (p + 1)
              have ha1 := add64_0 (nth r3 (p + 1)) c (or3.getD _) hc
              have hcc1 : nth r3 (p + 1 + 1) ≤ 1 := by have := CC.out; rw [Hk3.out _ (by omega)]; exact this
              have hhi1 : addHi (nth r3 (p + 1)) c 0 ≤ 1 := by have := or3.getD (p + 1); unfold addHi; omega
              have hp8 : (p : Int) + 1 ≤ 8 := by omega
              have o4 := own3.set p (addLo (nth r3 (p + 1)) c 0)
              have O5 := Lib.hid (o4.set (p + 1) (nth r3 (p + 1 + 1) + addHi (nth r3 (p + 1)) c 0))
              have hb5 := (hb3'.setCell (p := ⟨w.heap.size, p, none⟩) (Nat.le_refl _) (.int .u64 (addLo (nth r3 (p + 1)) c 0 : Nat))).setCell (p := ⟨w.heap.size, p + 1, none⟩) (Nat.le_refl _) (.int .u64 (nth r3 (p + 1 + 1) + addHi (nth r3 (p + 1)) c 0 : Nat))
              have hcell1b := o4.cell (i := p + 1) (by simp; omega)
              have Hb5 := Lib.hid hb5
              obtain ⟨hl5, ok5, hbd5, hcg5⟩ := prod_fin Hr3.out or3 hk hc hql ox Hm.out Hv3.out Hk3.out V2.out CC.out Hbd.out Hcg.out
              have L5 := Lib.hid hl5
              have B5 := Lib.hid hbd5
              have C5 := Lib.hid hcg5
              clear own3 hr3 o4 hb5 hl5 hbd5 hcg5
              go_wp2_with fail
              exact ⟨⟨i + 1, _, _, by omega, rfl, L5.out, ok5, O5.out, Hb5.out, B5.out, C5.out⟩, by simp [intOf]; omega⟩
    · obtain rfl : i = k := by omega
      have hal : Try.prog.arrayLen 78 = 10 := by kernel_rfl
      have hcell := Hownr.out.cell (i := i) (by have := Hr.out; omega)
      have hi10 : (i : Int) ≤ 10 := by omega
      have hi10' : (i : Int) < 10 := by omega
      obtain ⟨hpl, hpm⟩ := prod_all Hx.out Hlt.out Hbd.out Hcg.out
      have Hpl := Lib.hid hpl
      have Hpm := Lib.hid hpm
      have hT : val (rs.take i) + pw i * nth rs i < 2 * val ms := by
        have h1 := Hbd.out
        have h2 := Hlt.out
        rw [val_take_succ] at h1
        omega
      have hown' := Hown.out.bel hb
      have hbd1 := hb.drew
      have smd := sm.bel hbd1
      have hownd : OwnX ex wr.drew go T zo := hown'
      have Hred := Lib.hid (reduce_x ex go i co 10 cm (nth rs i) T (some ⟨w.heap.size, 0, none⟩) M zo (rs.take i) ms wr.drew hk0 hk hcm hownd Hzo.out (by rw [List.length_take, Hr.out]; omega) Hm.out (or_.take i) om ((Sl.of_own (Own.drew Hownr.out)).take i) smd (or_.getD i) hT)
      clear hpl hpm hT hown' hownd
      go_wp2_with fail
      go_still_tail 7, (by kernel_rfl)
      go_wp2_with fail
      refine (Hred.out).mono ?_
      rintro e w3 ⟨zs, rfl, ownz, hz, oz, hvz, hgz⟩
      have Hz := Lib.hid hz
      have Hvz := Lib.hid hvz
      clear hz hvz
      go_wp2_with fail
      go_end0
      have hT : val (rs.take i) + pw i * nth rs i = val (rs.take (i + 1)) := (val_take_succ rs i).symm
      have h := Hvz.out
      rw [hT] at h
      refine ⟨zs, rfl, ownz, Hz.out, oz, ?_, ?_, grown_of_below hbd1 hgz⟩
      · rw [h]; exact Hpl.out
      · rw [h]; exact Hpm.out

def RemX (L V : Nat) (w : World) (e : Ending) (w' : World) : Prop :=
  ∃ (g : Nat) (zs : List Nat), e = .returned (.tuple #[.slice (some ⟨g, 0, none⟩) L L, .int .i64 0]) ∧ (∃ ex, OwnX ex w' g 33 zs) ∧ w.heap.size ≤ g ∧ zs.length = L ∧ Ok zs ∧ val zs = V ∧ Below w.heap.size w w'
def ElX (k : Nat) (R : Nat → Prop) (w : World) (e : Ending) (w' : World) : Prop :=
  ∃ (g : Nat) (zs : List Nat), e = .returned (.tuple #[.slice (some ⟨g, 0, none⟩) k k, .int .i64 0]) ∧ (∃ ex, OwnX ex w' g 33 zs) ∧ w.heap.size ≤ g ∧ zs.length = k ∧ Ok zs ∧ R (val zs) ∧ Below w.heap.size w w'
end Go.Proofs.Ytoocoobgidoceaa
