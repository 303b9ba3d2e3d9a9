import Derived.Test.YtfkpcmjmibbmbaaMontPow
namespace Go.Proofs.Ytfkpcmjmibbmbaa
open Go.RowKit Go.Shelf
set_option linter.unusedVariables false
attribute [local go_sem] Oper.semAt_some

theorem wp_thenF {P : Program} {c : Code} {K : Act → World → Prop} {Q : Exit → Act → World → Prop} {a : Act} {w : World} (h : c.wp P (Exit.then K (fun _ _ _ => False)) a w) : c.wp P (Exit.then K Q) a w :=
  wp_mono h (fun e a w hh => by cases e <;> first | exact hh | exact False.elim hh)
theorem below_via {a b c : World} (h : Below a.heap.size a b) (k : Below b.heap.size b c) : Below a.heap.size a c := h.trans (k.mono h.size)
theorem boxed_bel {W W' : World} {B : Nat} {t : TypeId} {v : Value} (h : Boxed W B t v) (hb : Below W.heap.size W W') : Boxed W' B t v := (hb.block B h.lt).trans h
theorem below_al {a b : World} (h : Below a.heap.size a b) (o : Obj) : Below a.heap.size a (b.alloc o) := h.alloc h.size o
theorem below_dr {a b : World} (h : Below a.heap.size a b) : Below a.heap.size a b.drew := h.drew
theorem below_st {a b : World} (h : Below a.heap.size a b) {p : Addr} (hp : a.heap.size ≤ p.block) (v : Value) : Below a.heap.size a (b.setCell p v) := h.setCell hp v
/-- What the region that makes 'out' leaves. -/
def PowOut (k M : Nat) (W : World) (o s : Value) (wx : World) : Prop :=
  ∃ ob g zs ex, o = .pointer (some ⟨ob, 0, none⟩) ∧ s = .int .i64 0 ∧ Boxed wx ob 26 (.slice (some ⟨g, 0, none⟩) k k) ∧ OwnX ex wx g 22 zs ∧ W.heap.size ≤ ob ∧ W.heap.size ≤ g ∧ zs.length = k ∧ Ok zs ∧ val zs = pw k % M ∧ Below W.heap.size W wx

theorem leafS {k M gB ob : Nat} {W3 wB : World} {zB : List Nat} {exB : List Value} {v0 : Value} (be : Below W3.heap.size W3 wB) (bo : Boxed wB ob 26 v0) (oB : OwnX exB wB gB 22 zB) (hob : ob < gB) (h3 : W3.heap.size ≤ ob) (lB : zB.length = k) (kB : Ok zB) (vB : val zB = pw k % M) :
    PowOut k M W3 (.pointer (some ⟨ob, 0, none⟩)) (.int .i64 0) (wB.setCell ⟨ob, 0, none⟩ (.slice (some ⟨gB, 0, none⟩) k k)) :=
  ⟨ob, gB, zB, exB, rfl, rfl, bo.set _, (Below.heap_setCell wB ⟨ob, 0, none⟩ _ gB (by simp; omega)).trans oB, h3, by omega, lB, kB, vB, be.setCell h3 _⟩
theorem leafA {k M gB : Nat} {W3 wB : World} {zB : List Nat} {exB : List Value} (be : Below W3.heap.size W3 wB) (oB : OwnX exB wB gB 22 zB) (h3 : W3.heap.size ≤ gB) (lB : zB.length = k) (kB : Ok zB) (vB : val zB = pw k % M) :
    PowOut k M W3 (.pointer (some ⟨wB.heap.size, 0, none⟩)) (.int .i64 0) (wB.alloc (.cells #[.slice (some ⟨gB, 0, none⟩) k k] 26)) :=
  ⟨_, gB, zB, exB, rfl, rfl, Boxed.new _ _ _, oB.alloc _, be.size, h3, lB, kB, vB, be.alloc be.size _⟩

theorem sl_put {w : World} {D : Nat} {k : IntKind} {A : Option Addr} {xs : List Nat} {x : Option (List Deferred)} {o : Obj} (h : Sl w k A xs) (hD : w.heap[D]? = some (.deferred x)) : Sl (w.putObj D o) k A xs := fun hp => by
  obtain ⟨b, off, rfl, hb, hc⟩ := h hp
  have hne : b ≠ D := by
    rintro rfl
    have := hc 0 hp
    simp [World.cell?, hD] at this
  have hg := grownBy_putObj' w D o
  exact ⟨b, off, rfl, Nat.lt_of_lt_of_le hb hg.size, fun i hi => (World.cell?_of_block (a := ⟨b, off + i, none⟩) (hg.block b hb (fun e => hne (Option.some.inj e)))).trans (hc i hi)⟩
theorem box_not_row {W : World} {b : Nat} {v : Value} {ex : List Value} {zs : List Nat} (h : Boxed W b 26 v) (o : OwnX ex W b 22 zs) : False := by
  have h1 : W.heap[b]? = _ := h
  have h2 : W.heap[b]? = _ := o
  rw [h1] at h2
  injection h2 with h3
  injection h3 with _ h4
  cases h4
theorem boxed_kb {W0 W : World} {m g b : Nat} {t : TypeId} {v : Value} (h : Boxed W0 b t v) (hkb : KeepBut m g W0 W) (hb : b < m) (hne : b ≠ g) : Boxed W b t v := (hkb b hb hne).trans h
theorem sl_kb {W0 W : World} {m g b off : Nat} {z : List Nat} (h : Sl W0 .u64 (some ⟨b, off, none⟩) z) (hb : b < m) (hne : b ≠ g) (hkb : KeepBut m g W0 W) (hs : W0.heap.size ≤ W.heap.size) : Sl W .u64 (some ⟨b, off, none⟩) z := fun hp => by
  obtain ⟨b', off', e, hlt, hc⟩ := h hp
  cases e
  exact ⟨_, _, rfl, Nat.lt_of_lt_of_le hlt hs, fun i hi => (hkb.cell (p := ⟨b, off + i, none⟩) hb hne).trans (hc i hi)⟩
/-- What a round of mont.Pow keeps. -/
def PowI (w W0 : World) (ex : List Value) (g k X M : Nat) (pre : List Bool) (W : World) : Prop :=
  Below w.heap.size w W ∧ KeepBut W0.heap.size g W0 W ∧ W0.heap.size ≤ W.heap.size ∧ ∃ zs, OwnX ex W g 22 zs ∧ zs.length = k ∧ Ok zs ∧ val zs = X ^ numB pre * pw k % M
theorem powI_own (w W0 : World) (ex : List Value) (g k X M : Nat) (h0 : w.heap.size ≤ W0.heap.size) (hg : g < W0.heap.size) : OwnFrom W0.heap.size (PowI w W0 ex g k X M) := fun pre W W' row ⟨hb, hkb, hs, zs, o, l, k', v⟩ hgr hr =>
  ⟨ownFrom_below (Nat.le_refl _) h0 pre W W' row hb hgr hr,
   fun b hbm hne => (hgr.block b (by omega) (fun e => by have := (hr b e.symm).1; omega)).trans (hkb b hbm hne), Nat.le_trans hs hgr.size, zs,
   (hgr.block g o.lt (fun e => by have := (hr g e.symm).1; omega)).trans o, l, k', v⟩
/-- The end of a round. -/
theorem pow_round {w W0 W w3 w4 : World} {ex : List Value} {g k X M m : Nat} {T : TypeId} {zz z4 : List Nat} {pre : List Bool} {x : Bool} (hbe : Below w.heap.size w W) (hkb : KeepBut W0.heap.size g W0 W) (hsz : W0.heap.size ≤ W.heap.size) (hgW : g < W.heap.size) (hwg : w.heap.size ≤ g)
    (b3 : Below W.heap.size W w3) (ow3 : OwnX ex w3 g 22 zz) (hg4 : w3.grownBy w4 (some g)) (o4 : OwnX ex w4 g 22 z4) (l4 : z4.length = k) (k4 : Ok z4) (v4 : val z4 = X ^ numB (pre ++ [x]) * pw k % M) (hm : m = W0.heap.size) :
    KeepsOthers W w4 ∧ KeepBut m g W w4 ∧ PowI w W0 ex g k X M (pre ++ [x]) w4 := by
  subst hm
  have hkk : KeepBut W0.heap.size g W w4 := fun b hb hne => (hg4.block b (by have := b3.size; omega) (fun e => hne (Option.some.inj e))).trans (b3.block b (by omega))
  refine ⟨KeepsOthers.trans ⟨b3.size, fun i o hi _ => (b3.block i (Array.getElem?_eq_some_iff.1 hi).1).trans hi⟩ (KeepsOthers.of_grownBy hg4 fun j o ej hj => ?_), hkk, ?_, fun b hb hne => (hkk b hb hne).trans (hkb b hb hne), by have := b3.size; have := hg4.size; omega, z4, o4, l4, k4, v4⟩
  · obtain rfl : g = j := Option.some.inj ej
    rw [show w3.heap[g]? = _ from ow3] at hj
    cases hj; rfl
  · exact (hbe.trans (b3.mono hbe.size)).grown hg4 (by have := b3.size; have := hbe.size; omega) fun j hj => by have : g = j := Option.some.inj hj; omega

set_option maxHeartbeats 4000000 in
set_option maxRecDepth 100000 in
/-- mont.Pow -/
theorem mpow_ok (A E M : Option Addr) (k n ca ce cm : Nat) (xs es ms : List Nat) (w : World) (hca : k ≤ ca) (hca' : ca ≤ maxLen) (hce : n ≤ ce) (hce' : ce ≤ maxLen) (hcm : k ≤ cm) (hcm' : cm ≤ maxLen)
    (hn : n ≤ 16) (hm : ms.length = k) (he : es.length = n) (ox : Ok xs) (oe : Ok es) (om : Ok ms) (sx : Sl w .u64 A xs) (se : Sl w .u64 E es) (sm : Sl w .u64 M ms) (hM : IsMod ms) (hX : IsEl xs ms) :
    Calls Try.prog 23 #[.slice A k ca, .slice E n ce, .slice M k cm] w (ElPost k (fun v => v = val xs ^ val es % val ms) w) := by
  have hx : xs.length = k := by rw [hX.1, hm]
  have hk0 : 0 < k := by have := hM.1; omega
  have hk8 : k ≤ 8 := by have := hM.2.1; omega
  have hn16 : ¬ (n : Int) > 16 := by omega
  have hn16' : (decide ((16 : Int) < (n : Int))) = false := by simp; omega
  have bb := (Below.refl w.heap.size w).alloc (Nat.le_refl _) (.cells #[.slice M k cm] 26)
  have C1 := Lib.hid (modB_yes hM ▸ modulus_any M k cm ms _ hcm hcm' hm om (sm.bel bb))
  have C2 := Lib.hid (elB_yes hX ▸ element_any A M k k ca cm xs ms _ hca hca' hcm hcm' hx hm hk8 ox om (sx.bel bb) (sm.bel bb))
  have C3 := Lib.hid (minto_ok A M k ca cm xs ms _ hca hca' hcm hcm' hm ox om (sx.bel bb) (sm.bel bb) hM hX)
  have bxm := Boxed.new w 26 (.slice M k cm)
  have HM := Lib.hid hM
  have HX := Lib.hid hX
  have Hm := Lib.hid hm
  clear hX hM hm
  have hro : Fence.wide.round = none := rfl
  refine (callsIn_wide (n := 8)).1 ?_
  refine callsIn_of_wp_marks Try.func23 rfl trivial ?_ hro
  refine wpIn_wide.2 ?_
  simp only [Try.ntmps23, List.size_toArray, List.length_cons, List.length_nil, Nat.reduceAdd, Nat.reduceSub, Array.replicate_succ, Array.replicate_zero, List.push_toArray, List.append_toArray, List.nil_append, List.cons_append]
  go_wp2_with fail
  refine (C1.out).mono ?_
  rintro e w' ⟨rfl, rfl⟩
  go_wp2_with fail
  refine (C2.out).mono ?_
  rintro e w' ⟨rfl, rfl⟩
  go_wp2_with fail
  refine (C3.out).mono ?_
  rintro e w2 ⟨g2, z2, rfl, s2, l2, k2, v2, b2⟩
  go_upto_region 4 with fail
  have bx2 := boxed_bel bxm b2
  have bxm3 := bx2.alloc (.cells #[.slice (some ⟨g2, 0, none⟩) k k] 26)
  have bxb3 := Boxed.new w2 26 (.slice (some ⟨g2, 0, none⟩) k k)
  have sb3 : Sl (w2.alloc (.cells #[.slice (some ⟨g2, 0, none⟩) k k] 26)) .u64 (some ⟨g2, 0, none⟩) z2 := s2.bel ((Below.refl _ _).alloc (Nat.le_refl _) _)
  have bw3 : Below w.heap.size w (w2.alloc (.cells #[.slice (some ⟨g2, 0, none⟩) k k] 26)) := (bb.trans (b2.mono bb.size)).alloc (Nat.le_trans bb.size b2.size) _
  have hsz3 : w2.heap.size < (w2.alloc (.cells #[.slice (some ⟨g2, 0, none⟩) k k] 26)).heap.size := by simp
  have hszm : w.heap.size < w2.heap.size := by have := b2.size; simp at this; omega
  have L2 := Lib.hid l2
  have V2 := Lib.hid v2
  clear C1 C2 C3 s2 b2 bb bxm bx2 l2 v2
  generalize w2.alloc (.cells #[.slice (some ⟨g2, 0, none⟩) k k] 26) = W3 at *
  have HIN := Lib.hid (fun (W : World) (z : List Nat) (gz : Nat) (bw : Below w.heap.size w W) (oz : Own W gz 22 .u64 z) (lz : z.length = k) (kz : Ok z) (vz : val z = 1) =>
    minto_x (some ⟨gz, 0, none⟩) M k k cm z ms W (Nat.le_refl _) (by unfold maxLen; omega) hcm hcm' Hm.out kz om (Sl.of_own oz) (sm.bel bw) HM.out ⟨by rw [lz, Hm.out], by rw [vz]; exact HM.out.2.2.2⟩)
  have cm3 := bxm3.cell
  have szw3 : w.heap.size < W3.heap.size := by omega
  go_cut [10, 11] from 35 to 41 (fun o s wx => PowOut k (val ms) W3 o s wx)
  case first =>
    refine wp_thenF ?_
    go_region_with (first
      | (go_at_call 31; refine (one_any M k cm _ hk0 hk8).mono ?_; rintro e wA ⟨gA, zA, rfl, oA, lA, kA, vA, bA⟩
         have beA : Below W3.heap.size W3 wA := below_via (by repeat' (first | assumption | exact Below.refl _ _ | refine below_dr ?_ | refine below_al ?_ _)) bA
         have cmA := (boxed_bel bxm3 beA).cell
         have szA : w.heap.size < wA.heap.size := by have := beA.size; omega
         have cmA2 : ∀ o, (wA.alloc o).cell? ⟨w.heap.size, 0, none⟩ = some (.slice M k cm) := fun o => (boxed_bel bxm3 (below_al beA o)).cell
         have LA := Lib.hid lA
         have VA := Lib.hid vA
         try (have boA : Boxed wA W3.heap.size 26 (.slice none 0 0) := boxed_bel (Boxed.new W3.drew _ _) bA; have ocA := boA.cell; have ofA := boA.frozen)
         clear lA vA)
      | (go_at_call 16; refine (HIN.out _ zA gA (bw3.trans ((show Below W3.heap.size W3 _ by repeat' (first | assumption | exact Below.refl _ _ | refine below_dr ?_ | refine below_al ?_ _)).mono bw3.size)) (by first | exact oA | exact oA.alloc _) LA.out kA VA.out).mono ?_; rintro e wB ⟨gB, zB, rfl, ⟨exB, oB⟩, hgB, lB, kB, vB, bB⟩
         have beB : Below W3.heap.size W3 wB := below_via (by repeat' (first | assumption | exact Below.refl _ _ | refine below_dr ?_ | refine below_al ?_ _)) bB
         have LB := Lib.hid lB
         have VB := Lib.hid vB
         try (have boB := boxed_bel boA bB; have ocB := boB.cell; have ofB := boB.frozen)
         try (have boB : Boxed wB wA.heap.size 26 (.slice none 0 0) := boxed_bel (Boxed.new wA _ _) bB; have ocB := boB.cell; have ofB := boB.frozen)
         clear lB vB))
    all_goals
      go_wp2_with fail
      go_meet
      have VB' : val zB = pw k % val ms := by rw [VB.out, VA.out, Nat.one_mul]
      first
      | exact leafA beB oB (Nat.le_trans beA.size hgB) LB.out kB VB'
      | exact leafS beB boB oB (Nat.lt_of_lt_of_le boA.lt hgB) (Nat.le_refl _) LB.out kB VB'
      | exact leafS beB boB oB (by have := hgB; simp at this; omega) beA.size LB.out kB VB'
  case rest =>
    obtain ⟨ob, g, zs, ex, rfl, rfl, bxo, oz, hob, hg, lz, kz, vz, bc⟩ := hcut
    have bxmc := boxed_bel bxm3 bc
    have bxbc := boxed_bel bxb3 bc
    have sbc := sb3.bel bc
    have bwc : Below w.heap.size w wc := bw3.trans (bc.mono bw3.size)
    have szc : W3.heap.size < wc.heap.size := by have := bxo.lt; omega
    have szcm : w.heap.size < wc.heap.size := by omega
    obtain ⟨bm, offm, rfl, hlm, hcm0⟩ := sm.at2 bwc (by have := Hm.out; omega)
    have hm0 := hcm0 0 (by have := Hm.out; omega)
    rw [Nat.add_zero] at hm0
    have hm0l := om.getD 0
    have cmc := bxmc.cell
    clear hcm0 cm3 HIN
    go_wp2_with fail
    refine (neg_any (nth ms 0) _ hm0l).mono ?_
    rintro e w' ⟨ng, rfl, hng, rfl⟩
    have Hng := Lib.hid hng
    clear hng
    go_wp2_with fail
    refine (mbits_in E n ce _).mono ?_
    rintro e w' ⟨rfl, rfl⟩
    go_wp2_with fail
    have bxo0 := (bxo.alloc (.cells #[.int .u64 (ng : Nat)] 22)).alloc (.cells #[.slice E n ce] 26)
    have bxm0 := (bxmc.alloc (.cells #[.int .u64 (ng : Nat)] 22)).alloc (.cells #[.slice E n ce] 26)
    have bxb0 := (bxbc.alloc (.cells #[.int .u64 (ng : Nat)] 22)).alloc (.cells #[.slice E n ce] 26)
    have bxn0 := (Boxed.new wc 22 (.int .u64 (ng : Nat))).alloc (.cells #[.slice E n ce] 26)
    have bxe0 : Boxed ((wc.alloc (.cells #[.int .u64 (ng : Nat)] 22)).alloc (.cells #[.slice E n ce] 26)) (wc.heap.size + 1) 26 (.slice E n ce) := by
      have := Boxed.new (wc.alloc (.cells #[.int .u64 (ng : Nat)] 22)) 26 (.slice E n ce)
      rwa [World.size_alloc] at this
    have bw0c : Below wc.heap.size wc ((wc.alloc (.cells #[.int .u64 (ng : Nat)] 22)).alloc (.cells #[.slice E n ce] 26)) := below_al (below_al (Below.refl _ _) _) _
    have bw0 : Below w.heap.size w ((wc.alloc (.cells #[.int .u64 (ng : Nat)] 22)).alloc (.cells #[.slice E n ce] 26)) := bwc.trans (bw0c.mono bwc.size)
    have oz0 := (oz.alloc (.cells #[.int .u64 (ng : Nat)] 22)).alloc (.cells #[.slice E n ce] 26)
    have sb0 := sbc.bel bw0c
    have sz0 : ((wc.alloc (.cells #[.int .u64 (ng : Nat)] 22)).alloc (.cells #[.slice E n ce] 26)).heap.size = wc.heap.size + 2 := by simp
    have hgl : g < wc.heap.size := oz.lt
    have hol : ob < wc.heap.size := bxo.lt
    have hog : ob ≠ g := fun e => box_not_row bxo (e ▸ oz)
    have hg2 : g2 < W3.heap.size := by
      obtain ⟨b, off, h, hb, _⟩ := sb3 (by have := L2.out; omega)
      cases h; exact hb
    have hpar : val ms % 2 = 1 := by have h := HM.out.2.2.1; rw [getD_val om, pw_zero, Nat.div_one] at h; omega
    have hpos : 0 < val ms := by omega
    have hE : val es < 2 ^ bitLen (val es) := bitLen_lt _
    generalize (wc.alloc (.cells #[.int .u64 (ng : Nat)] 22)).alloc (.cells #[.slice E n ce] 26) = W0 at *
    have hcs : 0 < n → ∃ b off, E = some ⟨b, off, none⟩ ∧ b < wc.heap.size + 2 ∧ b ≠ g ∧ ∀ j, j < n → W0.cell? ⟨b, off + j, none⟩ = some (.int .u64 (nth es j : Nat)) := fun h => by
      obtain ⟨b, off, hE', hb, hcell⟩ := se.at2 bw0 (by omega)
      exact ⟨b, off, hE', by omega, by omega, fun j hj => hcell j (by omega)⟩
    have HP := Lib.hid hpar
    have HMS := Lib.hid sm
    have HB0 := Lib.hid sb0
    clear hm0 cmc bc bxo bxmc bxbc bwc oz sbc bw0c
    refine (wpIn_wide (n := 8)).1 ?_
    refine wpIn_rangeFunc_ownF hro (by decide) (gf := 52) (lb := #[.pointer (some ⟨wc.heap.size + 1, 0, none⟩)]) rfl trivial (enters_of Try.func52 (by kernel_rfl) rfl)
      (bits_stops (wc.heap.size + 1) (wc.heap.size + 2) g n ce E es hn hce hce' he oe (by omega) (by omega) W0 (by omega) bxe0.cell hcs) (fun h k => h.trans k) (keepBut_b (by omega)) (Below.refl _ _) (fun _ => rfl)
      (PowI w W0 ex g k (val xs) (val ms)) (fun _ _ _ => False) (powI_own w W0 ex g k _ _ bw0.size (by omega)) (fun _ _ _ _ _ hs _ _ => hs)
      ⟨bw0, KeepBut.refl _ _ _, Nat.le_refl _, zs, oz0, lz, kz, by rw [vz]; simp [numB]⟩
      (fun x => { tmps := #[Value.slice A k ca, Value.slice E n ce, Value.slice (some { block := bm, off := offm }) k cm, undef, undef, Value.pointer (some { block := w.heap.size, off := 0 }), Value.slice none 0 0, Value.int IntKind.i64 0, Value.pointer (some { block := w2.heap.size, off := 0 }), Value.int IntKind.i64 0, Value.pointer (some { block := ob, off := 0 }), Value.int IntKind.i64 0, Value.pointer (some { block := wc.heap.size, off := 0 }), .bool x, undef, Value.slice (some { block := bm, off := offm }) k cm, Value.bool true, Value.bool false, Value.bool false, Value.slice A k ca, Value.slice (some { block := bm, off := offm }) k cm, Value.bool true, Value.bool false, Value.bool false, Value.bool false, Value.slice E n ce, Value.int IntKind.i64 (n : Nat), Value.bool false, Value.bool false, Value.tuple #[Value.slice (some { block := g2, off := 0 }) k k, Value.int IntKind.i64 0], Value.slice A k ca, Value.slice (some { block := bm, off := offm }) k cm, Value.tuple #[Value.slice (some { block := g2, off := 0 }) k k, Value.int IntKind.i64 0], Value.slice (some { block := g2, off := 0 }) k k, Value.int IntKind.i64 0, u35, u36, u37, u38, u39, u40, u41, Value.int IntKind.i64 0, Value.bool false, Value.bool false, Value.int IntKind.i64 0, Value.bool false, Value.bool false, Value.slice (some { block := bm, off := offm }) k cm, Value.pointer (some { block := bm, off := offm }), Value.int IntKind.u64 (nth ms 0 : Nat), Value.int IntKind.u64 (ng : Nat), Value.slice E n ce, Value.func (Fn.func 52) #[] #[Value.pointer (some { block := wc.heap.size + 1, off := 0 })], .bool x, undef, undef, undef, undef, undef, undef, undef, undef, undef, undef, undef, undef, undef, undef, undef, undef, undef, undef, undef, undef, undef, undef, undef], defers := [] }) ?assign ?body ?done ?stop
    case assign =>
      intro l x W K hK
      dsimp only [bolE]
      gi_wp2
      exact hK
    case body =>
      rintro l pre x W ⟨hbe, hkb, hsz, zz, ow, lw, kw, vw⟩ hN
      have coW := (boxed_kb bxo0 hkb (by omega) hog)
      have cmW := (boxed_kb bxm0 hkb (by omega) (by omega))
      have cbW := (boxed_kb bxb0 hkb (by omega) (by omega))
      have cnW := (boxed_kb bxn0 hkb (by omega) (by omega))
      have smW := HMS.out.bel hbe
      have sbW := sl_kb HB0.out (by omega) (by omega) hkb hsz
      have co := coW.cell
      have hltw : val zz < val ms := by rw [vw]; exact Nat.mod_lt _ hpos
      have hgW : g < W.heap.size := ow.lt
      have Lw := Lib.hid lw
      have Vw := Lib.hid vw
      clear lw vw
      gi_wp2
      refine ⟨trivial, (CallsIn.inRound l (callsIn_wide.2 (clone_x (some ⟨g, 0, none⟩) k k zz W hk0 hk8 Lw.out ow.sl))).mono ?_⟩
      rintro e w1 ⟨gN, capN, exN, rfl, oN, hgN, hcN, hcN', b1⟩
      have co1 := (boxed_bel coW b1).cell
      have cm1 := (boxed_bel cmW b1).cell
      have cn1 := (boxed_bel cnW b1).cell
      have ow1 := (ow.bel b1).sl
      have D1 := Lib.hid (product_x exN gN k capN k k cm ng 22 (some ⟨g, 0, none⟩) (some ⟨g, 0, none⟩) (some ⟨bm, offm, none⟩) zz zz zz ms w1 hk0 hk8 oN Lw.out Lw.out Lw.out Hm.out kw kw om ow1 ow1 (smW.bel b1) hcm Hng.out HM.out.2.2.1 hltw)
      gi_wp2
      refine ⟨trivial, (CallsIn.inRound l (callsIn_wide.2 D1.out)).mono ?_⟩
      rintro e w3 ⟨z3, rfl, o3, l3, k3, lt3, mul3, hg3⟩
      have b3 : Below W.heap.size W w3 := below_grown_own b1 hg3 hgN
      have hv3 := pow_sq HP.out Vw.out ⟨lt3, mul3⟩
      have co3 := (boxed_bel coW b3).cell
      have cm3 := (boxed_bel cmW b3).cell
      have cb3 := (boxed_bel cbW b3).cell
      have cn3 := (boxed_bel cnW b3).cell
      have ow3 := ow.bel b3
      have L3 := Lib.hid l3
      have V3 := Lib.hid hv3
      clear l3 mul3 hv3 D1
      cases x
      · obtain ⟨w4, hcp, o4, hg4⟩ := run_copy_x (P := Try.prog) 26 26 3 22 Try.underlying26 (by kernel_rfl) g k k capN (some ⟨gN, 0, none⟩) 22 zz z3 ex ow3 Lw.out o3.sl L3.out hk0
        gi_wp2
        refine pow_round (T := 22) (x := false) hbe hkb hsz hgW (by omega) b3 ow3 hg4 o4 L3.out k3 ?_ (by omega)
        rw [numB_snoc, V3.out]
        rfl
      · have hlt2 : val z2 < val ms := by rw [V2.out]; exact Nat.mod_lt _ hpos
        have D2 := Lib.hid (product_x ex g k k capN k cm ng 22 (some ⟨gN, 0, none⟩) (some ⟨g2, 0, none⟩) (some ⟨bm, offm, none⟩) zz z3 z2 ms w3 hk0 hk8 ow3 Lw.out L3.out L2.out Hm.out k3 k2 om o3.sl (sbW.bel b3) (smW.bel b3) hcm Hng.out HM.out.2.2.1 hlt2)
        gi_wp2
        refine ⟨trivial, (CallsIn.inRound l (callsIn_wide.2 D2.out)).mono ?_⟩
        rintro e w4 ⟨z4, rfl, o4, l4, k4, lt4, mul4, hg4⟩
        gi_wp2
        refine pow_round (T := 22) (x := true) hbe hkb hsz hgW (by omega) b3 ow3 hg4 o4 l4 k4 ?_ (by omega)
        rw [numB_snoc, pow_mul HP.out V3.out (B := val xs) V2.out ⟨lt4, mul4⟩]
        rfl
    case done =>
      rintro D ys W hD rfl ⟨hbe, hkb, hsz, zz, ow, lw, kw, vw⟩ hK
      have coW := (boxed_kb bxo0 hkb (by omega) hog)
      have cmW := (boxed_kb bxm0 hkb (by omega) (by omega))
      have co := coW.cell
      have cm' := cmW.cell
      have hltw : val zz < val ms := by rw [vw]; exact Nat.mod_lt _ hpos
      have D1 := Lib.hid (mfrom_ok (some ⟨g, 0, none⟩) (some ⟨bm, offm, none⟩) k k cm zz ms W (Nat.le_refl _) (by unfold maxLen; omega) hcm hcm' Hm.out kw om ow.sl (HMS.out.bel hbe) HM.out ⟨by rw [lw, Hm.out], hltw⟩)
      rw [numB_all hE] at vw
      have Vw := Lib.hid vw
      clear vw
      go_wp2_with fail
      refine (D1.out).mono ?_
      rintro e w5 ⟨g5, z5, rfl, s5, l5, k5, v5, b5⟩
      have L5 := Lib.hid l5
      have V5 := Lib.hid (pow_back HP.out Vw.out v5)
      have hK5 := (b5.block D (Array.getElem?_eq_some_iff.1 hK).1).trans hK
      clear l5 v5
      go_wp2_with fail
      refine ⟨by simp, .inl ⟨_, _, rfl, run_takeDeferred hK5, ?_⟩⟩
      exact ⟨_, results_tmp2 rfl _ _ _, g5, z5, rfl, sl_put s5 hK5, L5.out, k5, V5.out, (hbe.trans (b5.mono hbe.size)).trans (belowK_b (w := w) (Nat.le_refl _) w5 D _ _ (by have := bw0.size; omega) hK5 rfl rfl)⟩
    case stop =>
      rintro D c pre W _ _ h _
      exact h.elim
end Go.Proofs.Ytfkpcmjmibbmbaa
