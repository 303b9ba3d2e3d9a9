/- Chapter 24: the reference's op. -/
import Derived.Test.YtdilgmokiclfaaaDoorScRb
import Derived.Test.YtdilgmokiclfaaaDoorScRe
import Derived.Test.YtdilgmokiclfaaaDoorScG
namespace Go.Proofs.YtdilgmokiclfaaaDoor
open Go.RowKit
set_option linter.unusedVariables false
set_option maxRecDepth 100000

structure RoSt (w W : World) (xs ns : Array Value) : Prop where
  y : Bk W w.heap.size 55 (opV 0 0 0 0 0 0 0 0 0 none 0 0 none 0 0)
  x : Bk W (w.heap.size + 1) 55 xs
  m : Bk W (w.heap.size + 1 + 1) 103 ns
  b : Below w.heap.size w W
theorem RoSt.bel {w W W' : World} {xs ns : Array Value} (h : RoSt w W xs ns) (hb : Below W.heap.size W W') : RoSt w W' xs ns := ⟨h.y.bel hb, h.x.bel hb, h.m.bel hb, h.b.trans (hb.mono h.b.size)⟩
theorem RoSt.setx {w W : World} {xs ns : Array Value} (h : RoSt w W xs ns) (i : Nat) (v : Value) : RoSt w (W.setCell ⟨w.heap.size + 1, i, none⟩ v) (xs.setIfInBounds i v) ns :=
  ⟨h.y.far (by show w.heap.size ≠ w.heap.size + 1; omega) v, h.x.set i v, h.m.far (by show w.heap.size + 1 + 1 ≠ w.heap.size + 1; omega) v, h.b.setCell (p := ⟨w.heap.size + 1, i, none⟩) (by show w.heap.size ≤ w.heap.size + 1; omega) v⟩
theorem RoSt.setm {w W : World} {xs ns : Array Value} (h : RoSt w W xs ns) (i : Nat) (v : Value) : RoSt w (W.setCell ⟨w.heap.size + 1 + 1, i, none⟩ v) xs (ns.setIfInBounds i v) :=
  ⟨h.y.far (by show w.heap.size ≠ w.heap.size + 1 + 1; omega) v, h.x.far (by show w.heap.size + 1 ≠ w.heap.size + 1 + 1; omega) v, h.m.set i v, h.b.setCell (p := ⟨w.heap.size + 1 + 1, i, none⟩) (by show w.heap.size ≤ w.heap.size + 1 + 1; omega) v⟩
theorem RoSt.app {w W W' : World} {B k n cap g' : Nat} {e : TypeId} {v : Value} {l : List Value} {xs ns : Array Value} (h : RoSt w W xs ns) (hA : App1 B e k W v n cap g' l W') (hv : ∀ j, v.ownBlock = some j → w.heap.size + 1 + 1 < j) : RoSt w W' xs ns :=
  ⟨(hA.blk _ h.y.lt (fun e => by have := hv _ e.symm; omega)).trans h.y, (hA.blk _ h.x.lt (fun e => by have := hv _ e.symm; omega)).trans h.x, (hA.blk _ h.m.lt (fun e => by have := hv _ e.symm; omega)).trans h.m,
    hA.below h.b h.b.size (fun j e => by have := hv j e; omega)⟩
def n3 (a b c : Int) : Array Value := #[.int .i64 a, .int .i64 b, .int .i64 c]
def NlRel (w : World) (t : Int) (N : Nat) (ws : List ByteArray) (i : Value) (wr : World) : Prop :=
  ∃ (j : Nat) (l : List Int), j ≤ N ∧ i = .int .i64 (j : Int) ∧ l.length = j ∧ (ws.take j).map smallB = l.map some ∧ RoSt w wr (opV t 0 0 0 0 0 0 0 0 none 0 0 none 0 0) (n3 (l.getD 0 0) (l.getD 1 0) (l.getD 2 0))
theorem StrS.belB {w w' : World} {b o n c : Nat} {ws : List ByteArray} (h : StrS w b o n c ws) (hb : Below w.heap.size w w') : StrS w' b o n c ws := h.bel hb
theorem opE0 (t a b c n : Int) (ks : List Nat) (vs : List Int) (KA : Option Addr) (kc : Nat) (VA : Option Addr) (vc : Nat) : OpE.v ⟨⟨t, a, b, c, n, 0, ks, vs⟩, KA, kc, VA, vc⟩ = opV t a b c n 0 0 0 0 KA ks.length kc VA vs.length vc := opV0 t a b c n ks vs KA kc VA vc
theorem opEz (t a b c n : Int) : OpE.v ⟨⟨t, a, b, c, n, 0, [], []⟩, none, 0, none, 0⟩ = opV t a b c n 0 0 0 0 none 0 0 none 0 0 := opV0 t a b c n [] [] none 0 none 0
theorem opEk (t a b c n : Int) {x a0 a1 a2 a3 : Nat} (h : fl x = [a0, a1, a2, a3]) : OpE.v ⟨⟨t, a, b, c, n, x, [], []⟩, none, 0, none, 0⟩ = opV t a b c n a0 a1 a2 a3 none 0 0 none 0 0 := by
  show opV t a b c n (nth (fl x) 0) (nth (fl x) 1) (nth (fl x) 2) (nth (fl x) 3) none 0 0 none 0 0 = _
  rw [h]; rfl
theorem opIn0 (W : World) (t a b c n : Int) {x : Nat} (h : x < pw 4) : OpIn W ⟨⟨t, a, b, c, n, x, [], []⟩, none, 0, none, 0⟩ := ⟨h, frS_nil _, intS_nil _⟩
theorem ro_no {R : Option OpD} {E : OpE} {xs : Array Value} {w W' : World} (hR : R = none) (hv : E.v = xs) (hb : Below w.heap.size w W') : RoOut R w (.returned (.tuple #[.agg xs, .bool false])) W' := by
  subst hR hv
  exact ⟨E, rfl, fun d h => (by cases h), hb⟩
theorem ro_yes {R : Option OpD} {E : OpE} {xs : Array Value} {w W' : World} (hR : R = some E.d) (hv : E.v = xs) (hin : OpInA w.heap.size W' E) (hb : Below w.heap.size w W') : RoOut R w (.returned (.tuple #[.agg xs, .bool true])) W' := by
  subst hR hv
  exact ⟨E, rfl, fun d h => ⟨Option.some.inj h, hin⟩, hb⟩
def PqRel (w : World) (t : Int) (N : Nat) (us : List ByteArray) (i : Value) (wr : World) : Prop :=
  ∃ (ks : List Nat) (vs : List Int) (KA : Option Addr) (kc : Nat) (VA : Option Addr) (vc : Nat), i = .int .i64 ((2 * ks.length : Nat) : Int) ∧
    RoSt w wr (opV t 0 0 0 0 0 0 0 0 KA ks.length kc VA vs.length vc) (n3 0 0 0) ∧
    wr.ownsRow (w.heap.size + 1 + 1 + 1) 24 4 (.slice KA ks.length kc) ks.length (frCs ks) ∧ wr.ownsRow (w.heap.size + 1 + 1 + 1) 3 1 (.slice VA vs.length vc) vs.length (intsV vs) ∧ Fl4 ks ∧ vs.length = ks.length ∧ 2 * ks.length ≤ N ∧
    rdP N (false, us) = (ks ++ (rdP N (false, us.drop (2 * ks.length))).1, vs ++ (rdP N (false, us.drop (2 * ks.length))).2.1, (rdP N (false, us.drop (2 * ks.length))).2.2)
set_option maxHeartbeats 8000000 in
/-- ref.op -/
theorem rop2_any (t : Int) (b o N c : Nat) (ws : List ByteArray) (w : World) (ht : 1 ≤ t ∧ t ≤ 11) (H : StrS w b o N c ws) (he : Env w) (hn : N ≤ 60000000) (hm : ∀ x ∈ ws, x.size ≤ 50000000) :
    Calls Tryd.prog 44 #[.int .i64 t, .slice (some ⟨b, o, none⟩) N c] w fun e w' => RoOut (opT t ws) w e w' := by
  have hcl : Tryd.prog.cellsOf 9 = 1 := by kernel_rfl
  have hal : Tryd.prog.arrayLen 103 = 3 := by kernel_rfl
  obtain ⟨R, hR⟩ : ∃ x, x = opT t ws := ⟨_, rfl⟩
  rw [← hR]
  have HR := Lib.hid hR
  have HE := Lib.hid he
  have HH := Lib.hid H
  have HM := Lib.hid hm
  have HLEN := Lib.hid H.len
  have HT := Lib.hid ht
  have D1 := Lib.hid (fun W => rnames_any t W)
  have y0 := Bk.new w 55 (opV 0 0 0 0 0 0 0 0 0 none 0 0 none 0 0)
  have b0 := (Below.refl w.heap.size w).alloc (Nat.le_refl _) (.cells (opV 0 0 0 0 0 0 0 0 0 none 0 0 none 0 0) 55)
  have hs0 : (w.alloc (.cells (opV 0 0 0 0 0 0 0 0 0 none 0 0 none 0 0) 55)).heap.size = w.heap.size + 1 := by simp
  rw [zeroOp] at y0 b0 hs0
  clear hR he H hm ht
  go_enter Tryd.func44, Tryd.ntmps44
  go_upto_region 1 with fail
  generalize w.alloc (.cells #[.int .i64 0, .int .i64 0, .int .i64 0, .int .i64 0, .int .i64 0, .int .u64 0, .int .u64 0, .int .u64 0, .int .u64 0, .slice none 0 0, .slice none 0 0] 55) = W1 at *
  have y1 := y0.alloc (.cells (opV t 0 0 0 0 0 0 0 0 none 0 0 none 0 0) 55)
  have x1 := Bk.new W1 55 (opV t 0 0 0 0 0 0 0 0 none 0 0 none 0 0)
  have b1 := b0.alloc b0.size (.cells (opV t 0 0 0 0 0 0 0 0 none 0 0 none 0 0) 55)
  have hs1 : (W1.alloc (.cells (opV t 0 0 0 0 0 0 0 0 none 0 0 none 0 0) 55)).heap.size = w.heap.size + 1 + 1 := by simp [hs0]
  rw [hs0] at x1
  go_upto_region 2 with (first
    | refine wpList_build_to rfl 55 _ rfl (opV t 0 0 0 0 0 0 0 0 none 0 0 none 0 0) (by kernel_rfl) ?_
    | refine wpList_store_newC rfl 55 (.tmp 6) (.tmp 22) rfl (opV t 0 0 0 0 0 0 0 0 none 0 0 none 0 0) (w.heap.size + 1) rfl hs0.symm rfl 55 _ (by kernel_rfl) (by kernel_rfl) (by kernel_rfl) ?_)
  generalize W1.alloc (.cells (opV t 0 0 0 0 0 0 0 0 none 0 0 none 0 0) 55) = W2 at *
  have y2 := y1.alloc (.cells #[.int .i64 0, .int .i64 0, .int .i64 0] 103)
  have x2 := x1.alloc (.cells #[.int .i64 0, .int .i64 0, .int .i64 0] 103)
  have m2 := Bk.new W2 103 #[.int .i64 0, .int .i64 0, .int .i64 0]
  have b2 := b1.alloc b1.size (.cells #[.int .i64 0, .int .i64 0, .int .i64 0] 103)
  rw [hs1] at m2
  clear y0 b0 hs0 y1 x1 b1
  go_upto_region 3 with fail
  have P3 : RoSt w (W2.alloc (.cells #[.int .i64 0, .int .i64 0, .int .i64 0] 103)) (opV t 0 0 0 0 0 0 0 0 none 0 0 none 0 0) (n3 0 0 0) := ⟨y2, x2, m2, b2⟩
  generalize W2.alloc (.cells #[.int .i64 0, .int .i64 0, .int .i64 0] 103) = W3 at *
  have HP3 := Lib.hid P3
  obtain ⟨nn, hnn⟩ : ∃ n, namesN t = n := ⟨_, rfl⟩
  rw [hnn] at D1
  have hn3 : nn ≤ 3 := by rw [← hnn]; exact namesN_le t
  have HNN := Lib.hid hnn
  clear y2 x2 m2 b2 P3 hs1 hnn
  go_wp2_with fail
  refine (D1.out _).mono ?_
  rintro e w3 ⟨rfl, rfl⟩
  by_cases hfew : (N : Int) < (nn : Int)
  · have hRx := Lib.hid (show R = none by rw [HR.out]; exact opT_bad (rdN_few (by rw [HNN.out, HLEN.out]; omega)))
    have p3 := HP3.out
    go_wp2_with (first
      | refine wpList_load_row rfl 55 (.tmp 6) rfl (w.heap.size + 1) rfl 55 _ (0, 0) _ p3.x Tryd.underlying55 rfl (by kernel_rfl) ?_
      | refine wpList_store_row rfl 55 (.tmp 4) (.tmp 30) rfl w.heap.size (opV t 0 0 0 0 0 0 0 0 none 0 0 none 0 0) rfl rfl 55 _ p3.y (by kernel_rfl) (by kernel_rfl) (by kernel_rfl) ?_)
    have hbk : Bk (w3.setRow w.heap.size (opV t 0 0 0 0 0 0 0 0 none 0 0 none 0 0)) w.heap.size 55 (opV t 0 0 0 0 0 0 0 0 none 0 0 none 0 0) := setRow_heap _ _ _ _ _ _ p3.y
    refine bodyPost_ret (results_op rfl _ rfl hbk) rfl ⟨⟨⟨t, 0, 0, 0, 0, 0, [], []⟩, none, 0, none, 0⟩, ?_, fun d hd => (by rw [hRx.out] at hd; cases hd), below_setRow p3.b (Nat.le_refl _) _⟩
    rw [hRx.out]
    show _ = Ending.returned (.tuple #[.agg (opV' ⟨t, 0, 0, 0, 0, 0, [], []⟩ none 0 none 0), .bool false])
    rw [opV0]
    rfl
  have hRel0 : NlRel w t nn ws (.int .i64 0) w3 := ⟨0, [], Nat.zero_le _, rfl, rfl, by simp, HP3.out⟩
  have Hrel0 := Lib.hid hRel0
  have hNn : nn ≤ N := by omega
  have hNd : decide (N < nn) = false := decide_eq_false (by omega)
  clear hRel0 HP3 D1
  go_wp2_with fail
  go_loopw [9] (NlRel w t nn ws) (fun i _ => nn - (intOf i).toNat)
  case atStart => exact Hrel0.out
  case round =>
    clear Hrel0
    obtain ⟨j, l, hj, rfl, hlj, htake, hP⟩ := hrel
    have HTK := Lib.hid htake
    have HP := Lib.hid hP
    have HLJ := Lib.hid hlj
    clear htake hP hlj
    rcases Nat.lt_or_ge j nn with hlt | hge
    · have hjn : (j : Int) < (nn : Int) := by omega
      have hj3 : (j : Int) < 3 := by omega
      have hjN : (j : Int) < (N : Int) := by omega
      have hjw : j < ws.length := by rw [HLEN.out]; omega
      obtain ⟨x, hx⟩ : ∃ x, ws[j]? = some x := ⟨_, List.getElem?_eq_getElem hjw⟩
      have hcell := (HP.out.b.cell (p := ⟨b, o + j, none⟩) HH.out.lt).trans (HH.out.cell j x hx)
      have hxs := HM.out x (List.mem_of_getElem? hx)
      have D2 := Lib.hid (rsmall_any x wr (HE.out.below HP.out.b HE.out.lt).pow (by omega))
      have hbad : smallB x = none → R = none := fun h => by
        rw [HR.out]; exact opT_bad (rdN_wrong (i := j) (by rw [HNN.out]; exact hlt) hx h)
      have HBAD := Lib.hid hbad
      have hnx : ∀ v, smallB x = some v → (ws.take (j + 1)).map smallB = (l ++ [v]).map some := fun v h => by
        rw [List.take_add_one, hx, List.map_append, List.map_append, HTK.out]
        simp [h]
      have HNX := Lib.hid hnx
      generalize smallB x = Y at *
      clear hbad hnx hx hxs HTK
      go_wp2_with fail
      refine (D2.out).mono ?_
      rintro e w4 ⟨v, rfl, hv, b4⟩
      have HV := Lib.hid hv
      have P4 := HP.out.bel b4
      clear hv
      cases Y with
      | none =>
        have hRx := Lib.hid (HBAD.out rfl)
        go_wp2_with (first
          | refine wpList_load_row rfl 55 (.tmp 6) rfl (w.heap.size + 1) rfl 55 _ (0, 0) _ P4.x Tryd.underlying55 rfl (by kernel_rfl) ?_
          | refine wpList_store_row rfl 55 (.tmp 4) (.tmp 46) rfl w.heap.size (opV t 0 0 0 0 0 0 0 0 none 0 0 none 0 0) rfl rfl 55 _ P4.y (by kernel_rfl) (by kernel_rfl) (by kernel_rfl) ?_)
        have hbk : Bk (w4.setRow w.heap.size (opV t 0 0 0 0 0 0 0 0 none 0 0 none 0 0)) w.heap.size 55 (opV t 0 0 0 0 0 0 0 0 none 0 0 none 0 0) := setRow_heap _ _ _ _ _ _ P4.y
        refine bodyPost_ret (results_op rfl _ rfl hbk) rfl ⟨⟨⟨t, 0, 0, 0, 0, 0, [], []⟩, none, 0, none, 0⟩, ?_, fun d hd => (by rw [hRx.out] at hd; cases hd), below_setRow P4.b (Nat.le_refl _) _⟩
        rw [hRx.out]
        show _ = Ending.returned (.tuple #[.agg (opV' ⟨t, 0, 0, 0, 0, 0, [], []⟩ none 0 none 0), .bool false])
        rw [opV0]
        rfl
      | some y =>
        have hvy : v = y := HV.out y rfl
        subst hvy
        obtain ⟨z, hz⟩ : ∃ z, w4.cell? ⟨w.heap.size + 1 + 1, j, none⟩ = some (.int .i64 z) := by
          have : j = 0 ∨ j = 1 ∨ j = 2 := by omega
          rcases this with rfl | rfl | rfl <;> exact ⟨_, P4.m.cell rfl⟩
        have hf := P4.m.frozen j
        have hn3 : (n3 (l.getD 0 0) (l.getD 1 0) (l.getD 2 0)).setIfInBounds j (.int .i64 v) = n3 ((l ++ [v]).getD 0 0) ((l ++ [v]).getD 1 0) ((l ++ [v]).getD 2 0) := by
          have hlj := HLJ.out
          have hj012 : j = 0 ∨ j = 1 ∨ j = 2 := by omega
          rcases hj012 with rfl | rfl | rfl
          · obtain rfl := List.eq_nil_of_length_eq_zero hlj
            rfl
          · obtain ⟨a, rfl⟩ := List.length_eq_one_iff.1 hlj
            rfl
          · obtain ⟨a, c, rfl⟩ : ∃ a c, l = [a, c] := by
              match l, hlj with
              | [a, c], _ => exact ⟨a, c, rfl⟩
            rfl
        have P5 := P4.setm j (.int .i64 v)
        rw [hn3] at P5
        have HP5 := Lib.hid P5
        clear hn3 P5
        go_wp2_with fail
        exact ⟨⟨j + 1, l ++ [v], by omega, int_eq (by omega), by rw [List.length_append, HLJ.out]; rfl, HNX.out v rfl, HP5.out⟩, by simp [intOf]; omega⟩
    · obtain rfl : j = nn := by omega
      have hjn : ¬ (j : Int) < (j : Int) := by omega
      obtain ⟨l0, hl0⟩ : ∃ x, x = l.getD 0 0 := ⟨_, rfl⟩
      obtain ⟨l1, hl1⟩ : ∃ x, x = l.getD 1 0 := ⟨_, rfl⟩
      obtain ⟨l2, hl2⟩ : ∃ x, x = l.getD 2 0 := ⟨_, rfl⟩
      rw [← hl0, ← hl1, ← hl2] at HP
      have HL := Lib.hid (And.intro hl0 (And.intro hl1 hl2))
      clear hl0 hl1 hl2
      have P := HP.out
      have c0 : wr.cell? ⟨w.heap.size + 1 + 1, 0, none⟩ = some (.int .i64 l0) := P.m.cell rfl
      have c1 : wr.cell? ⟨w.heap.size + 1 + 1, 1, none⟩ = some (.int .i64 l1) := P.m.cell rfl
      have c2 : wr.cell? ⟨w.heap.size + 1 + 1, 2, none⟩ = some (.int .i64 l2) := P.m.cell rfl
      obtain ⟨x00, x01, x02, x03, x04, x05, x06, x07, x08, x09, x0a⟩ := opV_c P.x
      obtain ⟨f0, f1, f2, f3, f4, f5, f6, f7, f8, f9, f10⟩ := opV_f P.x
      have P5 : RoSt w (((wr.setCell ⟨w.heap.size + 1, 1, none⟩ (.int .i64 l0)).setCell ⟨w.heap.size + 1, 2, none⟩ (.int .i64 l1)).setCell ⟨w.heap.size + 1, 3, none⟩ (.int .i64 l2)) (opV t l0 l1 l2 0 0 0 0 0 none 0 0 none 0 0) (n3 l0 l1 l2) := ((P.setx 1 (.int .i64 l0)).setx 2 (.int .i64 l1)).setx 3 (.int .i64 l2)
      have HP5 := Lib.hid P5
      clear P5 P HP
      clear hNd
      have hNI : (j : Int) ≤ (N : Int) := by omega
      have hNc := HH.out.lim
      go_upto_region 16 with fail
      generalize ((wr.setCell ⟨w.heap.size + 1, 1, none⟩ (.int .i64 l0)).setCell ⟨w.heap.size + 1, 2, none⟩ (.int .i64 l1)).setCell ⟨w.heap.size + 1, 3, none⟩ (.int .i64 l2) = W5 at *
      clear c0 c1 c2 x00 x01 x02 x03 x04 x05 x06 x07 x08 x09 x0a f0 f1 f2 f3 f4 f5 f6 f7 f8 f9 f10
      have hsl : ∃ o' : Nat, (∀ W : World, (Instr.slice 43 (.slice (some ⟨b, o, none⟩) N c) (some (.int .i64 (j : Int))) none none).run Tryd.prog W = .ok (.slice (some ⟨b, o', none⟩) (N - j) (c - j)) W) ∧ (j < c → o' = o + j) := slice_low b o N c j hNn hNc
      obtain ⟨o', hsl, ho'⟩ := hsl
      go_upto_region 17 with fail
      have HU := Lib.hid ((HH.out.drop hNn ho').belB HP5.out.b)
      have HUw := Lib.hid (HH.out.drop hNn ho')
      have HUM := Lib.hid (fun x (hx : x ∈ ws.drop j) => HM.out x (List.mem_of_mem_drop hx))
      have hopT : ∀ {f : Nat → List Int → List ByteArray → Prop}, f (namesN t) l ws → f j l ws := fun h => by rw [HNN.out] at h; exact h
      have hnw : namesN t ≤ ws.length := by rw [HNN.out, HLEN.out]; exact hNn
      have htk : (ws.take (namesN t)).map smallB = l.map some := by rw [HNN.out]; exact HTK.out
      have hR3 : t = 3 → R = oneF t l (ws.drop j) := fun h => by rw [HR.out, opT3 h hnw htk, HNN.out]
      have hR10 : t = 10 → R = oneS t l (ws.drop j) := fun h => by rw [HR.out, opT10 h hnw htk, HNN.out]
      have hR0 : ¬ t = 3 → ¬ t = 10 → ¬ t = 6 → R = if ws.length = j then some (op0 t l) else none := fun h1 h2 h3 => by rw [HR.out, opT0 HT.out h1 h2 h3 hnw htk, HNN.out]
      have hR6 : t = 6 → j = 0 ∧ l = [] := fun h => by
        have : namesN t = 0 := by subst h; rfl
        rw [HNN.out] at this
        exact ⟨this, List.eq_nil_of_length_eq_zero (by rw [HLJ.out, this])⟩
      have HR3 := Lib.hid hR3
      have HR10 := Lib.hid hR10
      have HR0 := Lib.hid hR0
      have HR6 := Lib.hid hR6
      obtain ⟨M, hM⟩ : ∃ x, N - j = x := ⟨_, rfl⟩
      obtain ⟨cc, hcc⟩ : ∃ x, c - j = x := ⟨_, rfl⟩
      obtain ⟨us, hus⟩ : ∃ x, ws.drop j = x := ⟨_, rfl⟩
      rw [hM, hcc, hus] at HU HUw
      rw [hus] at HUM HR3 HR10
      rw [hM, hcc]
      have HUS := Lib.hid hus
      have HMM := Lib.hid hM
      clear hopT hR3 hR10 hR0 hR6 hnw htk hM hcc hus hsl ho' hNc
      have hP5 := HP5.out
      have e0 : op0 t l = ⟨t, l0, l1, l2, 0, 0, [], []⟩ := by unfold op0; rw [HL.out.1, HL.out.2.1, HL.out.2.2]
      have HE0 := Lib.hid e0
      clear e0
      by_cases h3 : t = 3
      · have q6 : (t == 6) = false := beq_eq_false_iff_ne.2 (by omega)
        have q3 : (t == 3) = true := by simp [h3]
        have HRx := Lib.hid (HR3.out h3)
        clear h3
        by_cases hM1 : M = 1
        · have hq1 : ((M : Int) != 1) = false := by simp [hM1]
          have hM0 : (0 : Int) < (M : Int) := by omega
          have hul := HU.out.len
          rw [hM1] at hul
          obtain ⟨s, rfl⟩ := List.length_eq_one_iff.1 hul
          have hc0 : W5.cell? ⟨b, o', none⟩ = some (.string s) := HU.out.cell 0 s rfl
          have hss := HUM.out s (List.mem_singleton.2 rfl)
          have D2 := Lib.hid (rfield_any s W5 (by omega))
          have HSS := Lib.hid hss
          have HBL := Lib.hid HU.out.lt
          clear hul hss hM1
          go_wp2_with fail
          refine (D2.out).mono ?_
          rintro e w6 ⟨x, rfl, hx4, hxv, b6⟩
          have HXV := Lib.hid hxv
          have HX4 := Lib.hid hx4
          have P6 := hP5.bel b6
          have c6 := (b6.cell (p := ⟨b, o', none⟩) HBL.out).trans hc0
          have ba := (Below.refl w6.heap.size w6).alloc (Nat.le_refl _) (.cells (lim .u64 (fl x)) 24)
          have P7 := P6.bel ba
          have c7 := (ba.cell (p := ⟨b, o', none⟩) (Nat.lt_of_lt_of_le HBL.out b6.size)).trans c6
          have ox := Own.new w6 24 .u64 (fl x)
          clear hxv hx4 b6 P6 c6 ba D2 hc0
          go_upto_region 32 with (first
            | refine wpList_store_new rfl 24 (.tmp 17) (.tmp 131) rfl .u64 (fl x) rfl rfl 24 _ (by kernel_rfl) rfl ?_)
          generalize w6.alloc (.cells (lim .u64 (fl x)) 24) = W7 at *
          have D3 := Lib.hid (rsmall_any s W7 (HE.out.below P7.b HE.out.lt).pow (by have := HSS.out; omega))
          have hnn : ∀ v, numB s = some v → x = v := HXV.out
          have hRx : R = (numB s).map fun k => ⟨t, l0, l1, l2, 0, k, [], []⟩ := by rw [HRx.out, HL.out.1, HL.out.2.1, HL.out.2.2]; rfl
          have HRX := Lib.hid hRx
          generalize numB s = Y at *
          have HX := Lib.hid hnn
          clear hRx hnn HXV HRx
          go_wp2_with fail
          refine (D3.out).mono ?_
          rintro e w8 ⟨v, rfl, _, b8⟩
          have P8 := P7.bel b8
          have ox8 := ox.bel b8
          obtain ⟨a0, a1, a2, a3, hfl⟩ := fl4 x
          have HFL := Lib.hid hfl
          rw [hfl] at ox8
          have ox9 : Bk w8 w6.heap.size 24 #[.int .u64 (a0 : Nat), .int .u64 (a1 : Nat), .int .u64 (a2 : Nat), .int .u64 (a3 : Nat)] := ox8
          obtain ⟨x00, x01, x02, x03, x04, x05, x06, x07, x08, x09, x0a⟩ := opV_c P8.x
          obtain ⟨f0, f1, f2, f3, f4, f5, f6, f7, f8, f9, f10⟩ := opV_f P8.x
          have P9 : RoSt w ((((w8.setCell ⟨w.heap.size + 1, 5, none⟩ (.int .u64 (a0 : Nat))).setCell ⟨w.heap.size + 1, 6, none⟩ (.int .u64 (a1 : Nat))).setCell ⟨w.heap.size + 1, 7, none⟩ (.int .u64 (a2 : Nat))).setCell ⟨w.heap.size + 1, 8, none⟩ (.int .u64 (a3 : Nat))) (opV t l0 l1 l2 0 a0 a1 a2 a3 none 0 0 none 0 0) (n3 l0 l1 l2) := (((P8.setx 5 (.int .u64 (a0 : Nat))).setx 6 (.int .u64 (a1 : Nat))).setx 7 (.int .u64 (a2 : Nat))).setx 8 (.int .u64 (a3 : Nat))
          have HP9 := Lib.hid P9
          clear hfl P9 P8 P7 c7 b8 D3 ox ox8
          go_upto_region 34 with fail
          go_upto_region 35 with (first
            | refine wpList_load_row rfl 24 (.tmp 17) rfl w6.heap.size rfl 24 _ (0, 0) _ ox9 Tryd.underlying24 rfl (by kernel_rfl) ?_)
          generalize (((w8.setCell ⟨w.heap.size + 1, 5, none⟩ (.int .u64 (a0 : Nat))).setCell ⟨w.heap.size + 1, 6, none⟩ (.int .u64 (a1 : Nat))).setCell ⟨w.heap.size + 1, 7, none⟩ (.int .u64 (a2 : Nat))).setCell ⟨w.heap.size + 1, 8, none⟩ (.int .u64 (a3 : Nat)) = W9 at *
          have P9 := HP9.out
          go_wp2_with (first
            | refine wpList_load_row rfl 55 (.tmp 6) rfl (w.heap.size + 1) rfl 55 _ (0, 0) _ P9.x Tryd.underlying55 rfl (by kernel_rfl) ?_
            | refine wpList_store_row rfl 55 (.tmp 4) (.tmp 144) rfl w.heap.size (opV t l0 l1 l2 0 a0 a1 a2 a3 none 0 0 none 0 0) rfl rfl 55 _ P9.y (by kernel_rfl) (by kernel_rfl) (by kernel_rfl) ?_)
          have hbk : Bk (W9.setRow w.heap.size (opV t l0 l1 l2 0 a0 a1 a2 a3 none 0 0 none 0 0)) w.heap.size 55 (opV t l0 l1 l2 0 a0 a1 a2 a3 none 0 0 none 0 0) := setRow_heap _ _ _ _ _ _ P9.y
          refine bodyPost_ret (results_op rfl _ rfl hbk) rfl ?_
          have hrx := HRX.out
          cases Y with
          | none => exact ro_no hrx (opEk t l0 l1 l2 0 HFL.out) (below_setRow P9.b (Nat.le_refl _) _)
          | some y =>
            have hxy : x = y := HX.out y rfl
            exact ro_yes (hrx.trans (by rw [hxy]; rfl)) (opEk t l0 l1 l2 0 HFL.out) (fun _ _ _ => opIn0 _ t l0 l1 l2 0 HX4.out) (below_setRow P9.b (Nat.le_refl _) _)
        · have hq1 : ((M : Int) != 1) = true := bne_iff_ne.2 (by omega)
          have hRx : R = none := by
            rw [HRx.out]
            have hul := HU.out.len
            match us, hul with
            | [], _ => rfl
            | [s], h => exact absurd h.symm hM1
            | s :: s2 :: r, _ => rfl
          have HRX := Lib.hid hRx
          clear hRx HRx hM1
          go_wp2_with (first
            | refine wpList_load_row rfl 55 (.tmp 6) rfl (w.heap.size + 1) rfl 55 _ (0, 0) _ hP5.x Tryd.underlying55 rfl (by kernel_rfl) ?_
            | refine wpList_store_row rfl 55 (.tmp 4) (.tmp 125) rfl w.heap.size (opV t l0 l1 l2 0 0 0 0 0 none 0 0 none 0 0) rfl rfl 55 _ hP5.y (by kernel_rfl) (by kernel_rfl) (by kernel_rfl) ?_)
          have hbk : Bk (W5.setRow w.heap.size (opV t l0 l1 l2 0 0 0 0 0 none 0 0 none 0 0)) w.heap.size 55 (opV t l0 l1 l2 0 0 0 0 0 none 0 0 none 0 0) := setRow_heap _ _ _ _ _ _ hP5.y
          refine bodyPost_ret (results_op rfl _ rfl hbk) rfl ?_
          exact ro_no HRX.out (opEz t l0 l1 l2 0) (below_setRow hP5.b (Nat.le_refl _) _)
      · by_cases h10 : t = 10
        · have q6 : (t == 6) = false := beq_eq_false_iff_ne.2 (by omega)
          have q3 : (t == 3) = false := beq_eq_false_iff_ne.2 h3
          have q10 : (t == 10) = true := by simp [h10]
          have HRx := Lib.hid (HR10.out h10)
          clear h3 h10
          by_cases hM1 : M = 1
          · have hq1 : ((M : Int) != 1) = false := by simp [hM1]
            have hM0 : (0 : Int) < (M : Int) := by omega
            have hul := HU.out.len
            rw [hM1] at hul
            obtain ⟨s, rfl⟩ := List.length_eq_one_iff.1 hul
            have hc0 : W5.cell? ⟨b, o', none⟩ = some (.string s) := HU.out.cell 0 s rfl
            have hss := HUM.out s (List.mem_singleton.2 rfl)
            have D2 := Lib.hid (rfield_any s W5 (by omega))
            have HSS := Lib.hid hss
            have HBL := Lib.hid HU.out.lt
            clear hul hss hM1
            go_wp2_with fail
            refine (D2.out).mono ?_
            rintro e w6 ⟨x, rfl, _, _, b6⟩
            have P6 := hP5.bel b6
            have c6 := (b6.cell (p := ⟨b, o', none⟩) HBL.out).trans hc0
            have ba := (Below.refl w6.heap.size w6).alloc (Nat.le_refl _) (.cells (lim .u64 (fl x)) 24)
            have P7 := P6.bel ba
            have c7 := (ba.cell (p := ⟨b, o', none⟩) (Nat.lt_of_lt_of_le HBL.out b6.size)).trans c6
            clear b6 P6 c6 ba D2 hc0
            go_upto_region 32 with (first
              | refine wpList_store_new rfl 24 (.tmp 17) (.tmp 131) rfl .u64 (fl x) rfl rfl 24 _ (by kernel_rfl) rfl ?_)
            generalize w6.alloc (.cells (lim .u64 (fl x)) 24) = W7 at *
            have D3 := Lib.hid (rsmall_any s W7 (HE.out.below P7.b HE.out.lt).pow (by have := HSS.out; omega))
            have hRx : R = (smallB s).map fun n => ⟨t, l0, l1, l2, n, 0, [], []⟩ := by rw [HRx.out, HL.out.1, HL.out.2.1, HL.out.2.2]; rfl
            have HRX := Lib.hid hRx
            generalize smallB s = Y at *
            clear hRx HRx
            go_wp2_with fail
            refine (D3.out).mono ?_
            rintro e w8 ⟨v, rfl, hv, b8⟩
            have HV := Lib.hid hv
            have P8 := P7.bel b8
            obtain ⟨x00, x01, x02, x03, x04, x05, x06, x07, x08, x09, x0a⟩ := opV_c P8.x
            obtain ⟨f0, f1, f2, f3, f4, f5, f6, f7, f8, f9, f10⟩ := opV_f P8.x
            have P9 : RoSt w (w8.setCell ⟨w.heap.size + 1, 4, none⟩ (.int .i64 v)) (opV t l0 l1 l2 v 0 0 0 0 none 0 0 none 0 0) (n3 l0 l1 l2) := P8.setx 4 (.int .i64 v)
            have HP9 := Lib.hid P9
            clear P9 P8 P7 c7 b8 D3 hv
            go_upto_region 36 with fail
            go_upto_region 37 with fail
            generalize w8.setCell ⟨w.heap.size + 1, 4, none⟩ (.int .i64 v) = W9 at *
            have P9 := HP9.out
            go_wp2_with (first
              | refine wpList_load_row rfl 55 (.tmp 6) rfl (w.heap.size + 1) rfl 55 _ (0, 0) _ P9.x Tryd.underlying55 rfl (by kernel_rfl) ?_
              | refine wpList_store_row rfl 55 (.tmp 4) (.tmp 148) rfl w.heap.size (opV t l0 l1 l2 v 0 0 0 0 none 0 0 none 0 0) rfl rfl 55 _ P9.y (by kernel_rfl) (by kernel_rfl) (by kernel_rfl) ?_)
            have hbk : Bk (W9.setRow w.heap.size (opV t l0 l1 l2 v 0 0 0 0 none 0 0 none 0 0)) w.heap.size 55 (opV t l0 l1 l2 v 0 0 0 0 none 0 0 none 0 0) := setRow_heap _ _ _ _ _ _ P9.y
            refine bodyPost_ret (results_op rfl _ rfl hbk) rfl ?_
            have hrx := HRX.out
            cases Y with
            | none => exact ro_no hrx (opEz t l0 l1 l2 v) (below_setRow P9.b (Nat.le_refl _) _)
            | some y =>
              have hxy : v = y := HV.out y rfl
              exact ro_yes (hrx.trans (by rw [hxy]; rfl)) (opEz t l0 l1 l2 v) (fun _ _ _ => opIn0 _ t l0 l1 l2 v (by decide)) (below_setRow P9.b (Nat.le_refl _) _)
          · have hq1 : ((M : Int) != 1) = true := bne_iff_ne.2 (by omega)
            have hRx : R = none := by
              rw [HRx.out]
              have hul := HU.out.len
              match us, hul with
              | [], _ => rfl
              | [s], h => exact absurd h.symm hM1
              | s :: s2 :: r, _ => rfl
            have HRX := Lib.hid hRx
            clear hRx HRx hM1
            go_wp2_with (first
              | refine wpList_load_row rfl 55 (.tmp 6) rfl (w.heap.size + 1) rfl 55 _ (0, 0) _ hP5.x Tryd.underlying55 rfl (by kernel_rfl) ?_
              | refine wpList_store_row rfl 55 (.tmp 4) (.tmp 125) rfl w.heap.size (opV t l0 l1 l2 0 0 0 0 0 none 0 0 none 0 0) rfl rfl 55 _ hP5.y (by kernel_rfl) (by kernel_rfl) (by kernel_rfl) ?_)
            have hbk : Bk (W5.setRow w.heap.size (opV t l0 l1 l2 0 0 0 0 0 none 0 0 none 0 0)) w.heap.size 55 (opV t l0 l1 l2 0 0 0 0 0 none 0 0 none 0 0) := setRow_heap _ _ _ _ _ _ hP5.y
            refine bodyPost_ret (results_op rfl _ rfl hbk) rfl ?_
            exact ro_no HRX.out (opEz t l0 l1 l2 0) (below_setRow hP5.b (Nat.le_refl _) _)
        · by_cases h6 : t = 6
          · have q6 : (t == 6) = true := by simp [h6]
            obtain ⟨rfl, rfl⟩ := HR6.out h6
            obtain ⟨z0, z1, z2⟩ := HL.out
            have hR := HR.out
            rw [opT6 h6] at hR
            have huw : us = ws := HUS.out.symm
            rw [← huw] at hR
            have hul := HU.out.len
            rw [hul] at hR
            have HRX := Lib.hid hR
            obtain rfl : l0 = 0 := z0
            obtain rfl : l1 = 0 := z1
            obtain rfl : l2 = 0 := z2
            have hM60 : M ≤ 60000000 := by have := HMM.out; omega
            have hrel0 : PqRel w t M us (.int .i64 0) W5 := ⟨[], [], none, 0, none, 0, rfl, hP5, World.ownsRow_nil _ _ _ _, World.ownsRow_nil _ _ _ _, fun x hx => (by cases hx), rfl, Nat.zero_le _, by simp⟩
            have Hrel0 := Lib.hid hrel0
            have HUL := Lib.hid hul
            have H6 := Lib.hid h6
            clear h3 h10 h6 hR huw hul hrel0 hP5
            go_wp2_with fail
            go_loopw [12] (PqRel w t M us) (fun i _ => M + 1 - (intOf i).toNat)
            case atStart => exact Hrel0.out
            case round =>
              clear Hrel0
              obtain ⟨ks, vs, KA, kc, VA, vc, rfl, hP, hkr, hvr, hk4, hvl, hlen, hrp⟩ := hrel
              have HP := Lib.hid hP
              have HKR := Lib.hid hkr
              have HVR := Lib.hid hvr
              have HK4 := Lib.hid hk4
              have HVL := Lib.hid hvl
              have HLEN2 := Lib.hid hlen
              have HRP := Lib.hid hrp
              clear hP hkr hvr hk4 hvl hlen hrp
              obtain ⟨k2, hk2⟩ : ∃ x, 2 * ks.length = x := ⟨_, rfl⟩
              rw [hk2] at HRP HLEN2
              rw [hk2]
              have HK2 := Lib.hid hk2
              clear hk2
              rcases Nat.lt_or_ge (k2 + 1) M with hlt | hge
              · have hltI : (k2 : Int) + 1 < (M : Int) := by omega
                have hk2I : (k2 : Int) < (M : Int) := by omega
                obtain ⟨s1, hs1⟩ : ∃ x, us[k2]? = some x := ⟨_, List.getElem?_eq_getElem (by rw [HUL.out]; omega)⟩
                obtain ⟨s2, hs2⟩ : ∃ x, us[k2 + 1]? = some x := ⟨_, List.getElem?_eq_getElem (by rw [HUL.out]; exact hlt)⟩
                have hbl := HH.out.lt
                have hc1 := (HP.out.b.cell (p := ⟨b, o' + k2, none⟩) hbl).trans (HUw.out.cell k2 s1 hs1)
                have hdrop : us.drop k2 = s1 :: s2 :: us.drop (k2 + 2) := by
                  have h1 : k2 < us.length := by rw [HUL.out]; omega
                  have h2 : k2 + 1 < us.length := by rw [HUL.out]; exact hlt
                  rw [List.drop_eq_getElem_cons h1, List.drop_eq_getElem_cons h2]
                  rw [List.getElem?_eq_getElem h1] at hs1
                  rw [List.getElem?_eq_getElem h2] at hs2
                  rw [Option.some.inj hs1, Option.some.inj hs2]
                have hss1 := HUM.out s1 (List.mem_of_getElem? hs1)
                have hss2 := HUM.out s2 (List.mem_of_getElem? hs2)
                have D2 := Lib.hid (rfield_any s1 wr (by omega))
                have hc2w := HUw.out.cell (k2 + 1) s2 hs2
                have HC2 := Lib.hid hc2w
                have hrp := HRP.out
                rw [hdrop] at hrp
                have HRP2 := Lib.hid hrp
                have hdl : (us.drop (k2 + 2)).length + 2 ≤ M := by rw [List.length_drop, HUL.out]; omega
                have HDL := Lib.hid hdl
                have hno : numB s1 = none ∨ smallB s2 = none → R = none := fun h => by
                  rw [HRX.out]
                  refine linT_bad ?_
                  rw [hrp]
                  exact rdP_no hdl h
                have HNO := Lib.hid hno
                have hyes : ∀ k v, numB s1 = some k → smallB s2 = some v → rdP M (false, us) = (ks ++ [k] ++ (rdP M (false, us.drop (k2 + 2))).1, vs ++ [v] ++ (rdP M (false, us.drop (k2 + 2))).2.1, (rdP M (false, us.drop (k2 + 2))).2.2) := fun k v h1 h2 => by
                  rw [hrp, rdP_yes hdl h1 h2]; simp
                have HYES := Lib.hid hyes
                clear hs1 hs2 hdrop hc2w hrp hdl hno hyes hbl
                go_wp2_with fail
                refine (D2.out).mono ?_
                rintro e w6 ⟨x, rfl, hx4, hxv, b6⟩
                have HXV := Lib.hid hxv
                have HX4 := Lib.hid hx4
                have P6 := HP.out.bel b6
                have ba := (Below.refl w6.heap.size w6).alloc (Nat.le_refl _) (.cells (lim .u64 (fl x)) 24)
                have P7 := P6.bel ba
                have c7 := (P7.b.cell (p := ⟨b, o' + (k2 + 1), none⟩) HH.out.lt).trans HC2.out
                have e7 : (⟨b, o' + (k2 + 1), none⟩ : Addr) = ⟨b, o' + k2 + 1, none⟩ := by rw [Nat.add_assoc]
                have c7' := c7
                rw [e7] at c7'
                have ox := Own.new w6 24 .u64 (fl x)
                have R7 := ownsRow_bel (ownsRow_bel HKR.out b6) ba
                have S7 := ownsRow_bel (ownsRow_bel HVR.out b6) ba
                clear hxv hx4 b6 P6 ba D2 e7 hc1
                go_upto_region 22 with (first
                  | refine wpList_store_new rfl 24 (.tmp 13) (.tmp 77) rfl .u64 (fl x) rfl rfl 24 _ (by kernel_rfl) rfl ?_)
                generalize w6.alloc (.cells (lim .u64 (fl x)) 24) = W7 at *
                have D3 := Lib.hid (rsmall_any s2 W7 (HE.out.below P7.b HE.out.lt).pow (by omega))
                generalize numB s1 = Y1 at *
                generalize smallB s2 = Y2 at *
                go_wp2_with fail
                refine (D3.out).mono ?_
                rintro e w8 ⟨v, rfl, hv, b8⟩
                have HV := Lib.hid hv
                have P8 := P7.bel b8
                have R8 := ownsRow_bel R7 b8
                have S8 := ownsRow_bel S7 b8
                have ox8 := ox.bel b8
                have HP8 := Lib.hid P8
                have HR8 := Lib.hid R8
                have HS8 := Lib.hid S8
                have HOX := Lib.hid ox8
                clear P7 R7 S7 c7 c7' b8 D3 hv ox P8 R8 S8 ox8
                cases Y1 with
                | none =>
                  have hRx := Lib.hid (HNO.out (.inl rfl))
                  have P8 := HP8.out
                  go_wp2_with (first
                    | refine wpList_load_row rfl 55 (.tmp 6) rfl (w.heap.size + 1) rfl 55 _ (0, 0) _ P8.x Tryd.underlying55 rfl (by kernel_rfl) ?_
                    | refine wpList_store_row rfl 55 (.tmp 4) (.tmp 94) rfl w.heap.size (opV t 0 0 0 0 0 0 0 0 KA ks.length kc VA vs.length vc) rfl rfl 55 _ P8.y (by kernel_rfl) (by kernel_rfl) (by kernel_rfl) ?_)
                  have hbk : Bk (w8.setRow w.heap.size (opV t 0 0 0 0 0 0 0 0 KA ks.length kc VA vs.length vc)) w.heap.size 55 (opV t 0 0 0 0 0 0 0 0 KA ks.length kc VA vs.length vc) := setRow_heap _ _ _ _ _ _ P8.y
                  refine bodyPost_ret (results_op rfl _ rfl hbk) rfl ?_
                  exact ro_no hRx.out (opE0 t 0 0 0 0 ks vs KA kc VA vc) (below_setRow P8.b (Nat.le_refl _) _)
                | some y1 =>
                  cases Y2 with
                  | none =>
                    have hRx := Lib.hid (HNO.out (.inr rfl))
                    have P8 := HP8.out
                    go_wp2_with (first
                      | refine wpList_load_row rfl 55 (.tmp 6) rfl (w.heap.size + 1) rfl 55 _ (0, 0) _ P8.x Tryd.underlying55 rfl (by kernel_rfl) ?_
                      | refine wpList_store_row rfl 55 (.tmp 4) (.tmp 94) rfl w.heap.size (opV t 0 0 0 0 0 0 0 0 KA ks.length kc VA vs.length vc) rfl rfl 55 _ P8.y (by kernel_rfl) (by kernel_rfl) (by kernel_rfl) ?_)
                    have hbk : Bk (w8.setRow w.heap.size (opV t 0 0 0 0 0 0 0 0 KA ks.length kc VA vs.length vc)) w.heap.size 55 (opV t 0 0 0 0 0 0 0 0 KA ks.length kc VA vs.length vc) := setRow_heap _ _ _ _ _ _ P8.y
                    refine bodyPost_ret (results_op rfl _ rfl hbk) rfl ?_
                    exact ro_no hRx.out (opE0 t 0 0 0 0 ks vs KA kc VA vc) (below_setRow P8.b (Nat.le_refl _) _)
                  | some y2 =>
                    have hxy : x = y1 := HXV.out y1 rfl
                    subst hxy
                    have hvy : v = y2 := HV.out y2 rfl
                    subst hvy
                    have hyes := HYES.out x v rfl rfl
                    obtain ⟨a0, a1, a2, a3, hfl⟩ := fl4 x
                    have hfc : frC x = [.int .u64 (a0 : Nat), .int .u64 (a1 : Nat), .int .u64 (a2 : Nat), .int .u64 (a3 : Nat)] := by unfold frC; rw [hfl]; rfl
                    have ox8 : Bk w8 w6.heap.size 24 #[.int .u64 (a0 : Nat), .int .u64 (a1 : Nat), .int .u64 (a2 : Nat), .int .u64 (a3 : Nat)] := by
                      have := HOX.out
                      rw [hfl] at this
                      exact this
                    have HFC := Lib.hid hfc
                    have HYE := Lib.hid hyes
                    have HX5 : Hid (x < pw 4) := HX4
                    have P8 := HP8.out
                    have R8 := HR8.out
                    have S8 := HS8.out
                    have hvb : ∀ g, (Value.slice KA ks.length kc).ownBlock = some g → w.heap.size + 1 + 1 + 1 ≤ g ∧ g < w8.heap.size := fun g hg => R8.lt g hg
                    have HVB := Lib.hid hvb
                    have hfr := frCs_snoc ks x
                    have hfx : (#[.int .u64 (a0 : Nat), .int .u64 (a1 : Nat), .int .u64 (a2 : Nat), .int .u64 (a3 : Nat)] : Array Value).size = 4 := rfl
                    have hfo : ∀ u ∈ (#[.int .u64 (a0 : Nat), .int .u64 (a1 : Nat), .int .u64 (a2 : Nat), .int .u64 (a3 : Nat)] : Array Value).toList, u.oneCell' = true := by simp [Value.oneCell']
                    have hxl : ks.length < 100000000 := by have := HLEN2.out; have := HK2.out; omega
                    have y9 : w8.cell? ⟨w.heap.size + 1, 9, none⟩ = some (.slice KA ks.length kc) := (opV_c P8.x).2.2.2.2.2.2.2.2.2.1
                    have HFR := Lib.hid hfr
                    clear hfl hfc hyes hvb hfr HNO HYES HXV HV HOX
                    go_upto_region 25 with fail
                    go_upto_region 26 with (first
                      | refine wpList_load_row rfl 24 (.tmp 13) rfl w6.heap.size rfl 24 _ (0, 0) _ ox8 Tryd.underlying24 rfl (by kernel_rfl) ?_
                      | (refine wpList_app_row rfl (.tmp 96) (.tmp 98) 25 24 rfl #[.int .u64 (a0 : Nat), .int .u64 (a1 : Nat), .int .u64 (a2 : Nat), .int .u64 (a3 : Nat)] (by kernel_rfl) fr_info rfl (by decide) hfx hfo hxl (by decide) rfl rfl R8 (by have := P8.m.lt; omega) ?_
                         intro g' cap' w9 hA
                         have P9 := P8.app hA (fun j e => by have := (HVB.out j e).1; omega)
                         have y10 : w9.cell? ⟨w.heap.size + 1, 9, none⟩ = some (.slice KA ks.length kc) := (opV_c P9.x).2.2.2.2.2.2.2.2.2.1
                         have f10 := P9.x.frozen 9))
                    have P10 : RoSt w (w9.setCell ⟨w.heap.size + 1, 9, none⟩ (.slice (some ⟨g', 0, none⟩) (ks.length + 1) cap')) (opV t 0 0 0 0 0 0 0 0 (some ⟨g', 0, none⟩) (ks.length + 1) cap' VA vs.length vc) (n3 0 0 0) := P9.setx 9 (.slice (some ⟨g', 0, none⟩) (ks.length + 1) cap')
                    have R10 := ownsRow_set (i := 9) hA.row (by omega : w.heap.size + 1 < w.heap.size + 1 + 1 + 1) (.slice (some ⟨g', 0, none⟩) (ks.length + 1) cap')
                    have S10 := ownsRow_set (i := 9) (ownsRow_app hA S8 (fun g hg => row_apart R8 S8 (by decide) hg)) (by omega : w.heap.size + 1 < w.heap.size + 1 + 1 + 1) (.slice (some ⟨g', 0, none⟩) (ks.length + 1) cap')
                    generalize w9.setCell ⟨w.heap.size + 1, 9, none⟩ (.slice (some ⟨g', 0, none⟩) (ks.length + 1) cap') = w10 at *
                    clear P9 y10 f10 y9 R8 S8 P8 hA hfx hfo ox8 HP8 HR8 HS8 HVB
                    have hvb2 : ∀ g, (Value.slice VA vs.length vc).ownBlock = some g → w.heap.size + 1 + 1 + 1 ≤ g ∧ g < w10.heap.size := fun g hg => S10.lt g hg
                    have HVB2 := Lib.hid hvb2
                    have hix : (#[.int .i64 v] : Array Value).size = 1 := rfl
                    have hio : ∀ u ∈ (#[.int .i64 v] : Array Value).toList, u.oneCell' = true := by simp [Value.oneCell']
                    have hvl8 : vs.length < 100000000 := by have := HVL.out; omega
                    have hvs := intsV_snoc vs v
                    have HVS := Lib.hid hvs
                    have y11 : w10.cell? ⟨w.heap.size + 1, 10, none⟩ = some (.slice VA vs.length vc) := (opV_c P10.x).2.2.2.2.2.2.2.2.2.2
                    clear hvb2 hvs
                    go_wp2_with (refine wpList_app_row rfl (.tmp 102) (.tmp 104) 53 3 rfl #[.int .i64 v] (by kernel_rfl) int_info rfl (by decide) hix hio hvl8 (by decide) rfl rfl S10 (by have := P10.m.lt; omega) ?_
                                 intro g2 cap2 w11 hB
                                 have P11 := P10.app hB (fun j e => by have := (HVB2.out j e).1; omega)
                                 have y12 : w11.cell? ⟨w.heap.size + 1, 10, none⟩ = some (.slice VA vs.length vc) := (opV_c P11.x).2.2.2.2.2.2.2.2.2.2
                                 have f12 := P11.x.frozen 10)
                    have P12 := P11.setx 10 (.slice (some ⟨g2, 0, none⟩) (vs.length + 1) cap2)
                    have hk2 : 2 * (ks ++ [x]).length = k2 + 2 := by have := HK2.out; rw [List.length_append, List.length_singleton]; omega
                    refine ⟨⟨ks ++ [x], vs ++ [v], some ⟨g', 0, none⟩, cap', some ⟨g2, 0, none⟩, cap2, ?_, ?_, ?_, ?_, fun y hy => ?_, ?_, ?_, ?_⟩, by simp [intOf]; omega⟩
                    · rw [hk2]; exact int_eq (by omega)
                    · rw [List.length_append, List.length_append]
                      exact P12
                    · rw [HFR.out, HFC.out, List.length_append]
                      exact ownsRow_set (ownsRow_app hB R10 (fun g hg => row_apart S10 R10 (by decide) hg)) (by omega) _
                    · rw [HVS.out, List.length_append]
                      exact ownsRow_set (i := 10) hB.row (by omega) _
                    · rcases List.mem_append.1 hy with h | h
                      · exact HK4.out y h
                      · rw [List.mem_singleton.1 h]; exact HX5.out
                    · rw [List.length_append, List.length_append, HVL.out]; rfl
                    · rw [hk2]; omega
                    · rw [hk2]; exact HYE.out
              · have hltI : ¬ (k2 : Int) + 1 < (M : Int) := by omega
                have hk60 : (k2 : Int) ≤ 60000000 := by have := HLEN2.out; omega
                have P8 := HP.out
                have hkl := HLEN2.out
                rcases Nat.lt_or_ge k2 M with hk | hk
                · have hmod : (M : Int).tmod 2 = 1 := by rw [Int.tmod_eq_emod_of_nonneg (by omega)]; have := HK2.out; omega
                  have hmod2 : (M : Int) % 2 = 1 := by have := HK2.out; omega
                  have hRx : R = none := by
                    rw [HRX.out]
                    refine linT_bad ?_
                    have h1 : k2 < us.length := by rw [HUL.out]; exact hk
                    have hd : us.drop k2 = [us[k2]] := by
                      rw [List.drop_eq_getElem_cons h1, List.drop_eq_nil_of_le (by rw [HUL.out]; omega)]
                    rw [HRP.out, hd]
                    exact rdP_odd (by omega)
                  have HRN := Lib.hid hRx
                  have hE := opE0 t 0 0 0 0 ks vs KA kc VA vc
                  obtain ⟨n0, hn0⟩ : ∃ x : Int, x = 0 := ⟨_, rfl⟩
                  obtain ⟨k0, hk0⟩ : ∃ x : Nat, x = 0 := ⟨_, rfl⟩
                  have hv0 : opV t 0 0 0 0 0 0 0 0 KA ks.length kc VA vs.length vc = opV t n0 n0 n0 n0 k0 k0 k0 k0 KA ks.length kc VA vs.length vc := by rw [hn0, hk0]
                  rw [hv0] at P8 hE
                  have Pd := P8.bel (Below.refl wr.heap.size wr).drew
                  have HEV := Lib.hid hE
                  obtain ⟨x00, x01, x02, x03, x04, x05, x06, x07, x08, x09, x0a⟩ := opV_c P8.x
                  obtain ⟨d00, d01, d02, d03, d04, d05, d06, d07, d08, d09, d0a⟩ := opV_c Pd.x
                  obtain ⟨f0, f1, f2, f3, f4, f5, f6, f7, f8, f9, f10⟩ := opV_f P8.y
                  obtain ⟨g0, g1, g2, g3, g4, g5, g6, g7, g8, g9, g10⟩ := opV_f Pd.y
                  obtain ⟨v0, v1, v2, v3, v4, v5, v6, v7, v8, v9, v10⟩ := opV_c P8.y
                  have hch := op_chain P8.y t n0 n0 n0 n0 k0 k0 k0 k0 KA ks.length kc VA vs.length vc
                  obtain ⟨C, hC⟩ : ∃ C, C = (((((((((((wr.setCell ⟨w.heap.size, 0, none⟩ (.int .i64 t)).setCell ⟨w.heap.size, 1, none⟩ (.int .i64 n0)).setCell ⟨w.heap.size, 2, none⟩ (.int .i64 n0)).setCell ⟨w.heap.size, 3, none⟩ (.int .i64 n0)).setCell ⟨w.heap.size, 4, none⟩ (.int .i64 n0)).setCell ⟨w.heap.size, 5, none⟩ (.int .u64 (k0 : Nat))).setCell ⟨w.heap.size, 6, none⟩ (.int .u64 (k0 : Nat))).setCell ⟨w.heap.size, 7, none⟩ (.int .u64 (k0 : Nat))).setCell ⟨w.heap.size, 8, none⟩ (.int .u64 (k0 : Nat))).setCell ⟨w.heap.size, 9, none⟩ (.slice KA ks.length kc)).setCell ⟨w.heap.size, 10, none⟩ (.slice VA vs.length vc)) := ⟨_, rfl⟩
                  rw [← hC] at hch
                  obtain ⟨hC1, hC2, hC3, hC4⟩ := hch
                  have HC := Lib.hid hC
                  have HC1 := Lib.hid hC1
                  have HC4 := Lib.hid hC4
                  have HP9 := Lib.hid P8
                  clear hRx hE hk hkl hge hn0 hk0 hv0 Pd hC hC1 hC2 hC3 hC4 P8 HP
                  go_upto_region 27 with fail
                  first | go_region_law (fail) | fail
                  all_goals go_wp2_with fail
                  all_goals (
                    rw [← HC.out]
                    refine bodyPost_ret (results_op rfl _ rfl HC1.out.drew) rfl ?_
                    exact ro_no HRN.out HEV.out (HP9.out.b.trans (HC4.out _ (Nat.le_refl _))).drew)
                · obtain rfl : k2 = M := by omega
                  have hmod : (k2 : Int).tmod 2 = 0 := by rw [Int.tmod_eq_emod_of_nonneg (by omega)]; have := HK2.out; omega
                  have hmod2 : (k2 : Int) % 2 = 0 := by have := HK2.out; omega
                  have hRx : R = if opOk ⟨t, 0, 0, 0, 0, 0, ks, vs⟩ then some ⟨t, 0, 0, 0, 0, 0, ks, vs⟩ else none := by
                    rw [HRX.out, HRP.out, List.drop_eq_nil_of_le (by rw [HUL.out]; exact Nat.le_refl _), rdP_end (n := k2) (s := (false, [])) rfl]
                    simp only [List.append_nil]
                    exact linT_end
                  have HRN := Lib.hid hRx
                  have hE := opE0 t 0 0 0 0 ks vs KA kc VA vc
                  have hinA : OpInA (w.heap.size + 1 + 1) wr ⟨⟨t, 0, 0, 0, 0, 0, ks, vs⟩, KA, kc, VA, vc⟩ := fun W' _ hb => by
                    obtain ⟨A', c', e1, e2⟩ := FrS.of_own (ownsRow_keep HKR.out hb) HK4.out rfl
                    obtain ⟨A'', c'', e3, e4⟩ := IntS.of_own (ownsRow_keep HVR.out hb) rfl
                    cases e1
                    cases e3
                    exact ⟨(by show 0 < pw 4; decide), e2, e4⟩
                  have HIN := Lib.hid hinA
                  obtain ⟨ok, hok⟩ : ∃ x, opOk ⟨t, 0, 0, 0, 0, 0, ks, vs⟩ = x := ⟨_, rfl⟩
                  rw [hok] at HRN
                  have hD : ∀ W : World, OpIn W ⟨⟨t, 0, 0, 0, 0, 0, ks, vs⟩, KA, kc, VA, vc⟩ → Calls Tryd.prog 35 #[.agg (OpE.v ⟨⟨t, 0, 0, 0, 0, 0, ks, vs⟩, KA, kc, VA, vc⟩)] W fun e w' => e = .returned (.bool ok) ∧ Below W.heap.size W w' := by
                    intro W H
                    rw [← hok]
                    exact rop_any _ KA kc VA vc W H.k H.ks H.vs
                  obtain ⟨n0, hn0⟩ : ∃ x : Int, x = 0 := ⟨_, rfl⟩
                  obtain ⟨k0, hk0⟩ : ∃ x : Nat, x = 0 := ⟨_, rfl⟩
                  have hv0 : opV t 0 0 0 0 0 0 0 0 KA ks.length kc VA vs.length vc = opV t n0 n0 n0 n0 k0 k0 k0 k0 KA ks.length kc VA vs.length vc := by rw [hn0, hk0]
                  rw [hv0] at P8 hE
                  rw [hE] at hD
                  have D := Lib.hid hD
                  have Pd := P8.bel (Below.refl wr.heap.size wr).drew
                  have HI1 : Hid (OpIn wr.drew ⟨⟨t, 0, 0, 0, 0, 0, ks, vs⟩, KA, kc, VA, vc⟩) := Lib.hid (HIN.out _ (Nat.le_refl _) fun _ _ _ => rfl)
                  have HEV := Lib.hid hE
                  have HPD := Lib.hid Pd
                  obtain ⟨x00, x01, x02, x03, x04, x05, x06, x07, x08, x09, x0a⟩ := opV_c P8.x
                  obtain ⟨d00, d01, d02, d03, d04, d05, d06, d07, d08, d09, d0a⟩ := opV_c Pd.x
                  obtain ⟨f0, f1, f2, f3, f4, f5, f6, f7, f8, f9, f10⟩ := opV_f P8.y
                  obtain ⟨g0, g1, g2, g3, g4, g5, g6, g7, g8, g9, g10⟩ := opV_f Pd.y
                  obtain ⟨v0, v1, v2, v3, v4, v5, v6, v7, v8, v9, v10⟩ := opV_c P8.y
                  have HP9 := Lib.hid P8
                  clear hRx hE hk hkl hge hn0 hk0 hv0 Pd P8 HP hD hok hinA
                  go_upto_region 27 with fail
                  first | go_region_law (first
                    | (go_simp; go_at_call 35
                       refine (D.out _ HI1.out).mono ?_
                       rintro e w6 ⟨rfl, b6⟩
                       have P6 := HPD.out.bel b6
                       obtain ⟨x60, x61, x62, x63, x64, x65, x66, x67, x68, x69, x6a⟩ := opV_c P6.x
                       obtain ⟨f60, f61, f62, f63, f64, f65, f66, f67, f68, f69, f6a⟩ := opV_f P6.y
                       obtain ⟨v60, v61, v62, v63, v64, v65, v66, v67, v68, v69, v6a⟩ := opV_c P6.y)) | fail
                  all_goals go_wp2_with fail
                  all_goals (
                    have h6 := op_chain P6.y t n0 n0 n0 n0 k0 k0 k0 k0 KA ks.length kc VA vs.length vc
                    have hA : OpInA w.heap.size (((((((((((w6.setCell ⟨w.heap.size, 0, none⟩ (.int .i64 t)).setCell ⟨w.heap.size, 1, none⟩ (.int .i64 n0)).setCell ⟨w.heap.size, 2, none⟩ (.int .i64 n0)).setCell ⟨w.heap.size, 3, none⟩ (.int .i64 n0)).setCell ⟨w.heap.size, 4, none⟩ (.int .i64 n0)).setCell ⟨w.heap.size, 5, none⟩ (.int .u64 (k0 : Nat))).setCell ⟨w.heap.size, 6, none⟩ (.int .u64 (k0 : Nat))).setCell ⟨w.heap.size, 7, none⟩ (.int .u64 (k0 : Nat))).setCell ⟨w.heap.size, 8, none⟩ (.int .u64 (k0 : Nat))).setCell ⟨w.heap.size, 9, none⟩ (.slice KA ks.length kc)).setCell ⟨w.heap.size, 10, none⟩ (.slice VA vs.length vc)) ⟨⟨t, 0, 0, 0, 0, 0, ks, vs⟩, KA, kc, VA, vc⟩ :=
                      HIN.out.to (by omega) (by rw [h6.size]; exact b6.size) (fun j h1 h2 => (h6.far j (by omega)).trans (b6.block j h2))
                    have hB : Below w.heap.size w (((((((((((w6.setCell ⟨w.heap.size, 0, none⟩ (.int .i64 t)).setCell ⟨w.heap.size, 1, none⟩ (.int .i64 n0)).setCell ⟨w.heap.size, 2, none⟩ (.int .i64 n0)).setCell ⟨w.heap.size, 3, none⟩ (.int .i64 n0)).setCell ⟨w.heap.size, 4, none⟩ (.int .i64 n0)).setCell ⟨w.heap.size, 5, none⟩ (.int .u64 (k0 : Nat))).setCell ⟨w.heap.size, 6, none⟩ (.int .u64 (k0 : Nat))).setCell ⟨w.heap.size, 7, none⟩ (.int .u64 (k0 : Nat))).setCell ⟨w.heap.size, 8, none⟩ (.int .u64 (k0 : Nat))).setCell ⟨w.heap.size, 9, none⟩ (.slice KA ks.length kc)).setCell ⟨w.heap.size, 10, none⟩ (.slice VA vs.length vc)) := P6.b.trans (h6.bel _ (Nat.le_refl _))
                    have hbk := h6.bk
                    generalize (((((((((((w6.setCell ⟨w.heap.size, 0, none⟩ (.int .i64 t)).setCell ⟨w.heap.size, 1, none⟩ (.int .i64 n0)).setCell ⟨w.heap.size, 2, none⟩ (.int .i64 n0)).setCell ⟨w.heap.size, 3, none⟩ (.int .i64 n0)).setCell ⟨w.heap.size, 4, none⟩ (.int .i64 n0)).setCell ⟨w.heap.size, 5, none⟩ (.int .u64 (k0 : Nat))).setCell ⟨w.heap.size, 6, none⟩ (.int .u64 (k0 : Nat))).setCell ⟨w.heap.size, 7, none⟩ (.int .u64 (k0 : Nat))).setCell ⟨w.heap.size, 8, none⟩ (.int .u64 (k0 : Nat))).setCell ⟨w.heap.size, 9, none⟩ (.slice KA ks.length kc)).setCell ⟨w.heap.size, 10, none⟩ (.slice VA vs.length vc)) = C6 at *
                    refine bodyPost_ret (results_op rfl _ rfl (by first | exact hbk | exact hbk.drew)) rfl ?_
                    cases ok with
                    | false => exact ro_no (by rw [HRN.out]; rfl) HEV.out (by first | exact hB | exact hB.drew)
                    | true => exact ro_yes (E := ⟨⟨t, 0, 0, 0, 0, 0, ks, vs⟩, KA, kc, VA, vc⟩) (by rw [HRN.out]; rfl) HEV.out (by first | exact hA | exact hA.to' (Below.refl _ _).drew) (by first | exact hB | exact hB.drew))
          · have q6 : (t == 6) = false := beq_eq_false_iff_ne.2 h6
            have q3 : (t == 3) = false := beq_eq_false_iff_ne.2 h3
            have q10 : (t == 10) = false := beq_eq_false_iff_ne.2 h10
            have hRx := HR0.out h3 h10 h6
            rw [HE0.out] at hRx
            have hqm : ((M : Int) == 0) = decide (ws.length = j) := by
              have h1 := HLEN.out
              have h2 := HMM.out
              by_cases h : ws.length = j
              · rw [decide_eq_true h]; simp; omega
              · rw [decide_eq_false h]; simp; omega
            obtain ⟨q, hq⟩ : ∃ q, q = decide (ws.length = j) := ⟨_, rfl⟩
            rw [← hq] at hqm
            have HRX := Lib.hid hRx
            have HQ := Lib.hid hq
            clear h3 h10 h6 hRx hq
            go_wp2_with (first
              | refine wpList_load_row rfl 55 (.tmp 6) rfl (w.heap.size + 1) rfl 55 _ (0, 0) _ hP5.x Tryd.underlying55 rfl (by kernel_rfl) ?_
              | refine wpList_store_row rfl 55 (.tmp 4) (.tmp 150) rfl w.heap.size (opV t l0 l1 l2 0 0 0 0 0 none 0 0 none 0 0) rfl rfl 55 _ hP5.y (by kernel_rfl) (by kernel_rfl) (by kernel_rfl) ?_)
            have hbk : Bk (W5.setRow w.heap.size (opV t l0 l1 l2 0 0 0 0 0 none 0 0 none 0 0)) w.heap.size 55 (opV t l0 l1 l2 0 0 0 0 0 none 0 0 none 0 0) := setRow_heap _ _ _ _ _ _ hP5.y
            refine bodyPost_ret (results_op rfl _ rfl hbk) rfl ?_
            cases q with
            | false => exact ro_no (by rw [HRX.out, if_neg (of_decide_eq_false HQ.out.symm)]) (opEz t l0 l1 l2 0) (below_setRow hP5.b (Nat.le_refl _) _)
            | true => exact ro_yes (E := ⟨⟨t, l0, l1, l2, 0, 0, [], []⟩, none, 0, none, 0⟩) (by rw [HRX.out, if_pos (of_decide_eq_true HQ.out.symm)]) (opEz t l0 l1 l2 0) (fun _ _ _ => opIn0 _ t l0 l1 l2 0 (by decide)) (below_setRow hP5.b (Nat.le_refl _) _)
end Go.Proofs.YtdilgmokiclfaaaDoor
