/- Chapter 24: an operation's line, by the program. -/
import Derived.Test.YtdilgmokiclfaaaDoorScL
namespace Go.Proofs.YtdilgmokiclfaaaDoor
open Go.RowKit
set_option linter.unusedVariables false
set_option maxRecDepth 100000

def pairsWs : List Nat → List Int → List ByteArray
  | k :: ks, v :: vs => hexB k :: itB v :: pairsWs ks vs
  | _, _ => []
theorem pairsWs_snoc : ∀ {ks : List Nat} {vs : List Int} (k : Nat) (v : Int), ks.length = vs.length → pairsWs (ks ++ [k]) (vs ++ [v]) = pairsWs ks vs ++ [hexB k, itB v]
  | [], [], k, v, _ => rfl
  | x :: ks, y :: vs, k, v, h => by
    have h' : ks.length = vs.length := by simpa using h
    simp only [List.cons_append, pairsWs]
    rw [pairsWs_snoc k v h']
  | [], y :: vs, k, v, h => by cases h
  | x :: ks, [], k, v, h => by cases h
theorem pairsWs_len : ∀ (ks : List Nat) (vs : List Int), (pairsWs ks vs).length ≤ 2 * ks.length
  | [], _ => by simp [pairsWs]
  | _ :: _, [] => by simp [pairsWs]
  | x :: ks, y :: vs => by
    have := pairsWs_len ks vs
    simp only [pairsWs, List.length_cons]; omega
def namesWs (o : OpD) : List ByteArray := ([o.a, o.b, o.c].take (namesN o.t)).map itB
def tailWs (o : OpD) : List ByteArray := if o.t = 3 then [hexB o.k] else if o.t = 10 then [itB o.n] else if o.t = 6 then pairsWs o.ks o.vs else []
def lineWs (o : OpD) : List ByteArray := wordB o.t :: (namesWs o ++ tailWs o)
theorem namesN_le (t : Int) : namesN t ≤ 3 := by
  rcases tag_cases t with rfl | rfl | rfl | rfl | rfl | rfl | rfl | rfl | rfl | rfl | rfl | h
  iterate 11
    · decide
  · rw [namesN_other h]; decide
/-- What a right operation says of its numbers. -/
structure OpG (o : OpD) : Prop where
  a : inB o.a = true
  b : inB o.b = true
  c : inB o.c = true
  n : inB o.n = true
  vs : ∀ v ∈ o.vs, inB v = true
  t6 : o.t = 6 → o.ks.length = o.vs.length ∧ o.vs.length ≤ 64
theorem OpG.of {o : OpD} (h : opOk o = true) : OpG o := by
  unfold opOk at h
  simp only [Bool.and_eq_true] at h
  obtain ⟨⟨⟨⟨hh, ⟨⟨ha, hb⟩, hc⟩, hn⟩, hv⟩, _⟩, _⟩ := h
  refine ⟨ha, hb, hc, hn, fun v hm => List.all_eq_true.1 hv v hm, fun e => ?_⟩
  unfold headOk at hh
  simp only [Bool.and_eq_true] at hh
  have h6 := hh.2
  rw [if_pos e] at h6
  have := of_decide_eq_true h6
  exact ⟨this.2.2, this.2.1⟩
theorem ln_fin {B g N cap : Nat} {w w8 : World} {l ws : List ByteArray} (hrow : w8.ownsRow B 9 1 (.slice (some ⟨g, 0, none⟩) N cap) N (strs l)) (hl : ws = l) (hg : g < w8.heap.size) (hN : 0 < N) (hb : Below w.heap.size w w8) {e : Ending} (he : e = .returned (.slice (some ⟨g, 0, none⟩) N cap)) :
    ∃ g cap, e = .returned (.slice (some ⟨g, 0, none⟩) ws.length cap) ∧ StrS w8 g 0 ws.length cap ws ∧ Below w.heap.size w w8 := by
  subst hl
  have hS := StrS.of_own hrow hg hN
  have hlen := hS.len
  subst hlen
  exact ⟨g, cap, he, hS, hb⟩
theorem tail3 {o : OpD} (h : o.t = 3) : tailWs o = [hexB o.k] := if_pos h
theorem tail10 {o : OpD} (h : o.t = 10) : tailWs o = [itB o.n] := by
  unfold tailWs; rw [if_neg (by omega), if_pos h]
theorem tail6 {o : OpD} (h : o.t = 6) : tailWs o = pairsWs o.ks o.vs := by
  unfold tailWs; rw [if_neg (by omega), if_neg (by omega), if_pos h]
theorem tail0 {o : OpD} (h : ¬ o.t = 3) (h2 : ¬ o.t = 10) (h3 : ¬ o.t = 6) : tailWs o = [] := by
  unfold tailWs; rw [if_neg h, if_neg h2, if_neg h3]
theorem prS {W5 W' : World} {bo bx bv i a0 a1 a2 a3 : Nat} {v va : Value} {xsV : Array Value} (x : Bk W5 bo 55 xsV) (hva : xsV[10]? = some va) (o : Own W5 bx 24 .u64 [a0, a1, a2, a3]) (hc : W5.cell? ⟨bv, i, none⟩ = some v)
    (h1 : W'.heap[bo]? = W5.heap[bo]?) (h2 : W'.heap[bx]? = W5.heap[bx]?) (h3 : W'.heap[bv]? = W5.heap[bv]?) :
    W'.cell? ⟨bx, 0, none⟩ = some (.int .u64 (a0 : Nat)) ∧ W'.cell? ⟨bx, 1, none⟩ = some (.int .u64 (a1 : Nat)) ∧ W'.cell? ⟨bx, 2, none⟩ = some (.int .u64 (a2 : Nat)) ∧ W'.cell? ⟨bx, 3, none⟩ = some (.int .u64 (a3 : Nat)) ∧ W'.cell? ⟨bo, 10, none⟩ = some va ∧ W'.cell? ⟨bv, i, none⟩ = some v := by
  have o' : Own W' bx 24 .u64 [a0, a1, a2, a3] := h2.trans o
  obtain ⟨c0, c1, c2, c3⟩ := o'.c4
  have x' : Bk W' bo 55 xsV := h1.trans x
  exact ⟨c0, c1, c2, c3, x'.cell hva, (World.cell?_of_block (a := ⟨bv, i, none⟩) h3).trans hc⟩
def PrCut (W : World) (l : List ByteArray) (N : Nat) (v : Value) (W' : World) : Prop :=
  ∃ g cap, v = .slice (some ⟨g, 0, none⟩) N cap ∧ W.heap.size ≤ g ∧ g < W'.heap.size ∧ W'.ownsRow W.heap.size 9 1 v N (strs l) ∧ Below W.heap.size W W'
def PrRel (l : List ByteArray) (ks : List Nat) (vs : List Int) (N : Nat) (W : World) (v i : Value) (wr : World) : Prop :=
  ∃ k : Nat, k ≤ ks.length ∧ i = .int .i64 (k : Int) ∧ (∃ g n cap, v = .slice (some ⟨g, 0, none⟩) n cap ∧ n = N + 2 * k ∧ W.heap.size ≤ g ∧ g < wr.heap.size ∧
    wr.ownsRow W.heap.size 9 1 v n (strs (l ++ pairsWs (ks.take k) (vs.take k)))) ∧ Below W.heap.size W wr
def LnRel (a b c : Int) (m : Nat) (wd : ByteArray) (gi : Nat) (W : World) (v i : Value) (wr : World) : Prop :=
  ∃ k : Nat, k ≤ m ∧ i = .int .i64 (k : Int) ∧ (∃ g cap, v = .slice (some ⟨g, 0, none⟩) (1 + k) cap ∧ W.heap.size ≤ g ∧ g ≠ gi ∧ g < wr.heap.size) ∧
    wr.ownsRow W.heap.size 9 1 v (1 + k) (strs (wd :: (([a, b, c].take k).map itB))) ∧ Bk wr gi 3 #[.int .i64 a, .int .i64 b, .int .i64 c] ∧ Below W.heap.size W wr
set_option maxHeartbeats 8000000 in
/-- lineOf -/
theorem lineOf_any (o : OpD) (KA : Option Addr) (kc : Nat) (VA : Option Addr) (vc : Nat) (w : World) (hk : o.k < pw 4) (HK : FrS w KA o.ks.length kc o.ks) (HV : IntS w VA o.vs.length vc o.vs) (hg : OpG o) (hp : Pow w) :
    Calls Tryd.prog 21 #[.agg (opV' o KA kc VA vc)] w fun e w' => ∃ g cap, e = .returned (.slice (some ⟨g, 0, none⟩) (lineWs o).length cap) ∧ StrS w' g 0 (lineWs o).length cap (lineWs o) ∧ Below w.heap.size w w' := by
  obtain ⟨t, a, b, c, n, k, ks, vs⟩ := o
  obtain ⟨ga, gb, gc, gn, gv, g6⟩ := hg
  dsimp only [opV'] at *
  obtain ⟨ws, hws⟩ : ∃ x, x = lineWs ⟨t, a, b, c, n, k, ks, vs⟩ := ⟨_, rfl⟩
  rw [← hws]
  have HWS := Lib.hid hws
  clear hws
  have GA := Lib.hid ga
  have GB := Lib.hid gb
  have GC := Lib.hid gc
  have GN := Lib.hid gn
  have GV := Lib.hid gv
  have G6 := Lib.hid g6
  have HHK := Lib.hid HK
  have HHV := Lib.hid HV
  clear ga gb gc gn gv g6 HK HV
  have D1 := Lib.hid (fun W => word_any t W)
  have x0 := Bk.new w 55 (opV t a b c n (nth (fl k) 0) (nth (fl k) 1) (nth (fl k) 2) (nth (fl k) 3) KA ks.length kc VA vs.length vc)
  have b0 := (Below.refl w.heap.size w).alloc (Nat.le_refl _) (.cells (opV t a b c n (nth (fl k) 0) (nth (fl k) 1) (nth (fl k) 2) (nth (fl k) 3) KA ks.length kc VA vs.length vc) 55)
  have HP := Lib.hid (hp.bel b0)
  have hs1 : (w.alloc (.cells (opV t a b c n (nth (fl k) 0) (nth (fl k) 1) (nth (fl k) 2) (nth (fl k) 3) KA ks.length kc VA vs.length vc) 55)).heap.size = w.heap.size + 1 := by simp
  have HS1 := Lib.hid hs1
  clear hp hs1
  go_enter Tryd.func21, Tryd.ntmps21
  go_upto_region 1 with fail
  generalize (w.alloc (.cells (opV t a b c n (nth (fl k) 0) (nth (fl k) 1) (nth (fl k) 2) (nth (fl k) 3) KA ks.length kc VA vs.length vc) 55)) = W1 at *
  obtain ⟨x00, x01, x02, x03, x04, x05, x06, x07, x08, x09, x0a⟩ := opV_c x0
  go_wp2_with fail
  refine (D1.out _).mono ?_
  rintro e w3 ⟨rfl, rfl⟩
  obtain ⟨m, hm⟩ : ∃ m, namesN t = m := ⟨_, rfl⟩
  rw [hm]
  have hm3 : m ≤ 3 := by rw [← hm]; exact namesN_le t
  have HM := Lib.hid hm
  clear hm
  obtain ⟨wd, hwd⟩ : ∃ x, wordB t = x := ⟨_, rfl⟩
  rw [hwd]
  have HWD := Lib.hid hwd
  clear hwd
  have Hb0 := Lib.hid b0
  have Hx0 := Lib.hid x0
  have y1 := x0.alloc (.cells #[.string wd] 9)
  obtain ⟨y00, y01, y02, y03, y04, y05, y06, y07, y08, y09, y0a⟩ := opV_c y1
  clear b0 x0 y1
  have hm3' : (m : Int) ≤ 3 := by omega
  have hst : LnRel a b c m wd (w3.heap.size + 1) w3 (.slice (some ⟨w3.heap.size, 0, none⟩) 1 1) (.int .i64 0) ((w3.alloc (.cells #[.string wd] 9)).alloc (.cells #[.int .i64 a, .int .i64 b, .int .i64 c] 3)) := by
    refine ⟨0, Nat.zero_le _, rfl, ⟨_, _, rfl, Nat.le_refl _, by omega, by simp; omega⟩, ?_, ?_, ((Below.refl _ _).alloc (Nat.le_refl _) _).alloc (by simp) _⟩
    · exact (World.ownsRow_lit (base := w3.heap.size) (e := 9) (size := 1) w3 #[.string wd] 1 (Nat.le_refl _) (by decide) rfl).alloc _
    · exact Bk.new1 w3 _ _ _
  have Hst := Lib.hid hst
  clear hst
  obtain ⟨ti, hti, hti3, hti4, hti5⟩ := info_str
  have HT := Lib.hid (And.intro hti (And.intro hti3 (And.intro hti4 hti5)))
  clear hti hti3 hti4 hti5
  have D2 := Lib.hid (fun z W hp hz => itoa_any z W hp hz)
  go_wp2_with fail
  go_loopw [5, 28] (LnRel a b c m wd (w3.heap.size + 1) w3) (fun _ i _ => m - (intOf i).toNat)
  case atStart => exact Hst.out
  case round =>
    clear Hst
    obtain ⟨j, hj, rfl, ⟨g, cap, rfl, hgB, hgi, hgl⟩, hrow, hbk, hb⟩ := hrel
    rcases Nat.lt_or_ge j m with hlt | hge
    · have hjm : (j : Int) < (m : Int) := by omega
      have hj3' : (j : Int) < 3 := by omega
      obtain ⟨z, hz1, hz2, hz3⟩ : ∃ z, wr.cell? ⟨w3.heap.size + 1, j, none⟩ = some (.int .i64 z) ∧ inB z = true ∧ [a, b, c].take (j + 1) = [a, b, c].take j ++ [z] := by
        have : j = 0 ∨ j = 1 ∨ j = 2 := by omega
        rcases this with rfl | rfl | rfl
        · exact ⟨a, hbk.cell rfl, GA.out, rfl⟩
        · exact ⟨b, hbk.cell rfl, GB.out, rfl⟩
        · exact ⟨c, hbk.cell rfl, GC.out, rfl⟩
      have HZ2 := Lib.hid hz2
      have HZ3 := Lib.hid hz3
      clear hz2 hz3
      have Hbk := Lib.hid hbk
      have Hrow := Lib.hid hrow
      have Hb := Lib.hid hb
      clear hbk hrow hb
      go_wp2_with fail
      refine (D2.out z wr (HP.out.bel Hb.out) HZ2.out).mono ?_
      rintro e w4 ⟨rfl, b4⟩
      have hrow4 := ownsRow_bel Hrow.out b4
      have hbk4 := Hbk.out.bel b4
      have hb4 := Hb.out.trans (b4.mono Hb.out.size)
      have hsz := b4.size
      go_wp2_with (refine wpList_app_strs rfl (.tmp 32) (.tmp 35) rfl (B := w3.heap.size) (W := w3) (l := wd :: (([a, b, c].take j).map itB)) (ns := [itB z]) 1 _ rfl rfl (by decide) (by omega) rfl rfl hrow4 hb4 hb4.size (by omega) ?_; intro g' cap' w8 hA)
      refine ⟨⟨j + 1, by omega, int_eq (by omega), ⟨g', cap', rfl, hA.ge, ?_, hA.lt⟩, ?_, (hA.blk _ hbk4.lt (fun e => hgi e.symm)).trans hbk4, hA.below⟩, by simp [intOf]; omega⟩
      · rcases hA.at_ with e | e
        · omega
        · have := hbk4.lt; omega
      · have e1 : wd :: (([a, b, c].take (j + 1)).map itB) = (wd :: (([a, b, c].take j).map itB)) ++ [itB z] := by rw [HZ3.out]; simp
        rw [e1]
        exact hA.row
    · obtain rfl : j = m := by omega
      have hjm : ¬ (j : Int) < (j : Int) := by omega
      have hnm : namesWs ⟨t, a, b, c, n, k, ks, vs⟩ = ([a, b, c].take j).map itB := by unfold namesWs; rw [HM.out]
      have HNM := Lib.hid hnm
      clear hnm
      obtain ⟨nm, hnm⟩ : ∃ x, wd :: (([a, b, c].take j).map itB) = x := ⟨_, rfl⟩
      rw [hnm] at hrow
      have HN := Lib.hid hnm
      clear hnm
      have x4 := Hx0.out.below hb (by have := HS1.out; have := Hx0.out.lt; omega)
      clear x00 x01 x02 x03 x04 x05 x06 x07 x08 x09 x0a y00 y01 y02 y03 y04 y05 y06 y07 y08 y09 y0a hbk
      obtain ⟨x00, x01, x02, x03, x04, x05, x06, x07, x08, x09, x0a⟩ := opV_c x4
      have Hrow := Lib.hid hrow
      have Hb := Lib.hid hb
      have X4 := Lib.hid x4
      clear hrow hb x4
      have hws : ws = nm ++ tailWs ⟨t, a, b, c, n, k, ks, vs⟩ := by
        rw [HWS.out]
        unfold lineWs
        rw [HNM.out, ← HN.out]
        simp only [HWD.out, List.cons_append]
      have HW := Lib.hid hws
      clear hws
      have hbf := Hb0.out.trans (Hb.out.mono (by have := HS1.out; omega))
      have Hbf := Lib.hid hbf
      clear hbf
      have hgl' := hgl
      by_cases h3 : t = 3
      · have q3 : (t == 3) = true := by simp [h3]
        have q10 : (t == 10) = false := by simp [h3]
        have q6 : (t == 6) = false := by simp [h3]
        have H3 := Lib.hid h3
        clear h3
        have D3 := Lib.hid (hex_any k)
        go_wp2_with fail
        refine (D3.out _).mono ?_
        rintro e w4 ⟨rfl, b4⟩
        have hrow4 := ownsRow_bel Hrow.out b4
        have hb4 := Hb.out.trans (b4.mono Hb.out.size)
        have hsz := b4.size
        go_wp2_with (refine wpList_app_strs rfl (.tmp 42) (.tmp 46) rfl (B := w3.heap.size) (W := w3) (l := nm) (ns := [hexB k]) 1 _ rfl rfl (by decide) (by omega) rfl rfl hrow4 hb4 hb4.size (by omega) ?_; intro g' cap' w8 hA)
        go_ret
        exact ln_fin hA.row (by rw [HW.out, tail3 H3.out]) hA.lt (by omega) (Hb0.out.trans (hA.below.mono (by have := HS1.out; omega))) rfl
      by_cases h10 : t = 10
      · have q3 : (t == 3) = false := by simp [h10]
        have q10 : (t == 10) = true := by simp [h10]
        have q6 : (t == 6) = false := by simp [h10]
        have H10 := Lib.hid h10
        clear h10 h3
        go_wp2_with fail
        refine (D2.out n wr (HP.out.bel Hb.out) GN.out).mono ?_
        rintro e w4 ⟨rfl, b4⟩
        have hrow4 := ownsRow_bel Hrow.out b4
        have hb4 := Hb.out.trans (b4.mono Hb.out.size)
        have hsz := b4.size
        go_wp2_with (refine wpList_app_strs rfl (.tmp 50) (.tmp 54) rfl (B := w3.heap.size) (W := w3) (l := nm) (ns := [itB n]) 1 _ rfl rfl (by decide) (by omega) rfl rfl hrow4 hb4 hb4.size (by omega) ?_; intro g' cap' w8 hA)
        go_ret
        exact ln_fin hA.row (by rw [HW.out, tail10 H10.out]) hA.lt (by omega) (Hb0.out.trans (hA.below.mono (by have := HS1.out; omega))) rfl
      by_cases h6 : t = 6
      · have q3 : (t == 3) = false := by simp [h6]
        have q10 : (t == 10) = false := by simp [h6]
        have q6 : (t == 6) = true := by simp [h6]
        have H6 := Lib.hid h6
        clear h6 h10 h3
        obtain ⟨g6a, g6b⟩ := G6.out H6.out
        have G6A := Lib.hid g6a
        have G6B := Lib.hid g6b
        clear g6a g6b
        have hns := HHK.out.lim
        have hnc := HHK.out.cap
        have hvs := HHV.out.lim
        have hvc := HHV.out.cap
        unfold maxLen at hnc hvc
        have hcl : Tryd.prog.cellsOf 24 = 4 := by kernel_rfl
        have hst : PrRel nm ks vs (1 + j) w3 (.slice (some ⟨g, 0, none⟩) (1 + j) cap) (.int .i64 0) wr :=
          ⟨0, Nat.zero_le _, rfl, ⟨g, 1 + j, cap, rfl, by omega, hgB, hgl, by simpa [pairsWs] using Hrow.out⟩, Hb.out⟩
        have Hst := Lib.hid hst
        clear hst
        go_wp2_with fail
        have hjle : j ≤ 3 := by omega
        clear x00 x01 x02 x03 x04 x05 x06 x07 x08 x09 x0a Hrow Hbf X4 hgl' hgl hgB hgi
        go_loopw [5, 61] (PrRel nm ks vs (1 + j) w3) (fun _ i _ => ks.length - (intOf i).toNat)
        case atStart => exact Hst.out
        case round =>
          clear Hst
          obtain ⟨q, hq, rfl, ⟨g, N, cap, rfl, hN, hgB, hgl, hrow⟩, hb⟩ := hrel
          have HNN := Lib.hid hN
          clear hN
          have hbw := Hb0.out.trans (hb.mono (by have := HS1.out; omega))
          have x4 := Hx0.out.below hb (by have := HS1.out; have := Hx0.out.lt; omega)
          rcases Nat.lt_or_ge q ks.length with hlt | hge
          · obtain ⟨bk, off, rfl, hbl, hrk⟩ := (HHK.out.bel hbw).at hlt
            have hlv : q < vs.length := by have := G6A.out; omega
            obtain ⟨bv, offv, rfl, hblv0, hcv0⟩ := HHV.out.at hlv
            have hblv : bv < wr.heap.size := Nat.lt_of_lt_of_le hblv0 hbw.size
            have hcv : wr.cell? ⟨bv, offv + q, none⟩ = some (.int .i64 vs[q]) := (hbw.cell (p := ⟨bv, offv + q, none⟩) hblv0).trans hcv0
            clear hcv0
            have hqn : (q : Int) < (ks.length : Int) := by omega
            have hqv : (q : Int) < (vs.length : Int) := by omega
            have HZk := Lib.hid (take_succ_get hlt)
            have HZv := Lib.hid (take_succ_get hlv)
            have HIv := Lib.hid (GV.out _ (List.getElem_mem hlv))
            have hrow0 := hrow
            have HR := Lib.hid hrow
            clear hrow hrow0
            generalize ks[q] = K at *
            generalize vs[q] = V at *
            have D3 := Lib.hid (hex_any K)
            have D4 := Lib.hid (fun W hp => itoa_any V W hp HIv.out)
            have o1 := Own.new wr 24 .u64 (fl K)
            have Lz := frC_arr K
            have bn := hb.alloc hb.size (.cells (lim .u64 (fl K)) 24)
            have xn := x4.alloc (.cells (lim .u64 (fl K)) 24)
            have hcn : (wr.alloc (.cells (lim .u64 (fl K)) 24)).cell? ⟨bv, offv + q, none⟩ = some (.int .i64 V) :=
              (((Below.refl wr.heap.size wr).alloc (Nat.le_refl _) (.cells (lim .u64 (fl K)) 24)).cell (p := ⟨bv, offv + q, none⟩) hblv).trans hcv
            have HRn := Lib.hid (HR.out.alloc (.cells (lim .u64 (fl K)) 24))
            have hsn : (wr.alloc (.cells (lim .u64 (fl K)) 24)).heap.size = wr.heap.size + 1 := by simp
            have HSN := Lib.hid hsn
            clear hsn
            clear HR hcv x4
            go_upto_region 17 with (first
              | refine wpList_load_mid rfl 24 (.tmp 64) rfl bk (off + q * 4) rfl (frC K) _ hrk Tryd.underlying24 rfl (by kernel_rfl) ?_
              | refine wpList_store_new rfl 24 (.tmp 9) (.tmp 65) rfl .u64 (fl K) rfl (by rw [← Lz]; rfl) 24 _ (by kernel_rfl) rfl ?_)
            have e4 := fl4 K
            generalize fl K = xs at *
            obtain ⟨a0, a1, a2, a3, rfl⟩ := e4
            generalize wr.alloc (.cells (lim .u64 [a0, a1, a2, a3]) 24) = W5 at *
            have hbo := xn.lt
            have hbx := o1.lt
            have hbv5 : bv < W5.heap.size := by have := HSN.out; omega
            have hg5 : g < W5.heap.size := by have := HSN.out; omega
            have hgo : w.heap.size ≠ g := by have := HS1.out; omega
            have hgx : wr.heap.size ≠ g := by omega
            have hgv : bv ≠ g := by have := HS1.out; omega
            have hN6 : N + 2 ≤ 1000000 := by have := HNN.out; have := G6B.out; have := G6A.out; omega
            have B5 := (Below.refl W5.heap.size W5).drew
            have P5 : Pow W5 := HP.out.below bn (Nat.le_refl _)
            have P5d : Pow W5.drew := P5.bel B5
            have c1 := prS (W' := W5) xn rfl o1 hcn rfl rfl rfl
            go_region_held3 (fun w' => w'.cell? ⟨wr.heap.size, 0, none⟩ = some (.int .u64 (a0 : Nat)) ∧ w'.cell? ⟨wr.heap.size, 1, none⟩ = some (.int .u64 (a1 : Nat)) ∧ w'.cell? ⟨wr.heap.size, 2, none⟩ = some (.int .u64 (a2 : Nat)) ∧ w'.cell? ⟨wr.heap.size, 3, none⟩ = some (.int .u64 (a3 : Nat)) ∧ w'.cell? ⟨w.heap.size, 10, none⟩ = some (.slice (some ⟨bv, offv, none⟩) vs.length vc) ∧ w'.cell? ⟨bv, offv + q, none⟩ = some (.int .i64 V))
              (first | exact c1 | exact ch | exact ci | exact czi | exact czh | exact cA | fail)
              (first
              | (go_at_call 20
                 refine (D3.out _).mono ?_
                 rintro e w6 ⟨rfl, b6⟩
                 first
                 | have bh := bi.trans (b6.mono bi.size)
                 | have bh := B5.trans b6
                 have ch := prS (W' := w6) xn rfl o1 hcn (bh.block _ hbo) (bh.block _ hbx) (bh.block _ hbv5)
                 have bzh := bh.alloc bh.size (.cells #[.string (hexB K), .string (itB V)] 9)
                 have czh := prS (W' := w6.alloc (.cells #[.string (hexB K), .string (itB V)] 9)) xn rfl o1 hcn (bzh.block _ hbo) (bzh.block _ hbx) (bzh.block _ hbv5))
              | (go_at_call 48
                 first
                 | refine (D4.out _ (P5.bel bh)).mono ?_
                 | refine (D4.out _ P5d).mono ?_
                 rintro e w7 ⟨rfl, b7⟩
                 first
                 | have bi := bh.trans (b7.mono bh.size)
                 | have bi := B5.trans b7
                 have ci := prS (W' := w7) xn rfl o1 hcn (bi.block _ hbo) (bi.block _ hbx) (bi.block _ hbv5)
                 have bzi := bi.alloc bi.size (.cells #[.string (hexB K), .string (itB V)] 9)
                 have czi := prS (W' := w7.alloc (.cells #[.string (hexB K), .string (itB V)] 9)) xn rfl o1 hcn (bzi.block _ hbo) (bzi.block _ hbx) (bzi.block _ hbv5))
              | (refine step_app_strs rfl (.tmp 66) (.tmp 75) rfl (B := w3.heap.size) (W := w3) (l := nm ++ pairsWs (List.take q ks) (List.take q vs)) (ns := [hexB K, itB V]) 2 _ rfl rfl (by decide) hN6 rfl rfl (ownsRow_bel HRn.out bi) (bn.trans (bi.mono bn.size)) (bn.trans (bi.mono bn.size)).size (Nat.lt_of_lt_of_le hg5 bi.size) ?_
                 intro g' cap' w8 hA
                 have cA := prS (W' := w8) xn rfl o1 hcn ((hA.blk _ (Nat.lt_of_lt_of_le hbo bi.size) hgo).trans (bi.block _ hbo)) ((hA.blk _ (Nat.lt_of_lt_of_le hbx bi.size) hgx).trans (bi.block _ hbx)) ((hA.blk _ (Nat.lt_of_lt_of_le hbv5 bi.size) hgv).trans (bi.block _ hbv5)))
              | (refine step_app_strs rfl (.tmp 66) (.tmp 75) rfl (B := w3.heap.size) (W := w3) (l := nm ++ pairsWs (List.take q ks) (List.take q vs)) (ns := [hexB K, itB V]) 2 _ rfl rfl (by decide) hN6 rfl rfl (ownsRow_bel HRn.out bh) (bn.trans (bh.mono bn.size)) (bn.trans (bh.mono bn.size)).size (Nat.lt_of_lt_of_le hg5 bh.size) ?_
                 intro g' cap' w8 hA
                 have cA := prS (W' := w8) xn rfl o1 hcn ((hA.blk _ (Nat.lt_of_lt_of_le hbo bh.size) hgo).trans (bh.block _ hbo)) ((hA.blk _ (Nat.lt_of_lt_of_le hbx bh.size) hgx).trans (bh.block _ hbx)) ((hA.blk _ (Nat.lt_of_lt_of_le hbv5 bh.size) hgv).trans (bh.block _ hbv5))))
            all_goals
              have e1 : nm ++ pairsWs (ks.take (q + 1)) (vs.take (q + 1)) = nm ++ pairsWs (ks.take q) (vs.take q) ++ [hexB K, itB V] := by
                rw [HZk.out, HZv.out, pairsWs_snoc _ _ (by rw [List.length_take, List.length_take]; have := G6A.out; omega), List.append_assoc]
              have hR : PrRel nm ks vs (1 + j) w3 (.slice (some ⟨g', 0, none⟩) (N + 2) cap') (.int .i64 ((q : Int) + 1)) w8 := by
                refine ⟨q + 1, by omega, int_eq (by omega), ⟨g', N + 2, cap', rfl, by have := HNN.out; omega, hA.ge, hA.lt, ?_⟩, hA.below⟩
                rw [e1]
                exact hA.row
              have HRR := Lib.hid hR
              clear hR
              go_wp2_with fail
              exact ⟨HRR.out, by simp [intOf]; omega⟩
          · obtain rfl : q = ks.length := by omega
            have hqn : ¬ ((ks.length : Nat) : Int) < (ks.length : Int) := by omega
            have hgl' := hgl
            rw [List.take_length, List.take_of_length_le (by have := G6A.out; omega)] at hrow
            have HRR := Lib.hid hrow
            have HB := Lib.hid hbw
            clear hrow hbw
            go_wp2_with fail
            go_ret
            exact ln_fin HRR.out (by rw [HW.out, tail6 H6.out]) hgl (by have := HNN.out; omega) HB.out rfl
      · have q3 : (t == 3) = false := by simpa using h3
        have q10 : (t == 10) = false := by simpa using h10
        have q6 : (t == 6) = false := by simpa using h6
        have H3 := Lib.hid h3
        have H10 := Lib.hid h10
        have H6 := Lib.hid h6
        clear h3 h10 h6
        go_wp2_with fail
        go_ret
        exact ln_fin Hrow.out (by rw [HW.out, tail0 H3.out H10.out H6.out, List.append_nil]) hgl (by omega) Hbf.out rfl
end Go.Proofs.YtdilgmokiclfaaaDoor
