/- Chapter 24: ref.Like of two plans that hold the same. -/
import Derived.Test.YtdilgmokiclfaaaDoorScYa
import Derived.BigQuiet
import Derived.Deep.RegionLaw
namespace Go.Proofs.YtdilgmokiclfaaaDoor
open Go.RowKit
set_option linter.unusedVariables false
set_option maxRecDepth 100000

def IxLk (n : Nat) (w : World) (i : Value) (wr : World) : Prop := ∃ k : Nat, k ≤ n ∧ i = .int .i64 (k : Int) ∧ Below w.heap.size w wr
theorem fr_cells {w : World} {b o : Nat} {a0 a1 a2 a3 : Nat} (h : w.rangeAt b o [.int .u64 (a0 : Nat), .int .u64 (a1 : Nat), .int .u64 (a2 : Nat), .int .u64 (a3 : Nat)]) :
    w.cell? ⟨b, o, none⟩ = some (.int .u64 (a0 : Nat)) ∧ w.cell? ⟨b, o + 1, none⟩ = some (.int .u64 (a1 : Nat)) ∧ w.cell? ⟨b, o + 2, none⟩ = some (.int .u64 (a2 : Nat)) ∧ w.cell? ⟨b, o + 3, none⟩ = some (.int .u64 (a3 : Nat)) :=
  ⟨h 0 _ rfl, h 1 _ rfl, h 2 _ rfl, h 3 _ rfl⟩
set_option maxHeartbeats 4000000 in
/-- ref03.Like of two slices that hold the same. -/
theorem rlike_any (A B : Option Addr) (n c d : Nat) (xs : List Nat) (w : World) (H : FrS w A n c xs) (G : FrS w B n d xs) :
    Calls Tryd.prog 33 #[.slice A n c, .slice B n d] w fun e w' => e = .returned (.bool true) ∧ Below w.heap.size w w' := by
  have hcl : Tryd.prog.cellsOf 24 = 4 := by kernel_rfl
  have HH := Lib.hid H
  have HG := Lib.hid G
  have hlen := Lib.hid H.len
  have hn := H.lim
  have hc := H.cap
  have hd := G.lim
  have hdc := G.cap
  unfold maxLen at hc hdc
  clear H G
  go_enter Tryd.func33, Tryd.ntmps33
  go_wp2_with fail
  go_loopw [13] (IxLk n w) (fun i _ => n - (intOf i).toNat)
  case atStart => exact ⟨0, Nat.zero_le _, rfl, Below.refl _ _⟩
  case round =>
    obtain ⟨k, hk, rfl, hb⟩ := hrel
    rcases Nat.lt_or_ge k n with hlt | hge
    · obtain ⟨b1, o1, rfl, hb1, r1⟩ := HH.out.at (i := k) (by have := hlen.out; omega)
      obtain ⟨b2, o2, rfl, hb2, r2⟩ := HG.out.at (i := k) (by have := hlen.out; omega)
      have hkn : (k : Int) < (n : Int) := by omega
      generalize xs[k]'_ = x at r1 r2
      obtain ⟨a0, a1, a2, a3, hfl⟩ := fl4 x
      have hfc : frC x = [.int .u64 (a0 : Nat), .int .u64 (a1 : Nat), .int .u64 (a2 : Nat), .int .u64 (a3 : Nat)] := by unfold frC; rw [hfl]; rfl
      rw [hfc] at r1 r2
      obtain ⟨x0, x1, x2, x3⟩ := fr_cells (rangeAt_bel r1 hb hb1)
      obtain ⟨y0, y1, y2, y3⟩ := fr_cells (rangeAt_bel r2 hb hb2)
      have E4 := eq4 a0 a1 a2 a3 a0 a1 a2 a3
      rw [decide_eq_true rfl] at E4
      clear r1 r2 hfl hfc
      go_wp2_with fail
      go_quiet (fail)
      go_wp2_with fail
      exact ⟨⟨k + 1, by omega, int_eq (by omega), below_drewN hb _⟩, by simp [intOf]; omega⟩
    · obtain rfl : k = n := by omega
      have hkn : ¬ (k : Int) < (k : Int) := by omega
      go_wp2_with fail
      go_ret
      exact ⟨rfl, hb⟩
set_option maxHeartbeats 4000000 in
/-- LikeOp of two operations that hold the same. -/
theorem likeop_any (o : OpD) (KA : Option Addr) (kc : Nat) (VA : Option Addr) (vc : Nat) (KB : Option Addr) (kd : Nat) (VB : Option Addr) (vd : Nat) (w : World) (H : OpIn w ⟨o, KA, kc, VA, vc⟩) (G : OpIn w ⟨o, KB, kd, VB, vd⟩) :
    Calls Tryd.prog 34 #[.agg (opV' o KA kc VA vc), .agg (opV' o KB kd VB vd)] w fun e w' => e = .returned (.bool true) ∧ Below w.heap.size w w' := by
  obtain ⟨t, a, b, c, n, k, ks, vs⟩ := o
  have HH := Lib.hid H
  have HG := Lib.hid G
  obtain ⟨k0, hk0⟩ : ∃ x, x = nth (fl k) 0 := ⟨_, rfl⟩
  obtain ⟨k1, hk1⟩ : ∃ x, x = nth (fl k) 1 := ⟨_, rfl⟩
  obtain ⟨k2, hk2⟩ : ∃ x, x = nth (fl k) 2 := ⟨_, rfl⟩
  obtain ⟨k3, hk3⟩ : ∃ x, x = nth (fl k) 3 := ⟨_, rfl⟩
  obtain ⟨nv, hnv⟩ : ∃ x, x = vs.length := ⟨_, rfl⟩
  obtain ⟨nk, hnk⟩ : ∃ x, x = ks.length := ⟨_, rfl⟩
  have hv : ∀ (KA : Option Addr) (kc : Nat) (VA : Option Addr) (vc : Nat), opV' ⟨t, a, b, c, n, k, ks, vs⟩ KA kc VA vc = opV t a b c n k0 k1 k2 k3 KA nk kc VA nv vc := by
    intro KA kc VA vc
    rw [hk0, hk1, hk2, hk3, hnv, hnk]
    rfl
  rw [hv, hv]
  have HNV := Lib.hid hnv
  have HNK := Lib.hid hnk
  have b0 := ((Below.refl w.heap.size w).alloc (Nat.le_refl _) (.cells (opV t a b c n k0 k1 k2 k3 KA nk kc VA nv vc) 55)).alloc (by simp) (.cells (opV t a b c n k0 k1 k2 k3 KB nk kd VB nv vd) 55)
  have x0 := (Bk.new w 55 (opV t a b c n k0 k1 k2 k3 KA nk kc VA nv vc)).alloc (.cells (opV t a b c n k0 k1 k2 k3 KB nk kd VB nv vd) 55)
  have z0 := Bk.new1 w (.cells (opV t a b c n k0 k1 k2 k3 KA nk kc VA nv vc) 55) 55 (opV t a b c n k0 k1 k2 k3 KB nk kd VB nv vd)
  have E4 := eq4 k0 k1 k2 k3 k0 k1 k2 k3
  rw [decide_eq_true rfl] at E4
  clear hv hk0 hk1 hk2 hk3
  have hlv := H.vs.lim
  have hcv := H.vs.cap
  have hlw := G.vs.lim
  have hcw := G.vs.cap
  dsimp only at hlv hcv hlw hcw
  unfold maxLen at hcv hcw
  rw [← hnv] at hlv hlw
  clear H G hnv hnk
  go_enter Tryd.func34, Tryd.ntmps34
  go_upto_region 1 with fail
  generalize (w.alloc (.cells (opV t a b c n k0 k1 k2 k3 KA nk kc VA nv vc) 55)).alloc (.cells (opV t a b c n k0 k1 k2 k3 KB nk kd VB nv vd) 55) = W at *
  have H0 := Lib.hid (HH.out.bel b0)
  have G0 := Lib.hid (HG.out.bel b0)
  obtain ⟨x00, x01, x02, x03, x04, x05, x06, x07, x08, x09, x0a⟩ := opV_c x0
  obtain ⟨z00, z01, z02, z03, z04, z05, z06, z07, z08, z09, z0a⟩ := opV_c z0
  go_wp2_with fail
  refine (rlike_any _ _ nk _ _ ks W (by rw [HNK.out]; exact H0.out.ks) (by rw [HNK.out]; exact G0.out.ks)).mono ?_
  rintro e w1 ⟨rfl, b1⟩
  have x1 := x0.bel b1
  have z1 := z0.bel b1
  have H1 := Lib.hid (H0.out.bel b1)
  have G1 := Lib.hid (G0.out.bel b1)
  have hb1 := b0.trans (b1.mono b0.size)
  clear x00 x01 x02 x03 x04 x05 x06 x07 x08 x09 x0a z00 z01 z02 z03 z04 z05 z06 z07 z08 z09 z0a x0 z0 b0 b1 H0 G0
  have HB1 := Lib.hid hb1
  clear hb1
  have X := Lib.hid x1
  have Z := Lib.hid z1
  obtain ⟨x00, x01, x02, x03, x04, x05, x06, x07, x08, x09, x0a⟩ := opV_c x1
  clear x1 z1
  go_wp2_with fail
  go_loopw [66] (IxLk nv w1) (fun i _ => nv - (intOf i).toNat)
  case atStart => exact ⟨0, Nat.zero_le _, rfl, Below.refl _ _⟩
  case round =>
    clear x00 x01 x02 x03 x04 x05 x06 x07 x08 x09 x0a
    obtain ⟨j, hj, rfl, hb⟩ := hrel
    rcases Nat.lt_or_ge j nv with hlt | hge
    · obtain ⟨g1, o1, rfl, hg1, r1⟩ := H1.out.vs.at (i := j) (by have := HNV.out; show j < vs.length; omega)
      obtain ⟨g2, o2, rfl, hg2, r2⟩ := G1.out.vs.at (i := j) (by have := HNV.out; show j < vs.length; omega)
      have hkn : (j : Int) < (nv : Int) := by omega
      dsimp only at r1 r2
      generalize vs[j]'_ = y at r1 r2
      have r3 := (hb.cell (p := ⟨g1, o1 + j, none⟩) hg1).trans r1
      have r4 := (hb.cell (p := ⟨g2, o2 + j, none⟩) hg2).trans r2
      have x0a := (opV_c (X.out.bel hb)).2.2.2.2.2.2.2.2.2.2
      have z0a := (opV_c (Z.out.bel hb)).2.2.2.2.2.2.2.2.2.2
      clear r1 r2
      go_wp2_with fail
      go_quiet (fail)
      go_wp2_with fail
      exact ⟨⟨j + 1, by omega, int_eq (by omega), below_drewN hb _⟩, by simp [intOf]; omega⟩
    · obtain rfl : j = nv := by omega
      have hkn : ¬ (j : Int) < (j : Int) := by omega
      go_wp2_with fail
      go_ret
      exact ⟨rfl, HB1.out.trans (hb.mono HB1.out.size)⟩
theorem op_cells {w : World} {g o : Nat} {t a b c n : Int} {k0 k1 k2 k3 : Nat} {KA : Option Addr} {kn kc : Nat} {VA : Option Addr} {vn vc : Nat} (h : w.rangeAt g o (opV t a b c n k0 k1 k2 k3 KA kn kc VA vn vc).toList) :
    w.cell? ⟨g, o, none⟩ = some (.int .i64 t) ∧ w.cell? ⟨g, o + 1, none⟩ = some (.int .i64 a) ∧ w.cell? ⟨g, o + 2, none⟩ = some (.int .i64 b) ∧ w.cell? ⟨g, o + 3, none⟩ = some (.int .i64 c) ∧ w.cell? ⟨g, o + 4, none⟩ = some (.int .i64 n) ∧
    w.cell? ⟨g, o + 5, none⟩ = some (.int .u64 (k0 : Nat)) ∧ w.cell? ⟨g, o + 6, none⟩ = some (.int .u64 (k1 : Nat)) ∧ w.cell? ⟨g, o + 7, none⟩ = some (.int .u64 (k2 : Nat)) ∧ w.cell? ⟨g, o + 8, none⟩ = some (.int .u64 (k3 : Nat)) ∧
    w.cell? ⟨g, o + 9, none⟩ = some (.slice KA kn kc) ∧ w.cell? ⟨g, o + 10, none⟩ = some (.slice VA vn vc) :=
  ⟨h 0 _ rfl, h 1 _ rfl, h 2 _ rfl, h 3 _ rfl, h 4 _ rfl, h 5 _ rfl, h 6 _ rfl, h 7 _ rfl, h 8 _ rfl, h 9 _ rfl, h 10 _ rfl⟩
theorem plV_one (p : PlD) : (plV p).all (·.oneCell') = true := by simp [plV, Value.oneCell']
set_option maxHeartbeats 8000000 in
/-- ref.Like of two plans that hold the same. -/
theorem like_any (p q : PlD) (w : World) (H : PlIn w p) (G : PlIn w q) (h : p.r = q.r) :
    Calls Tryd.prog 11 #[.agg (plV p), .agg (plV q)] w fun e w' => e = .returned (.bool true) ∧ Below w.heap.size w w' := by
  obtain ⟨tau, BA, bc, bs, OA, oc, os, IA, ic, is⟩ := p
  obtain ⟨tau', BB, bd, bs', OB, od, os', IB, id, is'⟩ := q
  unfold PlD.r at h
  simp only [PlR.mk.injEq] at h
  obtain ⟨rfl, rfl, ho, rfl⟩ := h
  have hcl : Tryd.prog.cellsOf 55 = 11 := by kernel_rfl
  have hl : os'.length = os.length := by have := congrArg List.length ho; simpa using this.symm
  have hel : ∀ (j : Nat) (h1 : j < os.length) (h2 : j < os'.length), os[j].d = os'[j].d := by
    intro j h1 h2
    have := congrArg (fun l => l[j]?) ho
    simp only [List.getElem?_map, List.getElem?_eq_getElem h1, List.getElem?_eq_getElem h2, Option.map_some] at this
    exact Option.some.inj this
  have HEL := Lib.hid hel
  have HH := Lib.hid H
  have HG := Lib.hid G
  obtain ⟨k0, hk0⟩ : ∃ x, x = nth (fl tau) 0 := ⟨_, rfl⟩
  obtain ⟨k1, hk1⟩ : ∃ x, x = nth (fl tau) 1 := ⟨_, rfl⟩
  obtain ⟨k2, hk2⟩ : ∃ x, x = nth (fl tau) 2 := ⟨_, rfl⟩
  obtain ⟨k3, hk3⟩ : ∃ x, x = nth (fl tau) 3 := ⟨_, rfl⟩
  obtain ⟨no, hno⟩ : ∃ x, x = os.length := ⟨_, rfl⟩
  obtain ⟨nb, hnb⟩ : ∃ x, x = bs.length := ⟨_, rfl⟩
  obtain ⟨ni, hni⟩ : ∃ x, x = is.length := ⟨_, rfl⟩
  have hp : plV ⟨tau, BA, bc, bs, OA, oc, os, IA, ic, is⟩ = plC k0 k1 k2 k3 (.slice BA nb bc) (.slice OA no oc) (.slice IA ni ic) := by
    rw [hk0, hk1, hk2, hk3, hno, hnb, hni]; rfl
  have hq : plV ⟨tau, BB, bd, bs, OB, od, os', IB, id, is⟩ = plC k0 k1 k2 k3 (.slice BB nb bd) (.slice OB no od) (.slice IB ni id) := by
    rw [hk0, hk1, hk2, hk3, hno, hnb, hni, ← hl]; rfl
  rw [hp, hq]
  have HNO := Lib.hid hno
  have HNB := Lib.hid hnb
  have HNI := Lib.hid hni
  have HL := Lib.hid hl
  have b0 := ((Below.refl w.heap.size w).alloc (Nat.le_refl _) (.cells (plC k0 k1 k2 k3 (.slice BA nb bc) (.slice OA no oc) (.slice IA ni ic)) 28)).alloc (by simp) (.cells (plC k0 k1 k2 k3 (.slice BB nb bd) (.slice OB no od) (.slice IB ni id)) 28)
  have x0 := (Bk.new w 28 (plC k0 k1 k2 k3 (.slice BA nb bc) (.slice OA no oc) (.slice IA ni ic))).alloc (.cells (plC k0 k1 k2 k3 (.slice BB nb bd) (.slice OB no od) (.slice IB ni id)) 28)
  have z0 := Bk.new1 w (.cells (plC k0 k1 k2 k3 (.slice BA nb bc) (.slice OA no oc) (.slice IA ni ic)) 28) 28 (plC k0 k1 k2 k3 (.slice BB nb bd) (.slice OB no od) (.slice IB ni id))
  have E4 := eq4 k0 k1 k2 k3 k0 k1 k2 k3
  rw [decide_eq_true rfl] at E4
  have hlo := H.o.lim
  have hco := H.o.cap
  have hlp := G.o.lim
  have hcp := G.o.cap
  dsimp only at hlo hco hlp hcp
  unfold maxLen at hco hcp
  rw [hl] at hlp
  rw [← hno] at hlo hlp
  clear hp hq hk0 hk1 hk2 hk3 hno hnb hni hl hel ho H G
  go_enter Tryd.func11, Tryd.ntmps11
  go_upto_region 1 with fail
  generalize (w.alloc (.cells (plC k0 k1 k2 k3 (.slice BA nb bc) (.slice OA no oc) (.slice IA ni ic)) 28)).alloc (.cells (plC k0 k1 k2 k3 (.slice BB nb bd) (.slice OB no od) (.slice IB ni id)) 28) = W at *
  have H0 := Lib.hid (HH.out.bel b0)
  have G0 := Lib.hid (HG.out.bel b0)
  obtain ⟨x00, x01, x02, x03, x04, x05, x06⟩ := plC_c x0
  obtain ⟨z00, z01, z02, z03, z04, z05, z06⟩ := plC_c z0
  go_wp2_with fail
  refine (rlike_any _ _ nb _ _ bs W (by rw [HNB.out]; exact H0.out.b) (by rw [HNB.out]; exact G0.out.b)).mono ?_
  rintro e w1 ⟨rfl, b1⟩
  have x1 := x0.bel b1
  have z1 := z0.bel b1
  have H1 := Lib.hid (H0.out.bel b1)
  have G1 := Lib.hid (G0.out.bel b1)
  have hb1 := b0.trans (b1.mono b0.size)
  clear x00 x01 x02 x03 x04 x05 x06 z00 z01 z02 z03 z04 z05 z06 x0 z0 b0 b1 H0 G0
  have HB1 := Lib.hid hb1
  clear hb1
  obtain ⟨x00, x01, x02, x03, x04, x05, x06⟩ := plC_c x1
  obtain ⟨z00, z01, z02, z03, z04, z05, z06⟩ := plC_c z1
  go_wp2_with fail
  refine (rlike_any _ _ ni _ _ is w1 (by rw [HNI.out]; exact H1.out.i) (by rw [HNI.out]; exact G1.out.i)).mono ?_
  rintro e w2 ⟨rfl, b2⟩
  have x2 := x1.bel b2
  have z2 := z1.bel b2
  have H2 := Lib.hid (H1.out.bel b2)
  have G2 := Lib.hid (G1.out.bel b2)
  have hb2 := HB1.out.trans (b2.mono HB1.out.size)
  clear x00 x01 x02 x03 x04 x05 x06 z00 z01 z02 z03 z04 z05 z06 x1 z1 b2 H1 G1 HB1
  have HB2 := Lib.hid hb2
  clear hb2
  have X := Lib.hid x2
  have Z := Lib.hid z2
  obtain ⟨x00, x01, x02, x03, x04, x05, x06⟩ := plC_c x2
  obtain ⟨z00, z01, z02, z03, z04, z05, z06⟩ := plC_c z2
  clear x2 z2
  go_wp2_with fail
  go_loopw [39] (IxLk no w2) (fun i _ => no - (intOf i).toNat)
  case atStart => exact ⟨0, Nat.zero_le _, rfl, Below.refl _ _⟩
  case round =>
    clear x00 x01 x02 x03 x04 x05 x06 z00 z01 z02 z03 z04 z05 z06
    obtain ⟨j, hj, rfl, hb⟩ := hrel
    rcases Nat.lt_or_ge j no with hlt | hge
    · have h1 : j < os.length := by have := HNO.out; omega
      have h2 : j < os'.length := by have := HNO.out; have := HL.out; omega
      obtain ⟨g1, o1, rfl, hg1, r1⟩ := H2.out.o.at h1
      obtain ⟨g2, o2, rfl, hg2, r2⟩ := G2.out.o.at h2
      have hkn : (j : Int) < (no : Int) := by omega
      have i1 := (H2.out.o.ok _ (List.getElem_mem h1)).bel hb
      have i2 := (G2.out.o.ok _ (List.getElem_mem h2)).bel hb
      have hd := HEL.out j h1 h2
      dsimp only at r1 r2 i1 i2
      generalize os[j] = e1 at *
      generalize os'[j] = e2 at *
      obtain ⟨d1, KA, kc, VA, vc⟩ := e1
      obtain ⟨d2, KB, kd, VB, vd⟩ := e2
      obtain rfl : d1 = d2 := hd
      have hD := fun (W : World) (hW : Below wr.heap.size wr W) => likeop_any d1 KA kc VA vc KB kd VB vd W (i1.bel hW) (i2.bel hW)
      obtain ⟨t, a, b, c, n, k, ks, vs⟩ := d1
      have r3 := rangeAt_bel r1 hb hg1
      have r4 := rangeAt_bel r2 hb hg2
      have x05 := (plC_c (X.out.bel hb)).2.2.2.2.2.1
      have z05 := (plC_c (Z.out.bel hb)).2.2.2.2.2.1
      obtain ⟨m0, hm0⟩ : ∃ x, x = nth (fl k) 0 := ⟨_, rfl⟩
      obtain ⟨m1, hm1⟩ : ∃ x, x = nth (fl k) 1 := ⟨_, rfl⟩
      obtain ⟨m2, hm2⟩ : ∃ x, x = nth (fl k) 2 := ⟨_, rfl⟩
      obtain ⟨m3, hm3⟩ : ∃ x, x = nth (fl k) 3 := ⟨_, rfl⟩
      have hv1 : opV' ⟨t, a, b, c, n, k, ks, vs⟩ KA kc VA vc = opV t a b c n m0 m1 m2 m3 KA ks.length kc VA vs.length vc := by rw [hm0, hm1, hm2, hm3]; rfl
      have hv2 : opV' ⟨t, a, b, c, n, k, ks, vs⟩ KB kd VB vd = opV t a b c n m0 m1 m2 m3 KB ks.length kd VB vs.length vd := by rw [hm0, hm1, hm2, hm3]; rfl
      rw [hv1, hv2] at hD
      have D := Lib.hid hD
      have r5 : wr.rangeAt g1 (o1 + j * 11) (opV t a b c n m0 m1 m2 m3 KA ks.length kc VA vs.length vc).toList := by rw [← hv1]; exact r3
      have r6 : wr.rangeAt g2 (o2 + j * 11) (opV t a b c n m0 m1 m2 m3 KB ks.length kd VB vs.length vd).toList := by rw [← hv2]; exact r4
      obtain ⟨a00, a01, a02, a03, a04, a05, a06, a07, a08, a09, a0a⟩ := op_cells r5
      obtain ⟨c00, c01, c02, c03, c04, c05, c06, c07, c08, c09, c0a⟩ := op_cells r6
      clear r1 r2 r3 r4 r5 r6 hv1 hv2 hD hm0 hm1 hm2 hm3 i1 i2
      go_wp2_with fail
      go_region_law (go_simp; go_at_call 34
                     refine (D.out _ ((Below.refl wr.heap.size wr).drew)).mono ?_
                     rintro e w6 ⟨rfl, b6⟩)
      all_goals go_wp2_with fail
      all_goals exact ⟨⟨j + 1, by omega, int_eq (by omega), hb.trans ((((Below.refl wr.heap.size wr).drew).trans (b6.mono (Nat.le_refl _))).mono hb.size)⟩, by simp [intOf]; omega⟩
    · obtain rfl : j = no := by omega
      have hkn : ¬ (j : Int) < (j : Int) := by omega
      go_wp2_with fail
      go_ret
      exact ⟨rfl, HB2.out.trans (hb.mono HB2.out.size)⟩
end Go.Proofs.YtdilgmokiclfaaaDoor
