/- Chapter 24: a slice of operations; Right. -/
import Derived.Test.YtdilgmokiclfaaaDoorScE
namespace Go.Proofs.YtdilgmokiclfaaaDoor
open Go.RowKit
set_option linter.unusedVariables false
set_option maxRecDepth 100000

/-- An operation in a slice, with the places of its lists. -/
structure OpE where
  d : OpD
  KA : Option Addr
  kc : Nat
  VA : Option Addr
  vc : Nat
def OpE.v (e : OpE) : Array Value := opV' e.d e.KA e.kc e.VA e.vc
structure OpIn (w : World) (e : OpE) : Prop where
  k : e.d.k < pw 4
  ks : FrS w e.KA e.d.ks.length e.kc e.d.ks
  vs : IntS w e.VA e.d.vs.length e.vc e.d.vs
theorem OpIn.bel {w w' : World} {e : OpE} (h : OpIn w e) (hb : Below w.heap.size w w') : OpIn w' e := ⟨h.1, h.2.bel hb, h.3.bel hb⟩
structure OpsS (w : World) (A : Option Addr) (n c : Nat) (es : List OpE) : Prop where
  len : es.length = n
  lim : n ≤ c
  cap : c ≤ maxLen
  ok : ∀ e ∈ es, OpIn w e
  row : Rws w A 11 (es.map fun e => e.v.toList)
theorem OpsS.bel {w w' : World} {A : Option Addr} {n c : Nat} {es : List OpE} (h : OpsS w A n c es) (hb : Below w.heap.size w w') : OpsS w' A n c es := ⟨h.1, h.2, h.3, fun e he => (h.4 e he).bel hb, h.5.bel hb⟩
theorem OpsS.at {w : World} {A : Option Addr} {n c i : Nat} {es : List OpE} (h : OpsS w A n c es) (hi : i < es.length) : ∃ b off, A = some ⟨b, off, none⟩ ∧ b < w.heap.size ∧ w.rangeAt b (off + i * 11) es[i].v.toList := by
  obtain ⟨b, off, h1, h2, h3⟩ := h.row (by simp; omega)
  exact ⟨b, off, h1, h2, by have := h3 i (by simpa using hi); simpa using this⟩
theorem opE_arr (e : OpE) : e.v.toList.toArray = e.v := by simp

set_option maxHeartbeats 1000000 in
/-- Right's closure -/
theorem right1_any (o : OpE) (w : World) (H : OpIn w o) :
    Calls Tryd.prog 26 #[.agg o.v] w fun e w' => e = .returned (.bool (!opOk o.d)) ∧ Below w.heap.size w w' := by
  have b0 := (Below.refl w.heap.size w).alloc (Nat.le_refl _) (.cells o.v 55)
  have D1 := Lib.hid (op_any o.d o.KA o.kc o.VA o.vc (w.alloc (.cells o.v 55)) H.k (H.ks.bel b0) (H.vs.bel b0))
  have x0 := Bk.new w 55 o.v
  have hv : o.v = opV o.d.t o.d.a o.d.b o.d.c o.d.n (nth (fl o.d.k) 0) (nth (fl o.d.k) 1) (nth (fl o.d.k) 2) (nth (fl o.d.k) 3) o.KA o.d.ks.length o.kc o.VA o.d.vs.length o.vc := rfl
  rw [hv] at *
  clear hv
  go_enter Tryd.func26, Tryd.ntmps26
  go_upto_region 1 with fail
  go_wp2_with (refine wpList_load_row rfl 55 (.tmp 1) rfl w.heap.size rfl 55 _ (0, 0) _ x0 Tryd.underlying55 rfl (by kernel_rfl) ?_)
  refine (D1.out).mono ?_
  rintro e w1 ⟨rfl, b1⟩
  go_wp2_with fail
  go_ret
  exact ⟨rfl, b0.trans (b1.mono b0.size)⟩
def IxOp (es : List OpE) (w : World) (i : Value) (wr : World) : Prop :=
  ∃ k : Nat, k ≤ es.length ∧ i = .int .i64 (k : Int) ∧ (∀ x ∈ es.take k, opOk x.d = true) ∧ Below w.heap.size w wr
set_option maxHeartbeats 1000000 in
/-- slices.IndexFunc with Right's closure -/
theorem ixop_any (A : Option Addr) (n c : Nat) (es : List OpE) (w : World) (H : OpsS w A n c es) :
    Calls Tryd.prog 52 #[.slice A n c, .func (.func 26) #[] #[]] w fun e w' => ∃ r : Int, e = .returned (.int .i64 r) ∧ decide (0 ≤ r) = !(es.all fun x => opOk x.d) ∧ Below w.heap.size w w' := by
  have hcl : Tryd.prog.cellsOf 55 = 11 := by kernel_rfl
  have hlen := Lib.hid H.len
  have H' := Lib.hid H
  have hn := H.lim
  have hc := H.cap
  unfold maxLen at hc
  clear H
  go_enter Tryd.func52, Tryd.ntmps52
  go_wp2_with fail
  go_loopw [8] (IxOp es w) (fun i _ => n - (intOf i).toNat)
  case atStart => exact ⟨0, Nat.zero_le _, rfl, by simp, Below.refl _ _⟩
  case round =>
    obtain ⟨k, hk, rfl, hall, hb⟩ := hrel
    have Hall := Lib.hid hall
    clear hall
    rcases Nat.lt_or_ge k es.length with hlt | hge
    · obtain ⟨b, off, rfl, hbl, hrow⟩ := H'.out.at hlt
      have hkn : (k : Int) < (n : Int) := by have := hlen.out; omega
      have R := rangeAt_bel hrow hb hbl
      have Hz := Lib.hid (take_succ_get hlt)
      have D := Lib.hid (right1_any es[k])
      have Hin := Lib.hid ((H'.out.ok _ (List.getElem_mem hlt)).bel hb)
      have Hm := Lib.hid (List.getElem_mem hlt)
      clear hrow
      generalize es[k] = z at *
      go_wp2_with (refine wpList_load_mid rfl 55 (.tmp 14) rfl b (off + k * 11) rfl z.v.toList _ R Tryd.underlying55 rfl (by kernel_rfl) ?_)
      refine (D.out _ Hin.out).mono ?_
      rintro e w1 ⟨rfl, b1⟩
      by_cases hz : opOk z.d = true
      · rw [hz]
        go_wp2_with fail
        refine ⟨⟨k + 1, by omega, int_eq (by omega), fun x hx => ?_, hb.trans (b1.mono hb.size)⟩, by simp [intOf]; omega⟩
        rw [Hz.out, List.mem_append] at hx
        rcases hx with hx | hx
        · exact Hall.out x hx
        · rw [List.mem_singleton.1 hx]; exact hz
      · have hz' : opOk z.d = false := by simpa using hz
        rw [hz']
        go_wp2_with fail
        go_ret
        refine ⟨k, rfl, ?_, hb.trans (b1.mono hb.size)⟩
        have : es.all (fun x => opOk x.d) = false := by
          rw [List.all_eq_false]
          exact ⟨z, Hm.out, hz⟩
        rw [this]; simp
    · have hkn : ¬ (k : Int) < (n : Int) := by have := hlen.out; omega
      have hall : es.all (fun x => opOk x.d) = true := by
        rw [List.all_eq_true]; intro x hx
        have := Hall.out; rw [List.take_of_length_le (by omega)] at this
        exact this x hx
      have Hall2 := Lib.hid hall
      clear hall
      go_wp2_with fail
      go_ret
      exact ⟨-1, rfl, by rw [Hall2.out]; rfl, hb⟩
/-- slices.ContainsFunc with Right's closure -/
theorem coop_any (A : Option Addr) (n c : Nat) (es : List OpE) (w : World) (H : OpsS w A n c es) :
    Calls Tryd.prog 25 #[.slice A n c, .func (.func 26) #[] #[]] w fun e w' => e = .returned (.bool !(es.all fun x => opOk x.d)) ∧ Below w.heap.size w w' := by
  have D := Lib.hid (ixop_any A n c es w H)
  go_enter Tryd.func25, Tryd.ntmps25
  go_wp2_with fail
  refine (D.out).mono ?_
  rintro e w1 ⟨r, rfl, hr, b1⟩
  go_wp2_with fail
  go_ret
  exact ⟨by rw [← hr]; rfl, b1⟩

/-- A plan in memory. -/
structure PlD where
  tau : Nat
  BA : Option Addr
  bc : Nat
  bs : List Nat
  OA : Option Addr
  oc : Nat
  os : List OpE
  IA : Option Addr
  ic : Nat
  is : List Nat
def plV (p : PlD) : Array Value :=
  #[.int .u64 (nth (fl p.tau) 0 : Nat), .int .u64 (nth (fl p.tau) 1 : Nat), .int .u64 (nth (fl p.tau) 2 : Nat), .int .u64 (nth (fl p.tau) 3 : Nat), .slice p.BA p.bs.length p.bc, .slice p.OA p.os.length p.oc, .slice p.IA p.is.length p.ic]
structure PlIn (w : World) (p : PlD) : Prop where
  t : p.tau < pw 4
  b : FrS w p.BA p.bs.length p.bc p.bs
  o : OpsS w p.OA p.os.length p.oc p.os
  i : FrS w p.IA p.is.length p.ic p.is
theorem PlIn.bel {w w' : World} {p : PlD} (h : PlIn w p) (hb : Below w.heap.size w w') : PlIn w' p := ⟨h.1, h.2.bel hb, h.3.bel hb, h.4.bel hb⟩
def plOk (p : PlD) : Bool :=
  decide (p.bs.length = 11 ∧ p.is.length ≤ 64 ∧ p.os.length ≤ 400) && ([p.tau].all fun x => ltB x rN) && (p.bs.all fun x => ltB x rN) && (p.is.all fun x => ltB x rN) && (p.os.all fun e => opOk e.d)
set_option maxHeartbeats 4000000 in
/-- script.Right -/
theorem sright_any (p : PlD) (w : World) (H : PlIn w p) :
    Calls Tryd.prog 9 #[.agg (plV p)] w fun e w' => e = .returned (.bool (plOk p)) ∧ Below w.heap.size w w' := by
  obtain ⟨tau, BA, bc, bs, OA, oc, os, IA, ic, is⟩ := p
  obtain ⟨hk, HB, HO, HI⟩ := H
  dsimp only [plV] at *
  have hr : plOk ⟨tau, BA, bc, bs, OA, oc, os, IA, ic, is⟩ = (decide (bs.length = 11 ∧ is.length ≤ 64 ∧ os.length ≤ 400) && ([tau].all fun x => ltB x rN) && (bs.all fun x => ltB x rN) && (is.all fun x => ltB x rN) && (os.all fun e => opOk e.d)) := rfl
  generalize plOk _ = R at *
  have HR := Lib.hid hr
  clear hr
  have x0 := Bk.new w 28 #[.int .u64 (nth (fl tau) 0 : Nat), .int .u64 (nth (fl tau) 1 : Nat), .int .u64 (nth (fl tau) 2 : Nat), .int .u64 (nth (fl tau) 3 : Nat), .slice BA bs.length bc, .slice OA os.length oc, .slice IA is.length ic]
  have b0 := (Below.refl w.heap.size w).alloc (Nat.le_refl _) (.cells #[.int .u64 (nth (fl tau) 0 : Nat), .int .u64 (nth (fl tau) 1 : Nat), .int .u64 (nth (fl tau) 2 : Nat), .int .u64 (nth (fl tau) 3 : Nat), .slice BA bs.length bc, .slice OA os.length oc, .slice IA is.length ic] 28)
  have HHB := Lib.hid HB
  have HHO := Lib.hid HO
  have HHI := Lib.hid HI
  clear HB HO HI
  go_enter Tryd.func9, Tryd.ntmps9
  go_upto_region 1 with fail
  generalize w.alloc (.cells #[.int .u64 (nth (fl tau) 0 : Nat), .int .u64 (nth (fl tau) 1 : Nat), .int .u64 (nth (fl tau) 2 : Nat), .int .u64 (nth (fl tau) 3 : Nat), .slice BA bs.length bc, .slice OA os.length oc, .slice IA is.length ic] 28) = W1 at *
  have c0 := x0.cell (i := 0) rfl
  have c1 := x0.cell (i := 1) rfl
  have c2 := x0.cell (i := 2) rfl
  have c3 := x0.cell (i := 3) rfl
  have c4 := x0.cell (i := 4) rfl
  have c5 := x0.cell (i := 5) rfl
  have c6 := x0.cell (i := 6) rfl
  by_cases hb : bs.length = 11
  case neg =>
    have qb : (((bs.length : Nat) : Int) != 11) = true := bne_iff_ne.2 (by omega)
    have Gb := Lib.hid hb
    clear hb
    go_wp2_with fail
    go_ret
    exact ⟨by rw [HR.out, decide_eq_false (by have := Gb.out; omega)]; rfl, b0⟩
  have qb : (((bs.length : Nat) : Int) != 11) = false := by simp [hb]
  have Gb := Lib.hid hb
  clear hb
  by_cases hi : (64 : Int) < ((is.length : Nat) : Int)
  case pos =>
    have Gi := Lib.hid hi
    go_wp2_with fail
    go_ret
    exact ⟨by rw [HR.out, decide_eq_false (by have := Gi.out; omega)]; rfl, b0⟩
  by_cases ho : (400 : Int) < ((os.length : Nat) : Int)
  case pos =>
    have Go := Lib.hid ho
    go_wp2_with fail
    go_ret
    exact ⟨by rw [HR.out, decide_eq_false (by have := Go.out; omega)]; rfl, b0⟩
  have hh : bs.length = 11 ∧ is.length ≤ 64 ∧ os.length ≤ 400 := by have := Gb.out; omega
  have HH := Lib.hid hh
  clear hh
  go_upto_region 3 with fail
  clear hi ho qb
  have b1 := b0.alloc b0.size (.cells #[.int .u64 (nth (fl tau) 0), .int .u64 (nth (fl tau) 1), .int .u64 (nth (fl tau) 2), .int .u64 (nth (fl tau) 3)] 24)
  have x1 := x0.alloc (.cells #[.int .u64 (nth (fl tau) 0), .int .u64 (nth (fl tau) 1), .int .u64 (nth (fl tau) 2), .int .u64 (nth (fl tau) 3)] 24)
  have E2 := Lib.hid (FrS.new1 W1 tau hk)
  go_wp2_with fail
  generalize W1.alloc (.cells #[.int .u64 (nth (fl tau) 0), .int .u64 (nth (fl tau) 1), .int .u64 (nth (fl tau) 2), .int .u64 (nth (fl tau) 3)] 24) = W2 at *
  refine (clean_any _ 1 1 [tau] W2 E2.out).mono ?_
  rintro e w3 ⟨rfl, b3⟩
  generalize hq1 : [tau].all (fun x => ltB x rN) = q1
  have Q1 := Lib.hid hq1
  clear hq1 x0 b0 c0 c1 c2 c3 c4 c5 c6 E2
  have b3' := b1.trans (b3.mono b1.size)
  have x3 := x1.bel b3
  clear x1 b1 b3
  have c4 := x3.cell (i := 4) rfl
  have c5 := x3.cell (i := 5) rfl
  have c6 := x3.cell (i := 6) rfl
  cases q1 with
  | false =>
    go_wp2_with fail
    go_ret
    exact ⟨by rw [HR.out, Q1.out]; simp only [Bool.and_false, Bool.false_and]; rfl, b3'⟩
  | true =>
  go_wp2_with fail
  refine (clean_any BA bs.length bc bs w3 (HHB.out.bel b3')).mono ?_
  rintro e w4 ⟨rfl, b4⟩
  generalize hq2 : bs.all (fun x => ltB x rN) = q2
  have Q2 := Lib.hid hq2
  clear hq2 c4 c5 c6
  have b4' := b3'.trans (b4.mono b3'.size)
  have x4 := x3.bel b4
  clear x3 b3' b4
  have c4 := x4.cell (i := 4) rfl
  have c5 := x4.cell (i := 5) rfl
  have c6 := x4.cell (i := 6) rfl
  cases q2 with
  | false =>
    go_wp2_with fail
    go_ret
    exact ⟨by rw [HR.out, Q2.out]; simp only [Bool.and_false, Bool.false_and]; rfl, b4'⟩
  | true =>
  go_wp2_with fail
  refine (clean_any IA is.length ic is w4 (HHI.out.bel b4')).mono ?_
  rintro e w5 ⟨rfl, b5⟩
  generalize hq3 : is.all (fun x => ltB x rN) = q3
  have Q3 := Lib.hid hq3
  clear hq3 c4 c5 c6
  have b5' := b4'.trans (b5.mono b4'.size)
  have x5 := x4.bel b5
  clear x4 b4' b5
  have c5 := x5.cell (i := 5) rfl
  cases q3 with
  | false =>
    go_wp2_with fail
    go_ret
    exact ⟨by rw [HR.out, Q3.out]; simp only [Bool.and_false, Bool.false_and]; rfl, b5'⟩
  | true =>
  go_wp2_with fail
  refine (coop_any OA os.length oc os w5 (HHO.out.bel b5')).mono ?_
  rintro e w6 ⟨rfl, b6⟩
  have b6' := b5'.trans (b6.mono b5'.size)
  go_wp2_with fail
  go_ret
  exact ⟨by rw [HR.out, Q1.out, Q2.out, Q3.out, decide_eq_true HH.out]; simp, b6'⟩
end Go.Proofs.YtdilgmokiclfaaaDoor
