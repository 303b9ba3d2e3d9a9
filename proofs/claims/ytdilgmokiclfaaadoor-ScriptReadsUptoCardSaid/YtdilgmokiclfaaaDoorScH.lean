/- Chapter 24: the reference's Right; a plain plan. -/
import Derived.Test.YtdilgmokiclfaaaDoorScG
namespace Go.Proofs.YtdilgmokiclfaaaDoor
open Go.RowKit
set_option linter.unusedVariables false
set_option maxRecDepth 100000

def RrRel (es : List OpE) (B : Nat) (w : World) (i : Value) (wr : World) : Prop :=
  ∃ k : Nat, k ≤ es.length ∧ i = .int .i64 (k : Int) ∧ (∀ x ∈ es.take k, opOk x.d = true) ∧ Below B w wr
theorem plOk_o {p : PlD} (h : (p.os.all fun e => opOk e.d) = false) : plOk p = false := by
  unfold plOk; rw [h, Bool.and_false]
theorem plOk_t {p : PlD} (h : ltB p.tau rN = false) : plOk p = false := by
  unfold plOk
  have : ([p.tau].all fun x => ltB x rN) = false := by simp [h]
  rw [this]; simp only [Bool.and_false, Bool.false_and]
theorem plOk_b {p : PlD} (h : (p.bs.all fun x => ltB x rN) = false) : plOk p = false := by
  unfold plOk
  rw [h]; simp only [Bool.and_false, Bool.false_and]
theorem plOk_i {p : PlD} (h : (p.is.all fun x => ltB x rN) = false) : plOk p = false := by
  unfold plOk
  rw [h]; simp only [Bool.and_false, Bool.false_and]
theorem plOk_n {p : PlD} (h : ¬ (p.bs.length = 11 ∧ p.is.length ≤ 64 ∧ p.os.length ≤ 400)) : plOk p = false := by
  unfold plOk
  rw [decide_eq_false h]; simp only [Bool.false_and]
set_option maxHeartbeats 4000000 in
/-- ref.Right -/
theorem rright_any (p : PlD) (w : World) (H : PlIn w p) :
    Calls Tryd.prog 12 #[.agg (plV p)] w fun e w' => e = .returned (.bool (plOk p)) ∧ Below w.heap.size w w' := by
  obtain ⟨tau, BA, bc, bs, OA, oc, os, IA, ic, is⟩ := p
  obtain ⟨hk, HB, HO, HI⟩ := H
  dsimp only [plV] at *
  obtain ⟨pl, hpl⟩ : ∃ x : PlD, x = ⟨tau, BA, bc, bs, OA, oc, os, IA, ic, is⟩ := ⟨_, rfl⟩
  rw [← hpl]
  have Hpl := Lib.hid hpl
  clear hpl
  generalize hr : plOk _ = R
  have HR := Lib.hid hr
  clear hr
  obtain ⟨no, hno⟩ : ∃ x, x = os.length := ⟨_, rfl⟩
  rw [← hno] at HO ⊢
  have Hno := Lib.hid hno
  clear hno
  obtain ⟨nb, hnb⟩ : ∃ x, x = bs.length := ⟨_, rfl⟩
  rw [← hnb] at HB ⊢
  have Hnb := Lib.hid hnb
  clear hnb
  obtain ⟨ni, hni⟩ : ∃ x, x = is.length := ⟨_, rfl⟩
  rw [← hni] at HI ⊢
  have Hni := Lib.hid hni
  clear hni
  have x0 := Bk.new w 28 #[.int .u64 (nth (fl tau) 0 : Nat), .int .u64 (nth (fl tau) 1 : Nat), .int .u64 (nth (fl tau) 2 : Nat), .int .u64 (nth (fl tau) 3 : Nat), .slice BA nb bc, .slice OA no oc, .slice IA ni ic]
  have b0 := (Below.refl w.heap.size w).alloc (Nat.le_refl _) (.cells #[.int .u64 (nth (fl tau) 0 : Nat), .int .u64 (nth (fl tau) 1 : Nat), .int .u64 (nth (fl tau) 2 : Nat), .int .u64 (nth (fl tau) 3 : Nat), .slice BA nb bc, .slice OA no oc, .slice IA ni ic] 28)
  have HHB := Lib.hid HB
  have HHO := Lib.hid (HO.bel b0)
  have HHI := Lib.hid HI
  have hns := HO.lim
  have hnc := HO.cap
  unfold maxLen at hnc
  clear HB HO HI
  have hcl : Tryd.prog.cellsOf 55 = 11 := by kernel_rfl
  have D3 : Hid (∀ W, Calls Tryd.prog 36 #[.agg #[.int .u64 (nth (fl tau) 0 : Nat), .int .u64 (nth (fl tau) 1 : Nat), .int .u64 (nth (fl tau) 2 : Nat), .int .u64 (nth (fl tau) 3 : Nat)]] W fun e w' => e = .returned (.bool (ltB tau rN)) ∧ Below W.heap.size W w') := Lib.hid (fun W => rless24_any tau W hk)
  go_enter Tryd.func12, Tryd.ntmps12
  go_upto_region 1 with fail
  generalize w.alloc (.cells #[.int .u64 (nth (fl tau) 0 : Nat), .int .u64 (nth (fl tau) 1 : Nat), .int .u64 (nth (fl tau) 2 : Nat), .int .u64 (nth (fl tau) 3 : Nat), .slice BA nb bc, .slice OA no oc, .slice IA ni ic] 28) = W1 at *
  have c5 := x0.cell (i := 5) rfl
  go_wp2_with fail
  have Hx := Lib.hid x0
  have Hb := Lib.hid b0
  clear x0 b0 c5
  go_loopw [8] (RrRel os W1.heap.size W1) (fun i _ => no - (intOf i).toNat)
  case atStart => exact ⟨0, Nat.zero_le _, rfl, by simp, Below.refl _ _⟩
  case round =>
    obtain ⟨k, hk2, rfl, hall, hb⟩ := hrel
    have Hall := Lib.hid hall
    clear hall
    rcases Nat.lt_or_ge k os.length with hlt | hge
    · obtain ⟨b, off, rfl, hbl, hrow⟩ := HHO.out.at hlt
      have hkn : (k : Int) < (no : Int) := by have := Hno.out; omega
      have R := rangeAt_bel hrow hb hbl
      have Hz := Lib.hid (take_succ_get hlt)
      have Hin := Lib.hid ((HHO.out.ok _ (List.getElem_mem hlt)).bel hb)
      have Hm := Lib.hid (List.getElem_mem hlt)
      clear hrow
      generalize os[k] = z at *
      have hb2 := hb.alloc hb.size (.cells z.v 55)
      have y0 := Bk.new wr 55 z.v
      have Hi2 := Lib.hid (Hin.out.bel ((Below.refl wr.heap.size wr).alloc (Nat.le_refl _) (.cells z.v 55)))
      have D1 := Lib.hid (fun W (h : OpIn W z) => rop_any z.d z.KA z.kc z.VA z.vc W h.k h.ks h.vs)
      have hv : opV' z.d z.KA z.kc z.VA z.vc = z.v := rfl
      rw [hv] at D1
      clear hv
      go_upto_region 4 with (first
        | refine wpList_load_mid rfl 55 (.tmp 10) rfl b (off + k * 11) rfl _ _ R Tryd.underlying55 rfl (by kernel_rfl) ?_
        | refine wpList_store_newC rfl 55 (.tmp 4) (.tmp 11) rfl z.v wr.heap.size rfl rfl rfl 55 _ (by kernel_rfl) (by kernel_rfl) (by kernel_rfl) ?_)
      generalize hWd : wr.alloc (.cells z.v 55) = W2 at *
      clear hWd
      go_wp2_with (refine wpList_load_row rfl 55 (.tmp 4) rfl wr.heap.size rfl 55 _ (0, 0) _ y0 Tryd.underlying55 rfl (by kernel_rfl) ?_)
      refine (D1.out W2 Hi2.out).mono ?_
      rintro e w3 ⟨rfl, b3⟩
      have hb3 := hb2.trans (b3.mono hb2.size)
      cases hz : opOk z.d with
      | true =>
        go_wp2_with fail
        have hR : RrRel os W1.heap.size W1 (.int .i64 ((k : Int) + 1)) w3 := ⟨k + 1, by omega, int_eq (by omega), fun x hx => by
          rw [Hz.out, List.mem_append] at hx
          rcases hx with hx | hx
          · exact Hall.out x hx
          · rw [List.mem_singleton.1 hx]; exact hz, hb3⟩
        first
          | exact ⟨hR, by simp [intOf]; omega⟩
          | exact ⟨⟨_, _, _, _, _, _, _, _, _, _, hR, rfl⟩, by simp [intOf]; omega⟩
      | false =>
        have Gz := Lib.hid hz
        clear hz
        go_wp2_with fail
        go_ret
        exact ⟨by rw [← HR.out, Hpl.out, plOk_o (p := ⟨tau, BA, bc, bs, some ⟨b, off, none⟩, oc, os, IA, ic, is⟩) (List.all_eq_false.2 ⟨z, Hm.out, by rw [Gz.out]; decide⟩)]; rfl, Hb.out.trans (hb3.mono Hb.out.size)⟩
    · have hkn : ¬ (k : Int) < (no : Int) := by have := Hno.out; omega
      have hall : (os.all fun e => opOk e.d) = true := by
        rw [List.all_eq_true]; intro x hx
        have := Hall.out; rw [List.take_of_length_le (by omega)] at this
        exact this x hx
      have Q4 := Lib.hid hall
      clear hall
      have x1 := Hx.out.bel hb
      have b1 := Hb.out.trans (hb.mono Hb.out.size)
      have c0 := x1.cell (i := 0) rfl
      have c1 := x1.cell (i := 1) rfl
      have c2 := x1.cell (i := 2) rfl
      have c3 := x1.cell (i := 3) rfl
      clear hb
      go_wp2_with fail
      refine (D3.out _).mono ?_
      rintro e w2 ⟨rfl, b2⟩
      have b2' := b1.trans (b2.mono b1.size)
      have x2 := x1.bel b2
      clear b2 x1 b1 c0 c1 c2 c3
      have c4 := x2.cell (i := 4) rfl
      have c5 := x2.cell (i := 5) rfl
      have c6 := x2.cell (i := 6) rfl
      cases h1 : ltB tau rN with
      | false =>
        have G1 := Lib.hid h1
        clear h1
        go_wp2_with fail
        go_ret
        exact ⟨by rw [← HR.out, Hpl.out, plOk_t (p := ⟨tau, BA, bc, bs, OA, oc, os, IA, ic, is⟩) G1.out]; rfl, b2'⟩
      | true =>
      have G1 := Lib.hid h1
      clear h1
      by_cases hb11 : nb = 11
      case neg =>
        have q11 : (((nb : Nat) : Int) == 11) = false := beq_eq_false_iff_ne.2 (by omega)
        have G2 := Lib.hid hb11
        clear hb11
        go_wp2_with fail
        go_ret
        exact ⟨by rw [← HR.out, Hpl.out, plOk_n (p := ⟨tau, BA, bc, bs, OA, oc, os, IA, ic, is⟩) (by have := G2.out; have := Hnb.out; simp only; omega)]; rfl, b2'⟩
      have q11 : (((nb : Nat) : Int) == 11) = true := by simp [hb11]
      have G2 := Lib.hid hb11
      clear hb11
      go_wp2_with fail
      refine (rall_any BA nb bc bs w2 (HHB.out.bel b2')).mono ?_
      rintro e w3 ⟨rfl, b3⟩
      have b3' := b2'.trans (b3.mono b2'.size)
      have x3 := x2.bel b3
      clear b3 x2 b2' c4 c5 c6
      have c5 := x3.cell (i := 5) rfl
      have c6 := x3.cell (i := 6) rfl
      generalize h3 : bs.all (fun x => ltB x rN) = q3
      have G3 := Lib.hid h3
      clear h3
      cases q3 with
      | false =>
        go_wp2_with fail
        go_ret
        exact ⟨by rw [← HR.out, Hpl.out, plOk_b (p := ⟨tau, BA, bc, bs, OA, oc, os, IA, ic, is⟩) G3.out]; rfl, b3'⟩
      | true =>
      by_cases hi64 : (ni : Int) ≤ 64
      case neg =>
        have G4 := Lib.hid hi64
        go_wp2_with fail
        go_ret
        exact ⟨by rw [← HR.out, Hpl.out, plOk_n (p := ⟨tau, BA, bc, bs, OA, oc, os, IA, ic, is⟩) (by have := G4.out; have := Hni.out; simp only; omega)]; rfl, b3'⟩
      have G4 := Lib.hid hi64
      go_wp2_with fail
      refine (rall_any IA ni ic is w3 (HHI.out.bel b3')).mono ?_
      rintro e w4 ⟨rfl, b4⟩
      have b4' := b3'.trans (b4.mono b3'.size)
      have x4 := x3.bel b4
      clear b4 x3 b3' c5 c6 hi64
      have c5 := x4.cell (i := 5) rfl
      generalize h4 : is.all (fun x => ltB x rN) = q4
      have G5 := Lib.hid h4
      clear h4
      cases q4 with
      | false =>
        go_wp2_with fail
        go_ret
        exact ⟨by rw [← HR.out, Hpl.out, plOk_i (p := ⟨tau, BA, bc, bs, OA, oc, os, IA, ic, is⟩) G5.out]; rfl, b4'⟩
      | true =>
      by_cases ho : (no : Int) ≤ 400
      case neg =>
        have G6 := Lib.hid ho
        clear ho
        go_wp2_with fail
        go_ret
        refine ⟨?_, b4'⟩
        rw [← HR.out, Hpl.out, plOk_n (p := ⟨tau, BA, bc, bs, OA, oc, os, IA, ic, is⟩) (by have := G6.out; have := Hno.out; simp only; omega), decide_eq_false (Int.not_le.2 G6.out)]
        rfl
      have G6 := Lib.hid ho
      clear ho
      go_wp2_with fail
      go_ret
      refine ⟨?_, b4'⟩
      have hpk : plOk ⟨tau, BA, bc, bs, OA, oc, os, IA, ic, is⟩ = true := by
        have q1 : bs.length = 11 ∧ is.length ≤ 64 ∧ os.length ≤ 400 := by
          have := G6.out; have := Hno.out; have := G4.out; have := Hni.out; have := G2.out; have := Hnb.out; omega
        have q2 : ([tau].all fun x => ltB x rN) = true := by simp [G1.out]
        unfold plOk
        simp only
        rw [G3.out, G5.out, Q4.out, q2, decide_eq_true q1]
        rfl
      rw [← HR.out, Hpl.out, hpk, decide_eq_true G6.out]
      rfl
theorem info_fr : (Tryd.prog.info? 24).map (fun i => (i.zero, i.size, i.bytes)) = some (some (.agg #[.int .u64 0, .int .u64 0, .int .u64 0, .int .u64 0]), 4, 32) := by kernel_rfl
theorem mk11 (w : World) :
    (Instr.makeSlice 25 (.int .i64 11) (.int .i64 11)).run Tryd.prog w = .ok (.slice (some ⟨w.heap.size, 0, none⟩) 11 11) (w.alloc (.cells (lim .u64 (List.replicate 44 0)) 24)) := by
  obtain ⟨i0, hi, hz0, hz1, hz2⟩ := info_parts info_fr
  have h := run_make (P := Tryd.prog) w 25 24 i0 _ Tryd.underlying25 hi hz0 .i64 .i64 11 11 (by omega) (by omega) (by rw [hz2]; omega) (by omega)
  have e : madeCells (Value.agg #[.int .u64 0, .int .u64 0, .int .u64 0, .int .u64 0]).cells 44 = lim .u64 (List.replicate 44 0) := by kernel_rfl
  rw [hz1] at h
  rw [← e]
  exact h
theorem frs_zeros (w : World) : FrS (w.alloc (.cells (lim .u64 (List.replicate 44 0)) 24)) (some ⟨w.heap.size, 0, none⟩) 11 11 (List.replicate 11 0) := by
  have h := Bk.new w 24 (lim .u64 (List.replicate 44 0))
  refine ⟨rfl, Nat.le_refl _, by decide, fun x hx => by rw [List.eq_of_mem_replicate hx]; decide, fun _ => ⟨w.heap.size, 0, rfl, h.lt, fun i hi j v hv => ?_⟩⟩
  have hi' : i < 11 := by rw [List.length_map, List.length_replicate] at hi; exact hi
  rw [List.getElem_map, List.getElem_replicate] at hv
  have hj : j < 4 := by
    rcases Nat.lt_or_ge j 4 with h | h
    · exact h
    · rw [List.getElem?_eq_none (by rw [frC_len]; exact h)] at hv; cases hv
  have hv' : v = .int .u64 0 := by
    have : j = 0 ∨ j = 1 ∨ j = 2 ∨ j = 3 := by omega
    rcases this with rfl | rfl | rfl | rfl <;> (have e : some (Value.int .u64 0) = some v := hv; exact (Option.some.inj e).symm)
  subst hv'
  refine h.cell ?_
  have h44 : (0 + i * 4 + j) < 44 := by omega
  show (lim .u64 (List.replicate 44 0))[0 + i * 4 + j]? = _
  unfold lim
  rw [List.getElem?_toArray, List.getElem?_map, List.getElem?_replicate, if_pos h44]
  rfl
set_option maxHeartbeats 1000000 in
/-- plain -/
theorem plain_any (w : World) : Calls Tryd.prog 23 #[] w fun e w' => ∃ p : PlD, e = .returned (.agg (plV p)) ∧ PlIn w' p ∧ plOk p = true ∧ Below w.heap.size w w' := by
  have hmk := mk11
  have x0 := (Bk.new w 28 #[.int .u64 0, .int .u64 0, .int .u64 0, .int .u64 0, .slice none 0 0, .slice none 0 0, .slice none 0 0]).alloc (.cells (lim .u64 (List.replicate 44 0)) 24)
  have b0 := (Below.refl w.heap.size w).alloc (Nat.le_refl _) (.cells #[.int .u64 0, .int .u64 0, .int .u64 0, .int .u64 0, .slice none 0 0, .slice none 0 0, .slice none 0 0] 28)
  have b1 := b0.alloc b0.size (.cells (lim .u64 (List.replicate 44 0)) 24)
  have F := Lib.hid (frs_zeros (w.alloc (.cells #[.int .u64 0, .int .u64 0, .int .u64 0, .int .u64 0, .slice none 0 0, .slice none 0 0, .slice none 0 0] 28)))
  go_enter Tryd.func23, Tryd.ntmps23
  go_wp2_with (first
    | refine wpList_build_to rfl 28 _ rfl #[.int .u64 0, .int .u64 0, .int .u64 0, .int .u64 0, .slice (some ⟨w.heap.size + 1, 0, none⟩) 11 11, .slice none 0 0, .slice none 0 0] (by kernel_rfl) ?_
    | refine wpList_store_row rfl 28 (.tmp 0) (.tmp 2) rfl w.heap.size #[.int .u64 0, .int .u64 0, .int .u64 0, .int .u64 0, .slice (some ⟨w.heap.size + 1, 0, none⟩) 11 11, .slice none 0 0, .slice none 0 0] rfl rfl 28 _ x0 (by kernel_rfl) (by kernel_rfl) (by kernel_rfl) ?_)
  have hne : w.heap.size ≠ w.heap.size + 1 := by omega
  have y0 := setRow_heap _ w.heap.size _ #[.int .u64 0, .int .u64 0, .int .u64 0, .int .u64 0, .slice (some ⟨w.heap.size + 1, 0, none⟩) 11 11, .slice none 0 0, .slice none 0 0] 28 (0, 0) x0
  refine bodyPost_ret (results_cell_row rfl _ _ w.heap.size 28 _ (0, 0) _ rfl y0 Tryd.underlying28 rfl (by kernel_rfl)) rfl ?_
  refine ⟨⟨0, some ⟨w.heap.size + 1, 0, none⟩, 11, List.replicate 11 0, none, 0, [], none, 0, []⟩, by kernel_rfl, ⟨(by decide : 0 < pw 4), ?_, ?_, ?_⟩, (by unfold plOk; simp only; kernel_rfl), below_setRow b1 (Nat.le_refl _) _⟩
  · have f := F.out
    rw [World.size_alloc] at f
    refine ⟨f.1, f.2, f.3, f.4, fun hp => ?_⟩
    obtain ⟨b, off, e, h1, h2⟩ := f.5 hp
    cases e
    refine ⟨_, _, rfl, by simp, fun i hi j v hv => ?_⟩
    rw [cell_setRow_other _ _ _ _ (by simp)]
    exact h2 i hi j v hv
  · exact ⟨rfl, Nat.le_refl _, Nat.zero_le _, (fun e he => by cases he), (fun hp => absurd hp (Nat.lt_irrefl 0))⟩
  · exact ⟨rfl, Nat.le_refl _, Nat.zero_le _, (fun e he => by cases he), (fun hp => absurd hp (Nat.lt_irrefl 0))⟩
set_option maxHeartbeats 1000000 in
/-- alive -/
theorem alive24_any (w : World) : Calls Tryd.prog 8 #[] w fun e w' => e = .returned (.bool true) ∧ Below w.heap.size w w' := by
  have D1 := Lib.hid (plain_any)
  have D2 := Lib.hid (sright_any)
  go_enter Tryd.func8, Tryd.ntmps8
  go_wp2_with fail
  refine (D1.out _).mono ?_
  rintro e w1 ⟨p, rfl, hp, hok, b1⟩
  have Hp := Lib.hid hp
  have Hok := Lib.hid hok
  clear hp hok
  go_wp2_with fail
  refine (D2.out p _ Hp.out).mono ?_
  rintro e w2 ⟨rfl, b2⟩
  go_wp2_with fail
  go_ret
  exact ⟨by rw [Hok.out]; rfl, b1.trans (b2.mono b1.size)⟩
end Go.Proofs.YtdilgmokiclfaaaDoor
