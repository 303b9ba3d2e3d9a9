/- Chapter 24: the reference's Op and Right. -/
import Derived.Test.YtdilgmokiclfaaaDoorScF
namespace Go.Proofs.YtdilgmokiclfaaaDoor
open Go.RowKit
set_option linter.unusedVariables false
set_option maxRecDepth 100000

theorem ok_h1 {o : OpD} (h : ((decide (0 < namesN o.t) || o.a == 0) && (decide (1 < namesN o.t) || o.b == 0) && (decide (2 < namesN o.t) || o.c == 0)) = false) : opOk o = false := by
  have : headOk o = false := by
    unfold headOk
    simp only [Bool.and_assoc] at h ⊢
    cases e1 : decide (1 ≤ o.t ∧ o.t ≤ 11)
    · rfl
    · rw [Bool.true_and, ← Bool.and_assoc, ← Bool.and_assoc]
      rw [← Bool.and_assoc] at h
      rw [h]; rfl
  unfold opOk
  rw [this]; rfl
theorem ok_h2 {o : OpD} (h : ((o.t == 10 || o.n == 0) && (o.t == 3 || o.k == 0)) = false) : opOk o = false := by
  have : headOk o = false := by
    unfold headOk
    rcases Bool.and_eq_false_iff.1 h with h | h <;> rw [h] <;> simp only [Bool.and_false, Bool.false_and]
  unfold opOk
  rw [this]; rfl
theorem head_h {o : OpD} (h0 : 1 ≤ o.t ∧ o.t ≤ 11) (h1 : ((decide (0 < namesN o.t) || o.a == 0) && (decide (1 < namesN o.t) || o.b == 0) && (decide (2 < namesN o.t) || o.c == 0)) = true) (h2 : ((o.t == 10 || o.n == 0) && (o.t == 3 || o.k == 0)) = true) :
    headOk o = (if o.t = 6 then decide (1 ≤ o.vs.length ∧ o.vs.length ≤ 64 ∧ o.ks.length = o.vs.length) else o.vs.length == 0 && o.ks.length == 0) := by
  unfold headOk
  rw [Bool.and_eq_true] at h2
  rw [Bool.and_assoc (decide (1 ≤ o.t ∧ o.t ≤ 11)), Bool.and_assoc (decide (1 ≤ o.t ∧ o.t ≤ 11)), h1, decide_eq_true h0, h2.1, h2.2]
  rfl
theorem ok_z {o : OpD} {z : Int} (h : inB z = false) (hz : z ∈ [o.a, o.b, o.c, o.n]) : opOk o = false :=
  ok_q1 (List.all_eq_false.2 ⟨z, hz, by rw [h]; decide⟩)
def RIn (vs : List Int) (W : World) (i : Value) (wr : World) : Prop :=
  ∃ k : Nat, k ≤ vs.length ∧ i = .int .i64 (k : Int) ∧ (∀ x ∈ vs.take k, inB x = true) ∧ wr = W
set_option maxHeartbeats 4000000 in
/-- ref.Op -/
theorem rop_any (o : OpD) (KA : Option Addr) (kc : Nat) (VA : Option Addr) (vc : Nat) (w : World) (hk : o.k < pw 4) (HK : FrS w KA o.ks.length kc o.ks) (HV : IntS w VA o.vs.length vc o.vs) :
    Calls Tryd.prog 35 #[.agg (opV' o KA kc VA vc)] w fun e w' => e = .returned (.bool (opOk o)) ∧ Below w.heap.size w w' := by
  obtain ⟨t, a, b, c, n, k, ks, vs⟩ := o
  dsimp only [opV'] at *
  generalize hr : opOk _ = R
  have HR := Lib.hid hr
  clear hr
  obtain ⟨nk, hnk⟩ : ∃ x, x = ks.length := ⟨_, rfl⟩
  obtain ⟨nv, hnv⟩ : ∃ x, x = vs.length := ⟨_, rfl⟩
  rw [← hnk] at HK ⊢
  rw [← hnv] at HV ⊢
  have Hnk := Lib.hid hnk
  have Hnv := Lib.hid hnv
  have HHK := Lib.hid HK
  have HHV := Lib.hid HV
  clear hnk hnv HK HV
  have D1 := Lib.hid (fun W => rnames_any t W)
  have D2 := Lib.hid (fun W => rword_any t W)
  have x0 := Bk.new w 55 (opV t a b c n (nth (fl k) 0) (nth (fl k) 1) (nth (fl k) 2) (nth (fl k) 3) KA nk kc VA nv vc)
  have b0 := (Below.refl w.heap.size w).alloc (Nat.le_refl _) (.cells (opV t a b c n (nth (fl k) 0) (nth (fl k) 1) (nth (fl k) 2) (nth (fl k) 3) KA nk kc VA nv vc) 55)
  have E4 : ∀ w : World, (Op.equalIn 10000 24 (.agg #[.int .u64 (nth (fl k) 0 : Nat), .int .u64 (nth (fl k) 1 : Nat), .int .u64 (nth (fl k) 2 : Nat), .int .u64 (nth (fl k) 3 : Nat)]) (.agg #[.int .u64 0, .int .u64 0, .int .u64 0, .int .u64 0])).run Tryd.prog w = .ok (decide ([nth (fl k) 0, nth (fl k) 1, nth (fl k) 2, nth (fl k) 3] = [0, 0, 0, 0])) w := eq4 (nth (fl k) 0) (nth (fl k) 1) (nth (fl k) 2) (nth (fl k) 3) 0 0 0 0
  have ek : decide ([nth (fl k) 0, nth (fl k) 1, nth (fl k) 2, nth (fl k) 3] = [0, 0, 0, 0]) = decide (k = 0) := by
    by_cases e : k = 0
    · subst e; decide
    · rw [decide_eq_false e, decide_eq_false]
      intro h
      exact e (fl_inj (a := k) (b := 0) hk (by decide) h)
  rw [ek] at E4
  clear ek
  have D3 : Hid (∀ W, Calls Tryd.prog 36 #[.agg #[.int .u64 (nth (fl k) 0 : Nat), .int .u64 (nth (fl k) 1 : Nat), .int .u64 (nth (fl k) 2 : Nat), .int .u64 (nth (fl k) 3 : Nat)]] W fun e w' => e = .returned (.bool (ltB k rN)) ∧ Below W.heap.size W w') := Lib.hid (fun W => rless24_any k W hk)
  have S1 : (wordB t).toList.isEmpty = !decide (1 ≤ t ∧ t ≤ 11) := by
    rw [← wordB_ne, ← str_beq, ByteArray.toList_eq, ByteArray.toList_eq]
    cases (wordB t).data.toList <;> rfl
  go_enter Tryd.func35, Tryd.ntmps35
  go_upto_region 1 with fail
  generalize (w.alloc (.cells (opV t a b c n (nth (fl k) 0) (nth (fl k) 1) (nth (fl k) 2) (nth (fl k) 3) KA nk kc VA nv vc) 55)) = W1 at *
  obtain ⟨x00, x01, x02, x03, x04, x05, x06, x07, x08, x09, x0a⟩ := opV_c x0
  go_wp2_with fail
  refine (D1.out _).mono ?_
  rintro e w3 ⟨rfl, rfl⟩
  go_upto_region 2 with fail
  by_cases ht : 1 ≤ t ∧ t ≤ 11
  case neg =>
    rw [decide_eq_false ht] at S1
    have HT := Lib.hid ht
    clear ht
    go_wp2_with fail
    refine (D2.out _).mono ?_
    rintro e w4 ⟨rfl, rfl⟩
    go_wp2_with fail
    go_ret
    exact ⟨by rw [← HR.out, ok_t HT.out]; rfl, b0⟩
  rw [decide_eq_true ht] at S1
  have HT := Lib.hid ht
  clear ht
  go_cut [39] from 9 to 39 (fun v W => v = .bool (!((decide (0 < namesN t) || a == 0) && (decide (1 < namesN t) || b == 0) && (decide (2 < namesN t) || c == 0))) ∧ W = w3)
  case first =>
    cases hqa : (a != 0) <;> cases hqb : (b != 0) <;> cases hqc : (c != 0)
    all_goals
      go_wp2_with fail
      refine (D2.out _).mono ?_
      rintro e w4 ⟨rfl, rfl⟩
      go_wp2_with fail
      all_goals go_meet
      all_goals case rel => refine ⟨congrArg Value.bool ?_, rfl⟩; rw [Bool.eq_iff_iff]; simp only [bne_iff_ne, bne_eq_false_iff_eq, ne_eq] at hqa hqb hqc; (first | (simp; done) | (simp; omega))
  case rest =>
    obtain ⟨rfl, rfl⟩ := hcut
    clear S1 D1 D2
    generalize hq1 : ((decide (0 < namesN t) || a == 0) && (decide (1 < namesN t) || b == 0) && (decide (2 < namesN t) || c == 0)) = q1
    have Q1 := Lib.hid hq1
    clear hq1
    cases q1 with
    | false =>
      go_wp2_with fail
      go_ret
      exact ⟨by rw [← HR.out, ok_h1 (o := ⟨t, a, b, c, n, k, ks, vs⟩) Q1.out]; rfl, b0⟩
    | true =>
    go_upto_region 4 with fail
    go_cut [58] from 40 to 58 (fun v W => v = .bool (!((t == 10 || n == 0) && (t == 3 || k == 0))) ∧ W = wc)
    case first =>
      have F := Lib.hid E4
      clear E4
      cases hqa : (t != 10) <;> cases hqb : (n != 0) <;> cases hqc : (t != 3) <;> cases hqd : decide (k = 0)
      all_goals
        have E4 := F.out
        rw [hqd] at E4
        have Hd := Lib.hid hqd
        clear hqd
        go_wp2_with fail
        all_goals go_meet
        all_goals case rel => refine ⟨congrArg Value.bool ?_, rfl⟩; rw [Bool.eq_iff_iff]; have hqd := Hd.out; simp only [bne_iff_ne, bne_eq_false_iff_eq, ne_eq, decide_eq_true_eq, decide_eq_false_iff_not] at hqa hqb hqc hqd; (first | (simp; done) | (simp; omega))
    case rest =>
      obtain ⟨rfl, rfl⟩ := hcut
      generalize hq2 : ((t == 10 || n == 0) && (t == 3 || k == 0)) = q2
      have Q2 := Lib.hid hq2
      clear hq2
      cases q2 with
      | false =>
        go_wp2_with fail
        go_ret
        exact ⟨by rw [← HR.out, ok_h2 (o := ⟨t, a, b, c, n, k, ks, vs⟩) Q2.out]; rfl, b0⟩
      | true =>
      clear E4
      have HH := Lib.hid (head_h (o := ⟨t, a, b, c, n, k, ks, vs⟩) HT.out Q1.out Q2.out)
      go_upto_region 6 with fail
      go_upto_if 61 with fail
      go_cut [] from 61 to 90 (fun W => headOk ⟨t, a, b, c, n, k, ks, vs⟩ = true ∧ Below w.heap.size w W ∧ Bk W w.heap.size 55 (opV t a b c n (nth (fl k) 0) (nth (fl k) 1) (nth (fl k) 2) (nth (fl k) 3) KA nk kc VA nv vc))
      case first =>
        by_cases e : t = 6
        · have qt : (t == 6) = true := by simpa using e
          have HH' : headOk ⟨t, a, b, c, n, k, ks, vs⟩ = decide (1 ≤ nv ∧ nv ≤ 64 ∧ nk = nv) := by rw [Hnk.out, Hnv.out]; exact HH.out.trans (if_pos e)
          have T := Lib.hid e
          clear e
          have HHH := Lib.hid HH'
          clear HH'
          by_cases h1 : ((nv : Nat) : Int) < 1
          · have G1 := Lib.hid h1
            go_wp2_with fail
            go_ret
            exact ⟨by rw [← HR.out]; unfold opOk; rw [HHH.out, decide_eq_false (by have := G1.out; omega)]; simp only [Bool.false_and]; rfl, b0⟩
          · by_cases h2 : (64 : Int) < ((nv : Nat) : Int)
            · have G2 := Lib.hid h2
              go_wp2_with fail
              go_ret
              exact ⟨by rw [← HR.out]; unfold opOk; rw [HHH.out, decide_eq_false (by have := G2.out; omega)]; simp only [Bool.false_and]; rfl, b0⟩
            · have G1 := Lib.hid h1
              have G2 := Lib.hid h2
              by_cases h3 : nk = nv
              · have q3 : (((nk : Nat) : Int) != ((nv : Nat) : Int)) = false := by simp [h3]
                have G3 := Lib.hid h3
                clear h3
                go_wp2_with fail
                go_meet
                case rel => exact ⟨by rw [HHH.out, decide_eq_true (by have := G1.out; have := G2.out; have := G3.out; omega)], b0, x0⟩
              · have q3 : (((nk : Nat) : Int) != ((nv : Nat) : Int)) = true := bne_iff_ne.2 (by omega)
                have G3 := Lib.hid h3
                clear h3
                go_wp2_with fail
                go_ret
                exact ⟨by rw [← HR.out]; unfold opOk; rw [HHH.out, decide_eq_false (by have := G3.out; omega)]; simp only [Bool.false_and]; rfl, b0⟩
        · have qt : (t == 6) = false := by simpa using e
          have HH' : headOk ⟨t, a, b, c, n, k, ks, vs⟩ = (nv == 0 && nk == 0) := by rw [Hnk.out, Hnv.out]; exact HH.out.trans (if_neg e)
          have T := Lib.hid e
          clear e
          have HHH := Lib.hid HH'
          clear HH'
          by_cases h1 : 0 < nv
          · have G1 := Lib.hid h1
            go_wp2_with fail
            go_ret
            exact ⟨by rw [← HR.out]; unfold opOk; rw [HHH.out, show (nv == 0) = false from beq_eq_false_iff_ne.2 (by have := G1.out; omega)]; simp only [Bool.false_and]; rfl, b0⟩
          · by_cases h2 : 0 < nk
            · have G2 := Lib.hid h2
              go_wp2_with fail
              go_ret
              exact ⟨by rw [← HR.out]; unfold opOk; rw [HHH.out, show (nk == 0) = false from beq_eq_false_iff_ne.2 (by have := G2.out; omega)]; simp only [Bool.false_and, Bool.and_false]; rfl, b0⟩
            · have G1 := Lib.hid h1
              have G2 := Lib.hid h2
              go_wp2_with fail
              go_meet
              case rel => exact ⟨by rw [HHH.out, show (nv == 0) = true from beq_iff_eq.2 (by have := G1.out; omega), show (nk == 0) = true from beq_iff_eq.2 (by have := G2.out; omega)]; rfl, b0, x0⟩
      case rest =>
        clear b0 x0 x00 x01 x02 x03 x04 x05 x06 x07 x08 x09 x0a HH Q1 Q2
        obtain ⟨hh, b0, x0⟩ := hcut
        have Gh := Lib.hid hh
        clear hh
        obtain ⟨x00, x01, x02, x03, x04, x05, x06, x07, x08, x09, x0a⟩ := opV_c x0
        have Hb := Lib.hid b0
        have Hx := Lib.hid x0
        clear b0 x0
        have hal : Tryd.prog.cellsOf 3 = 1 := by kernel_rfl
        go_upto_region 11 with fail
        go_wp2_with fail
        have E4 := Lib.hid (fun z => rin_any z wc)
        have hns := HHV.out.lim
        have hnc := HHV.out.cap
        unfold maxLen at hnc
        go_loopw [94] (RIn vs wc) (fun i _ => nv - (intOf i).toNat)
        case atStart => exact ⟨0, Nat.zero_le _, rfl, by simp, rfl⟩
        case round =>
          obtain ⟨j, hj, rfl, hall, rfl⟩ := hrel
          have Hall := Lib.hid hall
          clear hall
          rcases Nat.lt_or_ge j vs.length with hlt | hge
          · obtain ⟨b', off, rfl, hbl, hrow⟩ := (HHV.out.bel Hb.out).at hlt
            have hjn : (j : Int) < (nv : Int) := by have := Hnv.out; omega
            have Hz := Lib.hid (take_succ_get hlt)
            have Hm := Lib.hid (List.getElem_mem hlt)
            generalize vs[j] = z at *
            go_wp2_with fail
            refine (E4.out _).mono ?_
            rintro e w1 ⟨rfl, rfl⟩
            cases hz : inB z with
            | true =>
              go_wp2_with fail
              have hR : RIn vs w1 (.int .i64 ((j : Int) + 1)) w1 := ⟨j + 1, by omega, int_eq (by omega), fun x hx => by
                rw [Hz.out, List.mem_append] at hx
                rcases hx with hx | hx
                · exact Hall.out x hx
                · rw [List.mem_singleton.1 hx]; exact hz, rfl⟩
              have hD : nv - (j + 1) < nv - j := by omega
              exact ⟨⟨_, _, _, _, _, _, _, _, _, _, hR, rfl⟩, by simp [intOf]; omega⟩
            | false =>
              have Gz := Lib.hid hz
              clear hz
              go_wp2_with fail
              go_ret
              exact ⟨by rw [← HR.out, ok_q2 (o := ⟨t, a, b, c, n, k, ks, vs⟩) (List.all_eq_false.2 ⟨z, Hm.out, by rw [Gz.out]; decide⟩)]; rfl, Hb.out⟩
          · have hjn : ¬ (j : Int) < (nv : Int) := by have := Hnv.out; omega
            have hall : vs.all inB = true := by
              rw [List.all_eq_true]; intro x hx
              have := Hall.out; rw [List.take_of_length_le (by omega)] at this
              exact this x hx
            have Q2 := Lib.hid hall
            clear hall
            go_wp2_with fail
            refine (E4.out a).mono ?_
            rintro e w1 ⟨rfl, rfl⟩
            cases hqa : inB a with
            | false =>
              have Gqa := Lib.hid hqa
              clear hqa
              go_wp2_with fail
              go_ret
              exact ⟨by rw [← HR.out, ok_z (o := ⟨t, a, b, c, n, k, ks, vs⟩) Gqa.out (by simp)]; rfl, Hb.out⟩
            | true =>
            have Gqa := Lib.hid hqa
            clear hqa
            go_wp2_with fail
            refine (E4.out b).mono ?_
            rintro e w2 ⟨rfl, rfl⟩
            cases hqb : inB b with
            | false =>
              have Gqb := Lib.hid hqb
              clear hqb
              go_wp2_with fail
              go_ret
              exact ⟨by rw [← HR.out, ok_z (o := ⟨t, a, b, c, n, k, ks, vs⟩) Gqb.out (by simp)]; rfl, Hb.out⟩
            | true =>
            have Gqb := Lib.hid hqb
            clear hqb
            go_wp2_with fail
            refine (E4.out c).mono ?_
            rintro e w3 ⟨rfl, rfl⟩
            cases hqc : inB c with
            | false =>
              have Gqc := Lib.hid hqc
              clear hqc
              go_wp2_with fail
              go_ret
              exact ⟨by rw [← HR.out, ok_z (o := ⟨t, a, b, c, n, k, ks, vs⟩) Gqc.out (by simp)]; rfl, Hb.out⟩
            | true =>
            have Gqc := Lib.hid hqc
            clear hqc
            go_wp2_with fail
            refine (E4.out n).mono ?_
            rintro e w4 ⟨rfl, rfl⟩
            cases hqn : inB n with
            | false =>
              have Gqn := Lib.hid hqn
              clear hqn
              go_wp2_with fail
              go_ret
              exact ⟨by rw [← HR.out, ok_z (o := ⟨t, a, b, c, n, k, ks, vs⟩) Gqn.out (by simp)]; rfl, Hb.out⟩
            | true =>
            have Gqn := Lib.hid hqn
            clear hqn
            go_wp2_with fail
            refine (D3.out _).mono ?_
            rintro e w5 ⟨rfl, b5⟩
            have b5' := Hb.out.trans (b5.mono Hb.out.size)
            have y5 := Hx.out.bel b5
            clear x00 x01 x02 x03 x04 x05 x06 x07 x08 x09 x0a
            obtain ⟨x00, x01, x02, x03, x04, x05, x06, x07, x08, x09, x0a⟩ := opV_c y5
            cases hqk : ltB k rN with
            | false =>
              have Gk := Lib.hid hqk
              clear hqk
              go_wp2_with fail
              go_ret
              exact ⟨by rw [← HR.out, ok_q3 (o := ⟨t, a, b, c, n, k, ks, vs⟩) (by simp [Gk.out])]; rfl, b5'⟩
            | true =>
            have Gk := Lib.hid hqk
            clear hqk
            go_wp2_with fail
            refine (rall_any KA nk kc ks w5 (HHK.out.bel b5')).mono ?_
            rintro e w6 ⟨rfl, b6⟩
            have b6' := b5'.trans (b6.mono b5'.size)
            go_wp2_with fail
            go_ret
            exact ⟨by rw [← HR.out, ok_q4 (o := ⟨t, a, b, c, n, k, ks, vs⟩) Gh.out (by simp [Gqa.out, Gqb.out, Gqc.out, Gqn.out]) Q2.out (by simp [Gk.out])]; rfl, b6'⟩
end Go.Proofs.YtdilgmokiclfaaaDoor
