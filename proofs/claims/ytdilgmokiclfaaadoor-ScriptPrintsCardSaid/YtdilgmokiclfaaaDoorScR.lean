/- Chapter 24: the reference's Text. -/
import Derived.Test.YtdilgmokiclfaaaDoorScQ
namespace Go.Proofs.YtdilgmokiclfaaaDoor
open Go.RowKit
set_option linter.unusedVariables false
set_option maxRecDepth 100000

theorem plS {W : World} {g t0 t1 t2 t3 : Nat} {v4 v5 v6 : Value} (x : Bk W g 28 #[.int .u64 (t0 : Nat), .int .u64 (t1 : Nat), .int .u64 (t2 : Nat), .int .u64 (t3 : Nat), v4, v5, v6]) :
    W.cell? ⟨g, 0, none⟩ = some (.int .u64 (t0 : Nat)) ∧ W.cell? ⟨g, 1, none⟩ = some (.int .u64 (t1 : Nat)) ∧ W.cell? ⟨g, 2, none⟩ = some (.int .u64 (t2 : Nat)) ∧ W.cell? ⟨g, 3, none⟩ = some (.int .u64 (t3 : Nat)) ∧ W.cell? ⟨g, 4, none⟩ = some v4 :=
  ⟨x.cell rfl, x.cell rfl, x.cell rfl, x.cell rfl, x.cell rfl⟩
def RtRel (B : Nat) (W : World) (s : ByteArray) (es : List OpE) (v i : Value) (wr : World) : Prop :=
  ∃ k : Nat, k ≤ es.length ∧ i = .int .i64 (k : Int) ∧ (∃ g n cap, v = .slice (some ⟨g, 0, none⟩) n cap ∧ n = (opsB s (es.take k)).size ∧ Buf wr B g cap (bytesN (opsB s (es.take k)))) ∧ Below B W wr
set_option maxHeartbeats 8000000 in
/-- ref.Text -/
theorem rtext_any (p : PlD) (w : World) (H : PlIn w p) (hp : Pow w) (hok : plOk p = true) :
    Calls Tryd.prog 13 #[.agg (plV p)] w fun e w' => e = .returned (.string (textB p)) ∧ Below w.heap.size w w' := by
  obtain ⟨hok1, hok2, hok3, hok4⟩ := plOk_ops hok
  have b0 := (Below.refl w.heap.size w).alloc (Nat.le_refl _) (.cells (plV p) 28)
  have x0 := Bk.new w 28 (plV p)
  have Hp := Lib.hid (hp.bel b0)
  have HH := Lib.hid (H.bel b0)
  obtain ⟨tx, htx⟩ : ∃ x, x = textB p := ⟨_, rfl⟩
  rw [← htx]
  have HTX := Lib.hid htx
  clear htx H hp hok
  obtain ⟨tau, BA, bc, bs, OA, oc, os, IA, ic, is⟩ := p
  dsimp only [plV] at *
  have OK1 := Lib.hid (fun e he => hok1 e he)
  have OK2 := Lib.hid hok2
  have OK3 := Lib.hid hok3
  have OK4 := Lib.hid hok4
  clear hok1 hok2 hok3 hok4
  go_enter Tryd.func13, Tryd.ntmps13
  go_upto_region 1 with fail
  generalize w.alloc (.cells #[.int .u64 (nth (fl tau) 0 : Nat), .int .u64 (nth (fl tau) 1 : Nat), .int .u64 (nth (fl tau) 2 : Nat), .int .u64 (nth (fl tau) 3 : Nat), .slice BA bs.length bc, .slice OA os.length oc, .slice IA is.length ic] 28) = W1 at *
  have F1 := Lib.hid (FrS.new1 W1 tau HH.out.t)
  have bz := ((Below.refl W1.heap.size W1).alloc (Nat.le_refl _) (.cells #[.int .u64 (nth (fl tau) 0), .int .u64 (nth (fl tau) 1), .int .u64 (nth (fl tau) 2), .int .u64 (nth (fl tau) 3)] 24)).drew
  have F1d : FrS (W1.alloc (.cells #[.int .u64 (nth (fl tau) 0), .int .u64 (nth (fl tau) 1), .int .u64 (nth (fl tau) 2), .int .u64 (nth (fl tau) 3)] 24)).drew (some ⟨W1.heap.size, 0, none⟩) 1 1 [tau] := F1.out.bel (Below.refl _ _).drew
  have D1 := Lib.hid (rfields_any tauB (some ⟨W1.heap.size, 0, none⟩) 1 1 [tau] _ F1d (by decide) (by decide))
  have FB := Lib.hid HH.out.b
  have hbl : bs.length ≤ 1000 := by have := OK2.out; omega
  have D2 := Lib.hid (fun W (hb : Below W1.heap.size W1 W) => rfields_any blindB BA bs.length bc bs W (FB.out.bel hb) hbl (by decide))
  have hs1 := fields_size tauB [tau] (by decide) (by simp)
  have hs2 := fields_size blindB bs (by decide) (by have := OK2.out; omega)
  obtain ⟨s1, hs1'⟩ : ∃ x, x = lineB (fieldsWs tauB [tau]) := ⟨_, rfl⟩
  obtain ⟨s2, hs2'⟩ : ∃ x, x = lineB (fieldsWs blindB bs) := ⟨_, rfl⟩
  have hh0 : s1 ++ s2 = headB ⟨tau, BA, bc, bs, OA, oc, os, IA, ic, is⟩ := by rw [hs1', hs2']; rfl
  have HH0 := Lib.hid hh0
  rw [← hs1'] at D1 hs1
  rw [← hs2'] at D2 hs2
  have hq1 : ¬ 9223372036854775807 < s1.size + s2.size := by omega
  have HS1 := Lib.hid hs1
  have HS2 := Lib.hid hs2
  have HBL := Lib.hid hbl
  clear hs1' hs2' hh0 F1d hs1 hs2 hbl
  obtain ⟨t0, ht0⟩ : ∃ x, x = nth (fl tau) 0 := ⟨_, rfl⟩
  obtain ⟨t1, ht1⟩ : ∃ x, x = nth (fl tau) 1 := ⟨_, rfl⟩
  obtain ⟨t2, ht2⟩ : ∃ x, x = nth (fl tau) 2 := ⟨_, rfl⟩
  obtain ⟨t3, ht3⟩ : ∃ x, x = nth (fl tau) 3 := ⟨_, rfl⟩
  rw [← ht0, ← ht1, ← ht2, ← ht3] at x0 F1 bz D1 ⊢
  clear ht0 ht1 ht2 ht3
  have c1 := plS x0
  have c0 := plS x0.drew
  have c2 := plS (x0.alloc (.cells #[.int .u64 t0, .int .u64 t1, .int .u64 t2, .int .u64 t3] 24)).drew
  have X0 := Lib.hid x0
  have B0 := Lib.hid b0
  clear x0 b0
  go_cut [3] from 7 to 14 (fun v W => v = .string (s1 ++ s2) ∧ Below W1.heap.size W1 W)
  case first =>
    go_region_held3 (fun w' => w'.cell? ⟨w.heap.size, 0, none⟩ = some (.int .u64 (t0 : Nat)) ∧ w'.cell? ⟨w.heap.size, 1, none⟩ = some (.int .u64 (t1 : Nat)) ∧ w'.cell? ⟨w.heap.size, 2, none⟩ = some (.int .u64 (t2 : Nat)) ∧ w'.cell? ⟨w.heap.size, 3, none⟩ = some (.int .u64 (t3 : Nat)) ∧ w'.cell? ⟨w.heap.size, 4, none⟩ = some (.slice BA bs.length bc))
      (first | exact c0 | exact c1 | exact c2 | exact c3 | exact c4 | fail)
      (first
      | (go_at_call 38
         refine (D2.out _ be).mono ?_
         rintro e w7 ⟨rfl, b7⟩
         have bf := be.trans (b7.mono be.size)
         have c4 := plS (X0.out.bel bf))
      | (go_at_call 38
         refine (D1.out).mono ?_
         rintro e w6 ⟨rfl, b6⟩
         have be := bz.trans (b6.mono bz.size)
         have c3 := plS (X0.out.bel be)))
    all_goals go_wp2_with fail
    all_goals go_meet
    all_goals case rel => exact ⟨rfl, bf⟩
  case rest =>
    obtain ⟨rfl, hcb⟩ := hcut
    have htx : tx = opsB (headB ⟨tau, BA, bc, bs, OA, oc, os, IA, ic, is⟩) os ++ lineB (fieldsWs giveB is) := HTX.out
    rw [← HH0.out] at htx
    obtain ⟨s0, hs0⟩ : ∃ x, x = s1 ++ s2 := ⟨_, rfl⟩
    have hz0 : s0.size ≤ 10000 := by rw [hs0, ByteArray.size_append]; have := HS1.out; have := HS2.out; omega
    rw [← hs0] at htx ⊢
    have HTX2 := Lib.hid htx
    clear hs0 htx D1 D2 bz c0 c1 c2 hq1
    obtain ⟨cap0, W0, kc, hb0, hbe0⟩ := conv_bytes s0 wc
    have hst : RtRel wc.heap.size wc s0 os (.slice (some ⟨wc.heap.size, 0, none⟩) s0.size cap0) (.int .i64 0) W0 :=
      ⟨0, Nat.zero_le _, rfl, ⟨_, _, _, rfl, rfl, hb0⟩, hbe0⟩
    have Hst := Lib.hid hst
    have c5 := (X0.out.bel (hcb.trans (hbe0.mono hcb.size))).cell (i := 5) rfl
    have HCB := Lib.hid hcb
    have HZ0 := Lib.hid hz0
    clear hst hb0 hbe0 hcb hz0
    have hcl : Tryd.prog.cellsOf 55 = 11 := by kernel_rfl
    have hns := HH.out.o.lim
    have hnc := HH.out.o.cap
    unfold maxLen at hnc
    go_wp2_with fail
    go_loopw [4, 20] (RtRel wc.heap.size wc s0 os) (fun _ i _ => os.length - (intOf i).toNat)
    case atStart => exact Hst.out
    case round =>
      clear Hst
      obtain ⟨k, hk, rfl, ⟨g, N, cap, rfl, hN, hbuf⟩, hb⟩ := hrel
      have hbw := HCB.out.trans (hb.mono HCB.out.size)
      have hgo : ∀ e ∈ os.take k, OpG e.d := fun e he => OpG.of (OK1.out e (List.mem_of_mem_take he))
      have hsz := opsB_size s0 (os.take k) hgo
      rw [List.length_take] at hsz
      have hsz2 : N ≤ 5000000 := by have := OK4.out; have := HZ0.out; omega
      have HN := Lib.hid hN
      clear hN
      rcases Nat.lt_or_ge k os.length with hlt | hge
      · have hkn : (k : Int) < (os.length : Int) := by omega
        have HIO := (HH.out.bel hbw).o
        obtain ⟨b, off, rfl, hbl, R⟩ := HIO.at hlt
        have Hz := Lib.hid (take_succ_get hlt)
        have Hin := Lib.hid (HIO.ok _ (List.getElem_mem hlt))
        have Hok := Lib.hid (OK1.out _ (List.getElem_mem hlt))
        clear HIO hgo hsz
        generalize os[k] = z at *
        have bnew := (Below.refl wr.heap.size wr).alloc (Nat.le_refl _) (.cells z.v 55)
        have y0 := Bk.new wr 55 z.v
        have Hin2 := Lib.hid (Hin.out.bel bnew)
        have HBuf := Lib.hid (hbuf.bel bnew)
        have HB2 := Lib.hid (hb.alloc hb.size (.cells z.v 55))
        have HP5 := Lib.hid ((Hp.out.bel hbw).bel bnew)
        clear Hin bnew hbuf hb
        go_wp2_with (first
          | refine wpList_load_mid rfl 55 (.tmp 22) rfl b (off + k * 11) rfl z.v.toList _ R Tryd.underlying55 rfl (by kernel_rfl) ?_
          | refine wpList_store_newC rfl 55 (.tmp 6) (.tmp 23) rfl z.v wr.heap.size rfl rfl rfl 55 _ (by kernel_rfl) (by kernel_rfl) (by kernel_rfl) ?_
          | refine wpList_load_row rfl 55 (.tmp 6) rfl wr.heap.size rfl 55 _ (0, 0) _ y0 Tryd.underlying55 rfl (by kernel_rfl) ?_)
        generalize hWd : wr.alloc (.cells z.v 55) = W5 at *
        clear hWd
        refine (rline_any z.d z.KA z.kc z.VA z.vc W5 Hin2.out.k Hin2.out.ks Hin2.out.vs Hok.out HP5.out).mono ?_
        rintro e w6 ⟨rfl, b6⟩
        have hb6 := HB2.out.trans (b6.mono HB2.out.size)
        have hbuf6 := HBuf.out.bel b6
        have hll := (lineWs_size (OpG.of Hok.out)).1
        go_wp2_with (refine wpList_buf_str hbuf6 (by rw [bytesN_length]; exact HN.out.symm) (lineB (lineWs z.d)) rfl (.tmp 24) (.tmp 26) rfl rfl rfl hb6.size (by omega) ?_; intro g' cap' w8 hbuf8 hb8)
        refine ⟨⟨k + 1, by omega, int_eq (by omega), ⟨g', _, cap', rfl, ?_, ?_⟩, hb6.trans hb8⟩, by simp [intOf]; omega⟩
        · rw [Hz.out, opsB_snoc, ByteArray.size_append, HN.out]
        · rw [Hz.out, opsB_snoc, bytesN_append]
          exact hbuf8
      · obtain rfl : k = os.length := by omega
        have hkn : ¬ ((os.length : Nat) : Int) < (os.length : Int) := by omega
        have hN := HN.out
        rw [List.take_length] at hN hbuf
        obtain ⟨s3, hs3⟩ : ∃ x, x = opsB s0 os := ⟨_, rfl⟩
        rw [← hs3] at hN hbuf
        have HTX3 := HTX2.out
        rw [← hs3] at HTX3
        have HT3 := Lib.hid HTX3
        have c6 := (X0.out.bel hbw).cell (i := 6) rfl
        clear HTX3 hs3 hgo hsz
        have hN3 := Lib.hid hN
        have ob3 := Lib.hid (bytesN_bytO s3)
        have hbd : Hid (Buf wr wc.heap.size g cap (bytesN s3)) := Lib.hid hbuf
        have kc1 : (convert 40 9 (.slice (some ⟨g, 0, none⟩) N cap)).run Tryd.prog wr = .ok (.string s3) wr := by
          have := conv_buf (n := N) hbd.out (by rw [bytesN_length]; exact hN3.out.symm) ob3.out
          rw [strN_bytesN] at this
          exact this
        have kc2 : (convert 40 9 (.slice (some ⟨g, 0, none⟩) N cap)).run Tryd.prog wr.drew = .ok (.string s3) wr.drew := by
          have := conv_buf (n := N) (hbd.out.bel (Below.refl wr.heap.size wr).drew) (by rw [bytesN_length]; exact hN3.out.symm) ob3.out
          rw [strN_bytesN] at this
          exact this
        have HI := Lib.hid (HH.out.bel hbw).i
        have hil : is.length ≤ 1000 := by have := OK3.out; omega
        have hz3 := fields_size giveB is (by decide) OK3.out
        have D4 := Lib.hid (rfields_any giveB IA is.length ic is wr.drew (HI.out.bel (Below.refl _ _).drew) hil (by decide))
        obtain ⟨s4, hs4⟩ : ∃ x, x = lineB (fieldsWs giveB is) := ⟨_, rfl⟩
        rw [← hs4] at D4 hz3
        have hts : tx = s3 ++ s4 := by rw [HT3.out, hs4]
        have HTS := Lib.hid hts
        have hz5 : s3.size ≤ 5000000 := by rw [← hN3.out]; exact hsz2
        have hq1 : ¬ 9223372036854775807 < s3.size + s4.size := by omega
        have e1 := And.intro c6 kc1
        have HBW := Lib.hid hbw
        clear hN hbuf hts hs4 hil hbw
        go_upto_region 8 with fail
        go_region_held3 (fun w' => w'.cell? ⟨w.heap.size, 6, none⟩ = some (.slice IA is.length ic) ∧ (convert 40 9 (.slice (some ⟨g, 0, none⟩) N cap)).run Tryd.prog w' = .ok (.string s3) w')
          (first | exact e1 | exact ⟨c6, kc2⟩ | exact e3 | fail)
          (first
          | (go_at_call 38
             refine (D4.out).mono ?_
             rintro e w7 ⟨rfl, b7⟩
             have b7' := ((Below.refl wr.heap.size wr).drew).trans b7
             have c7 := (X0.out.bel (HBW.out.trans (b7'.mono HBW.out.size))).cell (i := 6) rfl
             have k7 := conv_buf (n := N) (hbd.out.bel b7') (by rw [bytesN_length]; exact hN3.out.symm) ob3.out
             rw [strN_bytesN] at k7
             have e3 := And.intro c7 k7))
        all_goals go_wp2_with fail
        all_goals go_ret
        all_goals exact ⟨by rw [HTS.out]; rfl, B0.out.trans ((HBW.out.trans (b7'.mono HBW.out.size)).mono B0.out.size)⟩
end Go.Proofs.YtdilgmokiclfaaaDoor
