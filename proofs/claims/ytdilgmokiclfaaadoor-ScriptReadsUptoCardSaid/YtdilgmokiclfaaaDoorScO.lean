/- Chapter 24: Print. -/
import Derived.Test.YtdilgmokiclfaaaDoorScN
import Derived.Laws.EntriesVeiled
namespace Go.Proofs.YtdilgmokiclfaaaDoor
open Go.RowKit
set_option linter.unusedVariables false
set_option maxRecDepth 100000

theorem plOk_ops {p : PlD} (h : plOk p = true) : (∀ e ∈ p.os, opOk e.d = true) ∧ p.bs.length = 11 ∧ p.is.length ≤ 64 ∧ p.os.length ≤ 400 := by
  unfold plOk at h
  simp only [Bool.and_eq_true] at h
  obtain ⟨⟨⟨⟨h1, _⟩, _⟩, _⟩, h2⟩ := h
  have h1 := of_decide_eq_true h1
  exact ⟨fun e he => List.all_eq_true.1 h2 e he, h1.1, h1.2.1, h1.2.2⟩
/-- Print under way: what is written so far is s. -/
structure PrSt (B : Nat) (w2 : World) (s : ByteArray) (W : World) : Prop where
  line : Bk W (B + 1) 50 #[lineFn B]
  bd : Bd B B (bytesN s) W
  bel : Below B w2 W
theorem PrSt.new {B : Nat} {w2 : World} (h : B = w2.heap.size) : PrSt B w2 ⟨#[]⟩ ((w2.alloc (.cells #[.pointer none, .slice none 0 0] 42)).alloc (.cells #[lineFn B] 50)) := by
  subst h
  have h0 : Bd w2.heap.size w2.heap.size [] (w2.alloc (.cells #[.pointer none, .slice none 0 0] 42)) := Lib.fresh_isBuilder _ _ w2
  exact ⟨Bk.new1 w2 _ _ _, h0.bel ((Below.refl _ _).alloc (Nat.le_refl _) _), ((Below.refl w2.heap.size w2).alloc (Nat.le_refl _) _).alloc (by simp) _⟩
theorem PrSt.below {B : Nat} {w2 W W' : World} {s : ByteArray} (h : PrSt B w2 s W) (hb : Below W.heap.size W W') : PrSt B w2 s W' :=
  ⟨h.line.bel hb, h.bd.bel hb, h.bel.trans (hb.mono (by have := h.line.lt; omega))⟩
theorem PrSt.next {B : Nat} {w2 W W' : World} {s s' : ByteArray} (h : PrSt B w2 s W) (hd : BdAt B B (bytesN s') W') (hb : Below B W W') (hk : Keep B W W') : PrSt B w2 s' W' :=
  ⟨hk _ _ _ _ h.line (by decide) (by omega), .inr hd, h.bel.trans hb⟩
theorem PrSt.plan {B g : Nat} {w2 W : World} {s : ByteArray} {T : TypeId} {vs : Array Value} (h : PrSt B w2 s W) (hB : B = w2.heap.size) (x : Bk w2 g T vs) : Bk W g T vs := by subst hB; exact x.bel h.bel
theorem PrSt.plIn {B : Nat} {w2 W : World} {s : ByteArray} {p : PlD} (h : PrSt B w2 s W) (hB : B = w2.heap.size) (x : PlIn w2 p) : PlIn W p := by subst hB; exact x.bel h.bel
theorem PrSt.pow {B : Nat} {w2 W : World} {s : ByteArray} (h : PrSt B w2 s W) (hB : B = w2.heap.size) (x : Pow w2) : Pow W := by subst hB; exact x.bel h.bel
theorem PrSt.le {B : Nat} {w2 W : World} {s : ByteArray} (h : PrSt B w2 s W) : B + 1 < W.heap.size := h.line.lt
theorem PrSt.cell {B : Nat} {w2 W : World} {s : ByteArray} (h : PrSt B w2 s W) : W.cell? ⟨B + 1, 0, none⟩ = some (lineFn B) := h.line.cell rfl
def OpRel (B : Nat) (w2 : World) (s : ByteArray) (es : List OpE) (i : Value) (wr : World) : Prop :=
  ∃ k : Nat, k ≤ es.length ∧ i = .int .i64 (k : Int) ∧ PrSt B w2 (opsB s (es.take k)) wr
set_option maxHeartbeats 8000000 in
/-- Print -/
theorem print_any (p : PlD) (w : World) (H : PlIn w p) (hp : Pow w) :
    Calls Tryd.prog 7 #[.agg (plV p)] w fun e w' => e = .returned (.tuple #[.string (if plOk p then textB p else ⟨#[]⟩), .int .i64 (if plOk p then 0 else 1)]) ∧ Below w.heap.size w w' := by
  have b0 := (Below.refl w.heap.size w).alloc (Nat.le_refl _) (.cells (plV p) 28)
  have x0 := Bk.new w 28 (plV p)
  have Hp := Lib.hid (hp.bel b0)
  have D1 := Lib.hid (sright_any p (w.alloc (.cells (plV p) 28)) (H.bel b0))
  have HH := Lib.hid (H.bel b0)
  have hmf : ∀ (fn : Fn) (first cap : Array Value) (w : World), (Instr.makeFunc fn first cap).run Tryd.prog w = .ok (.func fn first cap) w := fun _ _ _ _ => rfl
  obtain ⟨tx, htx⟩ : ∃ x, x = textB p := ⟨_, rfl⟩
  rw [← htx]
  have HTX := Lib.hid htx
  clear htx H hp
  obtain ⟨tau, BA, bc, bs, OA, oc, os, IA, ic, is⟩ := p
  dsimp only [plV] at *
  obtain ⟨R, hR⟩ : ∃ x, x = plOk ⟨tau, BA, bc, bs, OA, oc, os, IA, ic, is⟩ := ⟨_, rfl⟩
  rw [← hR] at D1 ⊢
  have HR := Lib.hid hR
  clear hR
  go_enter Tryd.func7, Tryd.ntmps7
  go_upto_region 1 with fail
  generalize w.alloc (.cells #[.int .u64 (nth (fl tau) 0 : Nat), .int .u64 (nth (fl tau) 1 : Nat), .int .u64 (nth (fl tau) 2 : Nat), .int .u64 (nth (fl tau) 3 : Nat), .slice BA bs.length bc, .slice OA os.length oc, .slice IA is.length ic] 28) = W1 at *
  go_wp2_with (refine wpList_load_row rfl 28 (.tmp 1) rfl w.heap.size rfl 28 _ (0, 0) _ x0 Tryd.underlying28 rfl (by kernel_rfl) ?_)
  refine (D1.out).mono ?_
  rintro e w2 ⟨rfl, b2⟩
  have hb2 := b0.trans (b2.mono b0.size)
  cases R with
  | false =>
    go_wp2_with fail
    go_ret2
    exact ⟨rfl, hb2⟩
  | true =>
  have HIN := Lib.hid (HH.out.bel b2)
  have HP2 := Lib.hid (Hp.out.bel b2)
  have x2 := x0.bel b2
  clear x0 b0 b2 HH Hp
  have hlt2 := x2.lt
  obtain ⟨B, hB⟩ : ∃ x, x = w2.heap.size := ⟨_, rfl⟩
  have HST := Lib.hid (PrSt.new hB)
  have Hx2 := Lib.hid x2
  rw [hB] at HST
  unfold lineFn at HST
  go_upto_region 6 with fail
  generalize (w2.alloc (.cells #[.pointer none, .slice none 0 0] 42)).alloc (.cells #[.func (.func 15) #[] #[.pointer (some ⟨w2.heap.size, 0, none⟩)]] 50) = W3 at *
  rw [← hB] at HST ⊢
  have HB := Lib.hid hB
  obtain ⟨hok1, hok2, hok3, hok4⟩ := plOk_ops HR.out.symm
  have OK1 := Lib.hid (fun e he => OpG.of (hok1 e he))
  have OK2 := Lib.hid hok2
  have OK3 := Lib.hid hok3
  have OK4 := Lib.hid hok4
  clear hok1 hok2 hok3 hok4 x2 hlt2 hB
  have x3 := HST.out.plan HB.out Hx2.out
  have c0 := x3.cell (i := 0) rfl
  have c1 := x3.cell (i := 1) rfl
  have c2 := x3.cell (i := 2) rfl
  have c3 := x3.cell (i := 3) rfl
  have hk := HIN.out.t
  have hle := HST.out.le
  go_wp2_with fail
  have S4 := HST.out.below ((Below.refl W3.heap.size W3).alloc (Nat.le_refl _) (.cells #[.int .u64 (nth (fl tau) 0), .int .u64 (nth (fl tau) 1), .int .u64 (nth (fl tau) 2), .int .u64 (nth (fl tau) 3)] 24))
  refine (pall_any B B (B + 1) tauB ⟨#[]⟩ _ 1 1 [tau] _ S4.bd (FrS.new1 W3 tau hk) S4.cell S4.line.lt (by decide) (by decide) (by decide) (by have := S4.le; omega)).mono ?_
  rintro e w5 ⟨⟨v5, rfl⟩, h5, b5, k5⟩
  have S5 := Lib.hid (S4.next h5 b5 k5)
  clear S4 h5 b5 k5 c0 c1 c2 c3 x3 hle
  have x5 := S5.out.plan HB.out Hx2.out
  have c4 := x5.cell (i := 4) rfl
  go_upto_region 7 with fail
  go_wp2_with fail
  have I5 := S5.out.plIn HB.out HIN.out
  refine (pall_any B B (B + 1) blindB _ BA bs.length bc bs w5 S5.out.bd I5.b S5.out.cell S5.out.line.lt (by have := OK2.out; omega) (by decide) ?_ (by have := S5.out.le; omega)).mono ?_
  · have := fields_size tauB [tau] (by decide) (by simp)
    rw [ByteArray.size_append]
    have : (⟨#[]⟩ : ByteArray).size = 0 := rfl
    omega
  rintro e w6 ⟨⟨v6, rfl⟩, h6, b6, k6⟩
  have S6 := S5.out.next h6 b6 k6
  have hs0 : (⟨#[]⟩ : ByteArray) ++ lineB (fieldsWs tauB [tau]) ++ lineB (fieldsWs blindB bs) = headB ⟨tau, BA, bc, bs, OA, oc, os, IA, ic, is⟩ := by
    unfold headB
    rw [show (⟨#[]⟩ : ByteArray) = ByteArray.empty from rfl, ByteArray.empty_append]
  rw [hs0] at S6
  have hhs : (headB ⟨tau, BA, bc, bs, OA, oc, os, IA, ic, is⟩).size ≤ 10000 := by
    have h1 := fields_size tauB [tau] (by decide) (by simp)
    have h2 := fields_size blindB bs (by decide) (by have := OK2.out; omega)
    unfold headB
    rw [ByteArray.size_append]
    simp only
    omega
  have htx : tx = opsB (headB ⟨tau, BA, bc, bs, OA, oc, os, IA, ic, is⟩) os ++ lineB (fieldsWs giveB is) := HTX.out
  have HTX2 := Lib.hid htx
  clear htx hs0
  generalize headB _ = s0 at *
  have HHS := Lib.hid hhs
  have S6' := Lib.hid S6
  have hst : OpRel B w2 s0 os (.int .i64 0) w6 := ⟨0, Nat.zero_le _, rfl, S6⟩
  have Hst := Lib.hid hst
  have x6 := S6.plan HB.out Hx2.out
  have c5 := x6.cell (i := 5) rfl
  clear hst S6 hhs h6 b6 k6 I5 c4 x5 S5 hk x6
  have hcl : Tryd.prog.cellsOf 55 = 11 := by kernel_rfl
  have hns := HIN.out.o.lim
  have hnc := HIN.out.o.cap
  simp only at hns hnc
  unfold maxLen at hnc
  go_upto_region 8 with fail
  go_wp2_with fail
  go_loopw [26] (OpRel B w2 s0 os) (fun i _ => os.length - (intOf i).toNat)
  case atStart => exact Hst.out
  case round =>
    clear Hst
    obtain ⟨k, hk, rfl, hS⟩ := hrel
    rcases Nat.lt_or_ge k os.length with hlt | hge
    · have hkn : (k : Int) < (os.length : Int) := by omega
      have HIO := hS.plIn HB.out HIN.out
      obtain ⟨b, off, rfl, hbl, R⟩ := HIO.o.at hlt
      have Hz := Lib.hid (take_succ_get hlt)
      have Hin := Lib.hid (HIO.o.ok _ (List.getElem_mem hlt))
      have Hok := Lib.hid (OK1.out _ (List.getElem_mem hlt))
      have Hsz := Lib.hid (opsB_size s0 (os.take k) (fun e he => OK1.out e (List.mem_of_mem_take he)))
      clear HIO
      generalize os[k] = z at *
      have bnew := (Below.refl wr.heap.size wr).alloc (Nat.le_refl _) (.cells z.v 55)
      have y0 := Bk.new wr 55 z.v
      have HSn := Lib.hid (hS.below bnew)
      have Hin2 := Lib.hid (Hin.out.bel bnew)
      have HWr := Lib.hid hS.le
      clear Hin bnew hS
      go_upto_region 11 with (first
        | refine wpList_load_mid rfl 55 (.tmp 28) rfl b (off + k * 11) rfl z.v.toList _ R Tryd.underlying55 rfl (by kernel_rfl) ?_
        | refine wpList_store_newC rfl 55 (.tmp 8) (.tmp 29) rfl z.v wr.heap.size rfl rfl rfl 55 _ (by kernel_rfl) (by kernel_rfl) (by kernel_rfl) ?_)
      generalize hWd : wr.alloc (.cells z.v 55) = W5 at *
      clear hWd
      obtain ⟨d, KA, kc, VA, vc⟩ := z
      obtain ⟨t, a, b', c', n, kk, ks, vs⟩ := d
      dsimp only [OpE.v, opV'] at *
      have D3 := Lib.hid (lineOf_any ⟨t, a, b', c', n, kk, ks, vs⟩ KA kc VA vc)
      have H5k := Hin2.out.k
      have H5s := Lib.hid Hin2.out.ks
      have H5v := Lib.hid Hin2.out.vs
      have H5p := Lib.hid (HSn.out.pow HB.out HP2.out)
      have D3' : Hid (Calls Tryd.prog 21 #[.agg (opV t a b' c' n (nth (fl kk) 0) (nth (fl kk) 1) (nth (fl kk) 2) (nth (fl kk) 3) KA ks.length kc VA vs.length vc)] W5.drew fun e w' => ∃ g cap, e = .returned (.slice (some ⟨g, 0, none⟩) (lineWs ⟨t, a, b', c', n, kk, ks, vs⟩).length cap) ∧ StrS w' g 0 (lineWs ⟨t, a, b', c', n, kk, ks, vs⟩).length cap (lineWs ⟨t, a, b', c', n, kk, ks, vs⟩) ∧ Below W5.drew.heap.size W5.drew w') :=
        Lib.hid (D3.out W5.drew H5k (H5s.out.bel (Below.refl _ _).drew) (H5v.out.bel (Below.refl _ _).drew) Hok.out (H5p.out.bel (Below.refl _ _).drew))
      have hls := lineWs_size Hok.out
      have HLS := Lib.hid hls
      clear D3 H5k H5s H5v H5p Hin2 hls
      obtain ⟨LW, hLW⟩ : ∃ x, x = lineWs ⟨t, a, b', c', n, kk, ks, vs⟩ := ⟨_, rfl⟩
      rw [← hLW] at D3' HLS
      have HLW := Lib.hid hLW
      clear hLW
      obtain ⟨k0, hk0⟩ : ∃ x, x = nth (fl kk) 0 := ⟨_, rfl⟩
      obtain ⟨k1, hk1⟩ : ∃ x, x = nth (fl kk) 1 := ⟨_, rfl⟩
      obtain ⟨k2, hk2⟩ : ∃ x, x = nth (fl kk) 2 := ⟨_, rfl⟩
      obtain ⟨k3, hk3⟩ : ∃ x, x = nth (fl kk) 3 := ⟨_, rfl⟩
      rw [← hk0, ← hk1, ← hk2, ← hk3] at D3' y0
      clear hk0 hk1 hk2 hk3 R
      have B5 := (Below.refl W5.heap.size W5).drew
      have hy := y0
      have e1 := And.intro HSn.out.cell (opV_c y0)
      unfold lineFn at e1
      go_region_held3 (fun w' => w'.cell? ⟨B + 1, 0, none⟩ = some (.func (.func 15) #[] #[.pointer (some ⟨B, 0, none⟩)]) ∧ w'.cell? ⟨wr.heap.size, 0, none⟩ = some (.int .i64 t) ∧ w'.cell? ⟨wr.heap.size, 1, none⟩ = some (.int .i64 a) ∧ w'.cell? ⟨wr.heap.size, 2, none⟩ = some (.int .i64 b') ∧ w'.cell? ⟨wr.heap.size, 3, none⟩ = some (.int .i64 c') ∧ w'.cell? ⟨wr.heap.size, 4, none⟩ = some (.int .i64 n) ∧ w'.cell? ⟨wr.heap.size, 5, none⟩ = some (.int .u64 (k0 : Nat)) ∧ w'.cell? ⟨wr.heap.size, 6, none⟩ = some (.int .u64 (k1 : Nat)) ∧ w'.cell? ⟨wr.heap.size, 7, none⟩ = some (.int .u64 (k2 : Nat)) ∧ w'.cell? ⟨wr.heap.size, 8, none⟩ = some (.int .u64 (k3 : Nat)) ∧ w'.cell? ⟨wr.heap.size, 9, none⟩ = some (.slice KA ks.length kc) ∧ w'.cell? ⟨wr.heap.size, 10, none⟩ = some (.slice VA vs.length vc))
        (first | exact e1 | exact e2 | exact e3 | fail)
        (first
        | (go_at_call 21
           refine (D3'.out).mono ?_
           rintro e w6 ⟨g, cap, rfl, hSt, b6⟩
           have b6' := B5.trans b6
           have S6 := HSn.out.below b6'
           have e2 := And.intro S6.cell (opV_c (y0.bel b6'))
           unfold lineFn at e2)
        | (go_at_call 15
           refine (pline_any B B g 0 _ cap LW (opsB s0 (List.take k os)) w6 S6.bd hSt (by have := HLS.out; omega) (by have := HLS.out; omega) (by have := Hsz.out; have := HHS.out; rw [List.length_take] at *; have := OK4.out; omega) (by have := S6.le; omega)).mono ?_
           rintro e w7 ⟨⟨v7, rfl⟩, h7, b7, k7⟩
           have S7 := S6.next h7 b7 k7
           have e3 := And.intro S7.cell (opV_c (k7 _ _ _ _ (y0.bel b6') (by decide) (by have := HWr.out; omega)))
           unfold lineFn at e3))
      all_goals
        have hR : OpRel B w2 s0 os (.int .i64 ((k : Int) + 1)) w7 := by
          refine ⟨k + 1, by omega, int_eq (by omega), ?_⟩
          rw [Hz.out, opsB_snoc]
          rw [HLW.out] at S7
          exact S7
        have HRR := Lib.hid hR
        clear hR e1 e2 e3 S6 S7
        go_wp2_with fail
        exact ⟨HRR.out, by simp [intOf]; omega⟩
    · obtain rfl : k = os.length := by omega
      have hkn : ¬ ((os.length : Nat) : Int) < (os.length : Int) := by omega
      rw [List.take_length] at hS
      have x7 := hS.plan HB.out Hx2.out
      have c6 := x7.cell (i := 6) rfl
      have I7 := Lib.hid (hS.plIn HB.out HIN.out)
      have S7 := Lib.hid hS
      have hsz := opsB_size s0 os (fun e he => OK1.out e he)
      have HSZ := Lib.hid hsz
      clear hS x7 hsz
      go_wp2_with fail
      refine (pall_any B B (B + 1) giveB _ IA is.length ic is wr S7.out.bd I7.out.i S7.out.cell S7.out.line.lt (by have := OK3.out; omega) (by decide) (by have := HSZ.out; have := HHS.out; have := OK4.out; omega) (by have := S7.out.le; omega)).mono ?_
      rintro e w8 ⟨⟨v8, rfl⟩, h8, b8, k8⟩
      have S8 := S7.out.next h8 b8 k8
      rw [← HTX2.out] at S8
      have H8 := Lib.hid S8
      clear S8 h8 b8 k8 c6
      go_wp2_with fail
      refine (bstr_any B B tx w8 H8.out.bd (by have := H8.out.le; omega)).mono ?_
      rintro e w9 ⟨rfl, b9⟩
      go_wp2_with fail
      go_ret2
      refine ⟨rfl, hb2.trans ((H8.out.bel.trans b9).mono ?_)⟩
      have := HB.out
      have := hb2.size
      omega
end Go.Proofs.YtdilgmokiclfaaaDoor
