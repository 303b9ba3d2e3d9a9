/- Chapter 24: ScriptBack. -/
import Derived.Test.YtdilgmokiclfaaaDoorScYb
namespace Go.Proofs.YtdilgmokiclfaaaDoor
open Go.RowKit
set_option linter.unusedVariables false
set_option maxRecDepth 100000

theorem script_parse' (s : ByteArray) (w : World) (he : Env w) (hs : s.size ≤ 50000000) :
    Calls Tryd.prog 10 #[.string s] w fun e w' => PaOut (parseR s) w e w' := parse_any (fun line w he hl => parseOp_any line w he hl) s w he hs
theorem textB_size {p : PlD} (h : plOk p = true) : (textB p).size ≤ 50000000 := by
  obtain ⟨h1, h2, h3, h4⟩ := plOk_ops h
  have a1 := fields_size tauB [p.tau] (by decide) (by simp)
  have a2 := fields_size blindB p.bs (by decide) (by omega)
  have a3 := fields_size giveB p.is (by decide) h3
  have a4 := opsB_size (headB p) p.os (fun e he => OpG.of (h1 e he))
  unfold textB
  rw [ByteArray.size_append]
  have a5 : (headB p).size ≤ 10000 := by unfold headB; rw [ByteArray.size_append]; omega
  have : p.os.length * 10000 ≤ 400 * 10000 := Nat.mul_le_mul_right _ h4
  omega
set_option maxHeartbeats 4000000 in
/-- ScriptBack -/
theorem scriptBack_any (p : PlD) (w : World) (H : PlIn w p) (he : Env w) :
    Calls Tryd.prog 3 #[.agg (plV p)] w fun e w' => e = .returned (.bool true) ∧ Below w.heap.size w w' := by
  have b0 := (Below.refl w.heap.size w).alloc (Nat.le_refl _) (.cells (plV p) 28)
  have x0 := Bk.new w 28 (plV p)
  have HE := Lib.hid (he.bel b0)
  have HH := Lib.hid (H.bel b0)
  have DA := Lib.hid alive24_any
  cases hok : plOk p with
  | false =>
    have DP : Hid (∀ W, PlIn W p → Pow W → Calls Tryd.prog 7 #[.agg (plV p)] W fun e w' => e = .returned (.tuple #[.string ⟨#[]⟩, .int .i64 1]) ∧ Below W.heap.size W w') := Lib.hid (fun W h1 h2 => by have := print_any p W h1 h2; rw [hok] at this; exact this)
    have DS : Hid (∀ W, PlIn W p → Calls Tryd.prog 9 #[.agg (plV p)] W fun e w' => e = .returned (.bool false) ∧ Below W.heap.size W w') := Lib.hid (fun W h1 => by have := sright_any p W h1; rw [hok] at this; exact this)
    obtain ⟨V, hV⟩ : ∃ x, x = plV p := ⟨_, rfl⟩
    have hV7 : ∃ v0 v1 v2 v3 v4 v5 v6, V = #[v0, v1, v2, v3, v4, v5, v6] := ⟨_, _, _, _, _, _, _, hV⟩
    rw [← hV] at b0 x0 HE HH DP DS ⊢
    clear hV hok H he
    obtain ⟨v0, v1, v2, v3, v4, v5, v6, rfl⟩ := hV7
    go_enter Tryd.func3, Tryd.ntmps3
    go_upto_region 1 with fail
    generalize w.alloc (.cells #[v0, v1, v2, v3, v4, v5, v6] 28) = W1 at *
    go_wp2_with (refine wpList_load_row rfl 28 (.tmp 1) rfl w.heap.size rfl 28 _ (0, 0) _ x0 Tryd.underlying28 rfl (by kernel_rfl) ?_)
    refine (DP.out W1 HH.out HE.out.pow).mono ?_
    rintro e w2 ⟨rfl, b2⟩
    have hb2 := b0.trans (b2.mono b0.size)
    have x2 := x0.bel b2
    have H2 := Lib.hid (HH.out.bel b2)
    clear b2 x0 b0 HH
    go_wp2_with fail
    refine (DA.out _).mono ?_
    rintro e w4 ⟨rfl, b4⟩
    have hb4 := hb2.trans (b4.mono hb2.size)
    have x4 := x2.bel b4
    have H4 := Lib.hid (H2.out.bel b4)
    have c0 := x4.cell (i := 0) rfl
    have c1 := x4.cell (i := 1) rfl
    have c2 := x4.cell (i := 2) rfl
    have c3 := x4.cell (i := 3) rfl
    have c4 := x4.cell (i := 4) rfl
    have c5 := x4.cell (i := 5) rfl
    have c6 := x4.cell (i := 6) rfl
    go_wp2_with fail
    refine (DS.out _ H4.out).mono ?_
    rintro e w5 ⟨rfl, b5⟩
    have hb5 := hb4.trans (b5.mono hb4.size)
    go_wp2_with fail
    go_ret
    exact ⟨rfl, hb5⟩
  | true =>
    have DP : Hid (∀ W, PlIn W p → Pow W → Calls Tryd.prog 7 #[.agg (plV p)] W fun e w' => e = .returned (.tuple #[.string (textB p), .int .i64 0]) ∧ Below W.heap.size W w') := Lib.hid (fun W h1 h2 => by have := print_any p W h1 h2; rw [hok] at this; exact this)
    have hpr : parseR (textB p) = .inr p.r := by rw [textB_R]; exact parse_text (by rw [← plOk_R]; exact hok)
    have DQ : Hid (∀ W, Env W → Calls Tryd.prog 10 #[.string (textB p)] W fun e w' => PaOut (.inr p.r) W e w') := Lib.hid (fun W h1 => by have := script_parse' (textB p) W h1 (textB_size hok); rw [hpr] at this; exact this)
    have DL : Hid (∀ (q : PlD) (W : World), PlIn W p → PlIn W q → p.r = q.r → Calls Tryd.prog 11 #[.agg (plV p), .agg (plV q)] W fun e w' => e = .returned (.bool true) ∧ Below W.heap.size W w') := Lib.hid (fun q W h1 h2 h3 => like_any p q W h1 h2 h3)
    obtain ⟨V, hV⟩ : ∃ x, x = plV p := ⟨_, rfl⟩
    have hV7 : ∃ v0 v1 v2 v3 v4 v5 v6, V = #[v0, v1, v2, v3, v4, v5, v6] := ⟨_, _, _, _, _, _, _, hV⟩
    rw [← hV] at b0 x0 HE HH DP DL ⊢
    obtain ⟨T, hT⟩ : ∃ x, x = textB p := ⟨_, rfl⟩
    rw [← hT] at DP DQ
    clear hV hok H he hpr hT
    obtain ⟨v0, v1, v2, v3, v4, v5, v6, rfl⟩ := hV7
    go_enter Tryd.func3, Tryd.ntmps3
    go_upto_region 1 with fail
    generalize w.alloc (.cells #[v0, v1, v2, v3, v4, v5, v6] 28) = W1 at *
    go_wp2_with (refine wpList_load_row rfl 28 (.tmp 1) rfl w.heap.size rfl 28 _ (0, 0) _ x0 Tryd.underlying28 rfl (by kernel_rfl) ?_)
    refine (DP.out W1 HH.out HE.out.pow).mono ?_
    rintro e w2 ⟨rfl, b2⟩
    have hb2 := b0.trans (b2.mono b0.size)
    have x2 := x0.bel b2
    have H2 := Lib.hid (HH.out.bel b2)
    have E2 := Lib.hid (HE.out.bel b2)
    clear b2 x0 b0 HH HE
    go_wp2_with fail
    refine (DQ.out w2 E2.out).mono ?_
    rintro e w3 ⟨b3w, hout⟩
    obtain ⟨q, hq, hin, rfl⟩ := hout
    have b3 := b3w
    have hb3 := hb2.trans (b3.mono hb2.size)
    have ba := (Below.refl w3.heap.size w3).alloc (Nat.le_refl _) (.cells (plV q) 28)
    have x3 := (x2.bel b3).bel ba
    have H3 := Lib.hid ((H2.out.bel b3).bel ba)
    have Q3 := Lib.hid (hin.bel ba)
    have y3 := Bk.new w3 28 (plV q)
    have hb4 := hb3.trans (ba.mono hb3.size)
    have DL2 := Lib.hid (fun W h1 h2 => DL.out q W h1 h2 hq.symm)
    obtain ⟨U, hU⟩ : ∃ x, x = plV q := ⟨_, rfl⟩
    have hU7 : ∃ u0 u1 u2 u3 u4 u5 u6, U = #[u0, u1, u2, u3, u4, u5, u6] ∧ (U.all (·.oneCell') = true) := ⟨_, _, _, _, _, _, _, hU, by rw [hU]; exact plV_one q⟩
    rw [← hU] at x3 H3 Q3 y3 hb4 DL2 ⊢
    clear hU DL DP DQ b3 b3w ba hb3 hb2 x2 hin hq
    obtain ⟨u0, u1, u2, u3, u4, u5, u6, rfl, hone⟩ := hU7
    have c0 := x3.cell (i := 0) rfl
    have c1 := x3.cell (i := 1) rfl
    have c2 := x3.cell (i := 2) rfl
    have c3 := x3.cell (i := 3) rfl
    have c4 := x3.cell (i := 4) rfl
    have c5 := x3.cell (i := 5) rfl
    have c6 := x3.cell (i := 6) rfl
    have d0 := y3.cell (i := 0) rfl
    have d1 := y3.cell (i := 1) rfl
    have d2 := y3.cell (i := 2) rfl
    have d3 := y3.cell (i := 3) rfl
    have d4 := y3.cell (i := 4) rfl
    have d5 := y3.cell (i := 5) rfl
    have d6 := y3.cell (i := 6) rfl
    go_upto_region 5 with (refine wpList_store_newC rfl 28 (.tmp 5) (.tmp 24) rfl #[u0, u1, u2, u3, u4, u5, u6] w3.heap.size rfl rfl rfl 28 _ (by kernel_rfl) (by kernel_rfl) hone ?_)
    generalize w3.alloc (.cells #[u0, u1, u2, u3, u4, u5, u6] 28) = W4 at *
    go_wp2_with fail
    refine (DL2.out _ H3.out Q3.out).mono ?_
    rintro e w5 ⟨rfl, b5⟩
    go_wp2_with fail
    go_ret
    exact ⟨rfl, hb4.trans (b5.mono hb4.size)⟩
end Go.Proofs.YtdilgmokiclfaaaDoor
