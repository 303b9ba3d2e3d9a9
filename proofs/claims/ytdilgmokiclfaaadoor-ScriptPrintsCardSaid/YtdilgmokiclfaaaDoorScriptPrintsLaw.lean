/- Chapter 24: ScriptPrints. -/
import Derived.Test.YtdilgmokiclfaaaDoorScR
namespace Go.Proofs.YtdilgmokiclfaaaDoor
open Go.RowKit
set_option linter.unusedVariables false
set_option maxRecDepth 100000

set_option maxHeartbeats 8000000 in
/-- ScriptPrints -/
theorem scriptPrints_any (p : PlD) (w : World) (H : PlIn w p) (hp : Pow w) :
    Calls Tryd.prog 5 #[.agg (plV p)] w fun e w' => e = .returned (.bool true) ∧ Below w.heap.size w w' := by
  have b0 := (Below.refl w.heap.size w).alloc (Nat.le_refl _) (.cells (plV p) 28)
  have x0 := Bk.new w 28 (plV p)
  have Hp := Lib.hid (hp.bel b0)
  have HH := Lib.hid (H.bel b0)
  cases hok : plOk p with
  | false =>
    have Hok := Lib.hid hok
    have DP : Hid (∀ W, PlIn W p → Pow W → Calls Tryd.prog 7 #[.agg (plV p)] W fun e w' => e = .returned (.tuple #[.string ⟨#[]⟩, .int .i64 1]) ∧ Below W.heap.size W w') := Lib.hid (fun W h1 h2 => by have := print_any p W h1 h2; rw [hok] at this; exact this)
    have DR : Hid (∀ W, PlIn W p → Calls Tryd.prog 12 #[.agg (plV p)] W fun e w' => e = .returned (.bool false) ∧ Below W.heap.size W w') := Lib.hid (fun W h1 => by have := rright_any p W h1; rw [hok] at this; exact this)
    have DS : Hid (∀ W, PlIn W p → Calls Tryd.prog 9 #[.agg (plV p)] W fun e w' => e = .returned (.bool false) ∧ Below W.heap.size W w') := Lib.hid (fun W h1 => by have := sright_any p W h1; rw [hok] at this; exact this)
    have DA := Lib.hid alive24_any
    have DT := Lib.hid (rtext_any p)
    clear hok
    obtain ⟨T, hT⟩ : ∃ x, x = textB p := ⟨_, rfl⟩
    rw [← hT] at DT
    clear hT H hp
    obtain ⟨V, hV⟩ : ∃ x, x = plV p := ⟨_, rfl⟩
    have hV7 : ∃ v0 v1 v2 v3 v4 v5 v6, V = #[v0, v1, v2, v3, v4, v5, v6] := ⟨_, _, _, _, _, _, _, hV⟩
    rw [← hV] at b0 x0 Hp HH DP DR DS DT ⊢
    clear hV
    obtain ⟨v0, v1, v2, v3, v4, v5, v6, rfl⟩ := hV7
    go_enter Tryd.func5, Tryd.ntmps5
    go_upto_region 1 with fail
    generalize w.alloc (.cells #[v0, v1, v2, v3, v4, v5, v6] 28) = W1 at *
    go_wp2_with (refine wpList_load_row rfl 28 (.tmp 1) rfl w.heap.size rfl 28 _ (0, 0) _ x0 Tryd.underlying28 rfl (by kernel_rfl) ?_)
    refine (DP.out W1 HH.out Hp.out).mono ?_
    rintro e w2 ⟨rfl, b2⟩
    have hb2 := b0.trans (b2.mono b0.size)
    have x2 := x0.bel b2
    have H2 := Lib.hid (HH.out.bel b2)
    have P2 := Lib.hid (Hp.out.bel b2)
    clear b2 x0 b0 HH Hp
    go_wp2_with (refine wpList_load_row rfl 28 (.tmp 1) rfl w.heap.size rfl 28 _ (0, 0) _ x2 Tryd.underlying28 rfl (by kernel_rfl) ?_)
    refine (DR.out w2 H2.out).mono ?_
    rintro e w3 ⟨rfl, b3⟩
    have hb3 := hb2.trans (b3.mono hb2.size)
    have x3 := x2.bel b3
    have H3 := Lib.hid (H2.out.bel b3)
    have P3 := Lib.hid (P2.out.bel b3)
    clear b3 x2 hb2 H2 P2
    go_wp2_with fail
    refine (DA.out _).mono ?_
    rintro e w4 ⟨rfl, b4⟩
    have hb4 := hb3.trans (b4.mono hb3.size)
    have x4 := x3.bel b4
    have H4 := Lib.hid (H3.out.bel b4)
    have c0 := x4.cell (i := 0) rfl
    have c1 := x4.cell (i := 1) rfl
    have c2 := x4.cell (i := 2) rfl
    have c3 := x4.cell (i := 3) rfl
    have c4 := x4.cell (i := 4) rfl
    have c5 := x4.cell (i := 5) rfl
    have c6 := x4.cell (i := 6) rfl
    go_wp2_with fail
    refine (DS.out _ H4.out).mono ?_
    rintro e w5 ⟨rfl, b5⟩
    have hb5 := hb4.trans (b5.mono hb4.size)
    go_wp2_with fail
    go_ret
    exact ⟨rfl, hb5⟩
  | true =>
    have Hok := Lib.hid hok
    have DP : Hid (∀ W, PlIn W p → Pow W → Calls Tryd.prog 7 #[.agg (plV p)] W fun e w' => e = .returned (.tuple #[.string (textB p), .int .i64 0]) ∧ Below W.heap.size W w') := Lib.hid (fun W h1 h2 => by have := print_any p W h1 h2; rw [hok] at this; exact this)
    have DR : Hid (∀ W, PlIn W p → Calls Tryd.prog 12 #[.agg (plV p)] W fun e w' => e = .returned (.bool true) ∧ Below W.heap.size W w') := Lib.hid (fun W h1 => by have := rright_any p W h1; rw [hok] at this; exact this)
    have DS : Hid (∀ W, PlIn W p → Calls Tryd.prog 9 #[.agg (plV p)] W fun e w' => e = .returned (.bool true) ∧ Below W.heap.size W w') := Lib.hid (fun W h1 => by have := sright_any p W h1; rw [hok] at this; exact this)
    have DA := Lib.hid alive24_any
    have DT := Lib.hid (rtext_any p)
    clear hok
    obtain ⟨T, hT⟩ : ∃ x, x = textB p := ⟨_, rfl⟩
    rw [← hT] at DP DT
    clear hT H hp
    obtain ⟨V, hV⟩ : ∃ x, x = plV p := ⟨_, rfl⟩
    have hV7 : ∃ v0 v1 v2 v3 v4 v5 v6, V = #[v0, v1, v2, v3, v4, v5, v6] := ⟨_, _, _, _, _, _, _, hV⟩
    rw [← hV] at b0 x0 Hp HH DP DR DS DT ⊢
    clear hV
    obtain ⟨v0, v1, v2, v3, v4, v5, v6, rfl⟩ := hV7
    go_enter Tryd.func5, Tryd.ntmps5
    go_upto_region 1 with fail
    generalize w.alloc (.cells #[v0, v1, v2, v3, v4, v5, v6] 28) = W1 at *
    go_wp2_with (refine wpList_load_row rfl 28 (.tmp 1) rfl w.heap.size rfl 28 _ (0, 0) _ x0 Tryd.underlying28 rfl (by kernel_rfl) ?_)
    refine (DP.out W1 HH.out Hp.out).mono ?_
    rintro e w2 ⟨rfl, b2⟩
    have hb2 := b0.trans (b2.mono b0.size)
    have x2 := x0.bel b2
    have H2 := Lib.hid (HH.out.bel b2)
    have P2 := Lib.hid (Hp.out.bel b2)
    clear b2 x0 b0 HH Hp
    go_wp2_with (refine wpList_load_row rfl 28 (.tmp 1) rfl w.heap.size rfl 28 _ (0, 0) _ x2 Tryd.underlying28 rfl (by kernel_rfl) ?_)
    refine (DR.out w2 H2.out).mono ?_
    rintro e w3 ⟨rfl, b3⟩
    have hb3 := hb2.trans (b3.mono hb2.size)
    have x3 := x2.bel b3
    have H3 := Lib.hid (H2.out.bel b3)
    have P3 := Lib.hid (P2.out.bel b3)
    clear b3 x2 hb2 H2 P2
    go_wp2_with fail
    refine (DA.out _).mono ?_
    rintro e w4 ⟨rfl, b4⟩
    have hb4 := hb3.trans (b4.mono hb3.size)
    have x4 := x3.bel b4
    have H4 := Lib.hid (H3.out.bel b4)
    have P4 := Lib.hid (P3.out.bel b4)
    have c0 := x4.cell (i := 0) rfl
    have c1 := x4.cell (i := 1) rfl
    have c2 := x4.cell (i := 2) rfl
    have c3 := x4.cell (i := 3) rfl
    have c4 := x4.cell (i := 4) rfl
    have c5 := x4.cell (i := 5) rfl
    have c6 := x4.cell (i := 6) rfl
    go_wp2_with fail
    refine (DS.out _ H4.out).mono ?_
    rintro e w5 ⟨rfl, b5⟩
    have hb5 := hb4.trans (b5.mono hb4.size)
    have x5 := x4.bel b5
    have H5 := Lib.hid (H4.out.bel b5)
    have P5 := Lib.hid (P4.out.bel b5)
    clear c0 c1 c2 c3 c4 c5 c6
    have c0 := x5.cell (i := 0) rfl
    have c1 := x5.cell (i := 1) rfl
    have c2 := x5.cell (i := 2) rfl
    have c3 := x5.cell (i := 3) rfl
    have c4 := x5.cell (i := 4) rfl
    have c5 := x5.cell (i := 5) rfl
    have c6 := x5.cell (i := 6) rfl
    go_wp2_with fail
    refine (DT.out _ H5.out P5.out Hok.out).mono ?_
    rintro e w6 ⟨rfl, b6⟩
    have hb6 := hb5.trans (b6.mono hb5.size)
    go_wp2_with fail
    go_ret
    exact ⟨by simp, hb6⟩
end Go.Proofs.YtdilgmokiclfaaaDoor
