/- Chapter 24: ScriptOnce. -/
import Derived.Test.YtdilgmokiclfaaaDoorScYb
namespace Go.Proofs.YtdilgmokiclfaaaDoor
open Go.RowKit
set_option linter.unusedVariables false
set_option maxRecDepth 100000

/-- The plan that holds nothing. -/
def pz : PlD := ⟨0, none, 0, [], none, 0, [], none, 0, []⟩
theorem pz_v : plV pz = plZ := by kernel_rfl
theorem pz_in (w : World) : PlIn w pz := ⟨(by show 0 < pw 4; decide), frS_nil w, ⟨rfl, Nat.le_refl _, Nat.zero_le _, fun e he => (by cases he), fun h => (by cases h)⟩, frS_nil w⟩
theorem script_parse (s : ByteArray) (w : World) (he : Env w) (hs : s.size ≤ 50000000) :
    Calls Tryd.prog 10 #[.string s] w fun e w' => PaOut (parseR s) w e w' := parse_any (fun line w he hl => parseOp_any line w he hl) s w he hs
set_option maxHeartbeats 4000000 in
/-- ScriptOnce -/
theorem scriptOnce_any (s : ByteArray) (w : World) (he : Env w) (hs : s.size ≤ 50000000) :
    Calls Tryd.prog 4 #[.string s] w fun e w' => e = .returned (.bool true) ∧ Below w.heap.size w w' := by
  have D1 := Lib.hid (script_parse s w he hs)
  have DA := Lib.hid alive24_any
  have HE := Lib.hid he
  have hkey : ∀ d, parseR s = .inr d → textR d = s ∧ plOkR d = true := fun d h => text_parse h
  have HKEY := Lib.hid hkey
  obtain ⟨R, hR⟩ : ∃ x, x = parseR s := ⟨_, rfl⟩
  rw [← hR] at D1 HKEY
  clear hkey he hs hR
  go_enter Tryd.func4, Tryd.ntmps4
  go_wp2_with fail
  refine (D1.out).mono ?_
  rintro e w1 ⟨b1, hout⟩
  cases R with
  | inl n =>
    obtain rfl := hout
    have DL : Hid (∀ W, Calls Tryd.prog 11 #[.agg plZ, .agg plZ] W fun e w' => e = .returned (.bool true) ∧ Below W.heap.size W w') :=
      Lib.hid (fun W => by have := like_any pz pz W (pz_in W) (pz_in W) rfl; rw [pz_v] at this; exact this)
    have x2 := Bk.new w1 28 plZ
    have b2 := b1.trans (((Below.refl w1.heap.size w1).alloc (Nat.le_refl _) (.cells plZ 28)).mono b1.size)
    have HB2 := Lib.hid b2
    have hb1 := Lib.hid b1
    unfold plZ at *
    clear D1 HKEY b1 b2
    go_wp2_with (refine wpList_store_newC rfl 28 (.tmp 3) (.tmp 11) rfl #[.int .u64 0, .int .u64 0, .int .u64 0, .int .u64 0, .slice none 0 0, .slice none 0 0, .slice none 0 0] w1.heap.size rfl rfl rfl 28 _ (by kernel_rfl) (by kernel_rfl) (by kernel_rfl) ?_)
    generalize w1.alloc (.cells #[.int .u64 0, .int .u64 0, .int .u64 0, .int .u64 0, .slice none 0 0, .slice none 0 0, .slice none 0 0] 28) = W2 at *
    refine (DA.out _).mono ?_
    rintro e w3 ⟨rfl, b3⟩
    have x3 := x2.bel b3
    have hb3 := HB2.out.trans (b3.mono HB2.out.size)
    have c0 := x3.cell (i := 0) rfl
    have c1 := x3.cell (i := 1) rfl
    have c2 := x3.cell (i := 2) rfl
    have c3 := x3.cell (i := 3) rfl
    have c4 := x3.cell (i := 4) rfl
    have c5 := x3.cell (i := 5) rfl
    have c6 := x3.cell (i := 6) rfl
    go_wp2_with fail
    refine (DL.out _).mono ?_
    rintro e w4 ⟨rfl, b4⟩
    go_wp2_with fail
    go_ret
    exact ⟨rfl, hb3.trans (b4.mono hb3.size)⟩
  | inr d =>
    obtain ⟨p, hp, hin, rfl⟩ := hout
    obtain ⟨ht, hok⟩ := HKEY.out d rfl
    rw [← hp, ← textB_R] at ht
    rw [← hp, ← plOk_R] at hok
    have HE1 := Lib.hid (HE.out.bel b1)
    have DP : Hid (∀ W, PlIn W p → Pow W → Calls Tryd.prog 7 #[.agg (plV p)] W fun e w' => e = .returned (.tuple #[.string s, .int .i64 0]) ∧ Below W.heap.size W w') := Lib.hid (fun W h1 h2 => by have := print_any p W h1 h2; rw [hok, ht] at this; exact this)
    have HIN := Lib.hid hin
    have b2 := b1.trans (((Below.refl w1.heap.size w1).alloc (Nat.le_refl _) (.cells (plV p) 28)).mono b1.size)
    have i2 := (HIN.out.bel ((Below.refl w1.heap.size w1).alloc (Nat.le_refl _) (.cells (plV p) 28)))
    have e2 := (HE1.out.bel ((Below.refl w1.heap.size w1).alloc (Nat.le_refl _) (.cells (plV p) 28)))
    have x2 := Bk.new w1 28 (plV p)
    have HB2 := Lib.hid b2
    have I2 := Lib.hid i2
    have E2 := Lib.hid e2
    obtain ⟨V, hV⟩ : ∃ x, x = plV p := ⟨_, rfl⟩
    have hV7 : ∃ v0 v1 v2 v3 v4 v5 v6, V = #[v0, v1, v2, v3, v4, v5, v6] ∧ (V.all (·.oneCell') = true) := ⟨_, _, _, _, _, _, _, hV, by rw [hV]; exact plV_one p⟩
    rw [← hV] at x2 HB2 I2 E2 DP ⊢
    clear hV D1 HKEY b1 b2 i2 e2 hin ht hok hp HE
    obtain ⟨v0, v1, v2, v3, v4, v5, v6, rfl, hone⟩ := hV7
    go_wp2_with (refine wpList_store_newC rfl 28 (.tmp 3) (.tmp 11) rfl #[v0, v1, v2, v3, v4, v5, v6] w1.heap.size rfl rfl rfl 28 _ (by kernel_rfl) (by kernel_rfl) hone ?_)
    go_wp2_with (refine wpList_load_row rfl 28 (.tmp 3) rfl w1.heap.size rfl 28 _ (0, 0) _ x2 Tryd.underlying28 rfl (by kernel_rfl) ?_)
    generalize w1.alloc (.cells #[v0, v1, v2, v3, v4, v5, v6] 28) = W2 at *
    refine (DP.out _ I2.out E2.out.pow).mono ?_
    rintro e w3 ⟨rfl, b3⟩
    have hb3 := HB2.out.trans (b3.mono HB2.out.size)
    go_wp2_with fail
    refine (DA.out _).mono ?_
    rintro e w4 ⟨rfl, b4⟩
    go_wp2_with fail
    go_ret
    exact ⟨by simp, hb3.trans (b4.mono hb3.size)⟩
end Go.Proofs.YtdilgmokiclfaaaDoor
