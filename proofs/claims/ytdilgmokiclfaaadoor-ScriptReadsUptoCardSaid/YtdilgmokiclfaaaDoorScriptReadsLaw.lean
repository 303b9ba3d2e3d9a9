/- Chapter 24: ScriptReads. -/
import Derived.Test.YtdilgmokiclfaaaDoorScRf
import Derived.Test.YtdilgmokiclfaaaDoorScRh
import Derived.Test.YtdilgmokiclfaaaDoorScYb
import Derived.Test.YtdilgmokiclfaaaDoorScH
namespace Go.Proofs.YtdilgmokiclfaaaDoor
open Go.RowKit
set_option linter.unusedVariables false
set_option maxRecDepth 100000

/-- The plan that holds nothing. -/
def pz0 : PlD := ⟨0, none, 0, [], none, 0, [], none, 0, []⟩
theorem pz0_v : plV pz0 = plZ := by kernel_rfl
theorem pz0_in (w : World) : PlIn w pz0 := ⟨(by show 0 < pw 4; decide), frS_nil w, ⟨rfl, Nat.le_refl _, Nat.zero_le _, fun e he => (by cases he), fun h => (by cases h)⟩, frS_nil w⟩
def plR : Nat ⊕ PlR → PlR
  | .inl _ => ⟨0, [], [], []⟩
  | .inr d => d
def erR : Nat ⊕ PlR → Int
  | .inl _ => 90
  | .inr _ => 0
def lnR : Nat ⊕ PlR → Int
  | .inl n => (n : Int)
  | .inr _ => 0
/-- Whatever Parse answers, it is a plan, an error and a number that the text gives. -/
theorem PaOut.uni {R : Nat ⊕ PlR} {w w' : World} {e : Ending} (h : PaOut R w e w') : Below w.heap.size w w' ∧ ∃ p : PlD, PlIn w' p ∧ p.r = plR R ∧ e = .returned (.tuple #[.agg (plV p), .int .i64 (erR R), .int .i64 (lnR R)]) := by
  cases R with
  | inl n =>
    obtain ⟨b, rfl⟩ := h
    exact ⟨b, pz0, pz0_in _, rfl, by rw [pz0_v]; rfl⟩
  | inr d =>
    obtain ⟨b, p, h1, h2, rfl⟩ := h
    exact ⟨b, p, h2, h1, rfl⟩
theorem script_parse2 (s : ByteArray) (w : World) (he : Env w) (hs : s.size ≤ 50000000) :
    Calls Tryd.prog 10 #[.string s] w fun e w' => PaOut (parseR s) w e w' := parse_any (fun line w he hl => parseOp_any line w he hl) s w he hs
set_option maxHeartbeats 4000000 in
/-- ScriptReads -/
theorem scriptReads_any (s : ByteArray) (w : World) (he : Env w) (hs : s.size ≤ 50000000) :
    Calls Tryd.prog 6 #[.string s] w fun e w' => e = .returned (.bool true) ∧ Below w.heap.size w w' := by
  have D1 := Lib.hid (script_parse2 s w he hs)
  have D2 := Lib.hid (fun W h => rparse_any (fun t b o N c ws w ht H he hn hm => rop2_any t b o N c ws w ht H he hn hm) s W h hs)
  have DA := Lib.hid alive24_any
  have HE := Lib.hid he
  obtain ⟨R, hR⟩ : ∃ x, x = parseR s := ⟨_, rfl⟩
  rw [← hR] at D1 D2
  clear he hs hR
  go_enter Tryd.func6, Tryd.ntmps6
  go_wp2_with fail
  refine (D1.out).mono ?_
  rintro e w1 h1
  obtain ⟨b1, p, hp, hpr, rfl⟩ := PaOut.uni h1
  obtain ⟨E0, hE0⟩ : ∃ x, x = erR R := ⟨_, rfl⟩
  obtain ⟨L0, hL0⟩ : ∃ x, x = lnR R := ⟨_, rfl⟩
  rw [← hE0, ← hL0]
  have HE0 := Lib.hid hE0
  have HL0 := Lib.hid hL0
  have HPR := Lib.hid hpr
  have ba := (Below.refl w1.heap.size w1).alloc (Nat.le_refl _) (.cells (plV p) 28)
  have hb2 := Lib.hid (b1.trans (ba.mono b1.size))
  have P2 := Lib.hid (hp.bel ba)
  have E2 := Lib.hid ((HE.out.bel b1).bel ba)
  have x2 := Bk.new w1 28 (plV p)
  have DL : Hid (∀ (q : PlD) (W : World), PlIn W p → PlIn W q → p.r = q.r → Calls Tryd.prog 11 #[.agg (plV p), .agg (plV q)] W fun e w' => e = .returned (.bool true) ∧ Below W.heap.size W w') := Lib.hid (fun q W h1 h2 h3 => like_any p q W h1 h2 h3)
  obtain ⟨V, hV⟩ : ∃ x, x = plV p := ⟨_, rfl⟩
  have hV7 : ∃ v0 v1 v2 v3 v4 v5 v6, V = #[v0, v1, v2, v3, v4, v5, v6] ∧ (V.all (·.oneCell') = true) := ⟨_, _, _, _, _, _, _, hV, by rw [hV]; exact plV_one p⟩
  rw [← hV] at x2 hb2 P2 E2 DL ⊢
  clear hV D1 b1 ba hp h1 hE0 hL0 hpr
  obtain ⟨v0, v1, v2, v3, v4, v5, v6, rfl, hone⟩ := hV7
  go_upto_region 2 with (refine wpList_store_newC rfl 28 (.tmp 3) (.tmp 12) rfl #[v0, v1, v2, v3, v4, v5, v6] w1.heap.size rfl rfl rfl 28 _ (by kernel_rfl) (by kernel_rfl) hone ?_)
  generalize w1.alloc (.cells #[v0, v1, v2, v3, v4, v5, v6] 28) = W2 at *
  have DB := Lib.hid (D2.out W2 E2.out)
  clear D2
  go_wp2_with fail
  refine (DB.out).mono ?_
  rintro e w3 h3
  obtain ⟨b3, q, hq, hqr, rfl⟩ := PaOut.uni h3
  rw [← HE0.out, ← HL0.out]
  have bc := (Below.refl w3.heap.size w3).alloc (Nat.le_refl _) (.cells (plV q) 28)
  have hb3 := hb2.out.trans (b3.mono hb2.out.size)
  have hb4 := Lib.hid (hb3.trans (bc.mono hb3.size))
  have P4 := Lib.hid ((P2.out.bel b3).bel bc)
  have Q4 := Lib.hid (hq.bel bc)
  have x4 := (x2.bel b3).bel bc
  have y4 := Bk.new w3 28 (plV q)
  have DM := Lib.hid (fun W h1 h2 => DL.out q W h1 h2 (HPR.out.trans hqr.symm))
  obtain ⟨U, hU⟩ : ∃ x, x = plV q := ⟨_, rfl⟩
  have hU7 : ∃ u0 u1 u2 u3 u4 u5 u6, U = #[u0, u1, u2, u3, u4, u5, u6] ∧ (U.all (·.oneCell') = true) := ⟨_, _, _, _, _, _, _, hU, by rw [hU]; exact plV_one q⟩
  rw [← hU] at x4 hb4 P4 Q4 y4 DM ⊢
  clear hU DL DB b3 bc hb3 hq hqr h3 x2
  obtain ⟨u0, u1, u2, u3, u4, u5, u6, rfl, hone2⟩ := hU7
  go_upto_region 3 with (refine wpList_store_newC rfl 28 (.tmp 6) (.tmp 18) rfl #[u0, u1, u2, u3, u4, u5, u6] w3.heap.size rfl rfl rfl 28 _ (by kernel_rfl) (by kernel_rfl) hone2 ?_)
  generalize w3.alloc (.cells #[u0, u1, u2, u3, u4, u5, u6] 28) = W4 at *
  have DA4 := Lib.hid (DA.out W4)
  have HX4 := Lib.hid x4
  have HY4 := Lib.hid y4
  clear x4 y4 DA
  go_wp2_with fail
  refine (DA4.out).mono ?_
  rintro e w5 ⟨rfl, b5⟩
  have x5 := HX4.out.bel b5
  have y5 := HY4.out.bel b5
  have hb5 := hb4.out.trans (b5.mono hb4.out.size)
  have P5 := Lib.hid (P4.out.bel b5)
  have Q5 := Lib.hid (Q4.out.bel b5)
  have c0 := x5.cell (i := 0) rfl
  have c1 := x5.cell (i := 1) rfl
  have c2 := x5.cell (i := 2) rfl
  have c3 := x5.cell (i := 3) rfl
  have c4 := x5.cell (i := 4) rfl
  have c5 := x5.cell (i := 5) rfl
  have c6 := x5.cell (i := 6) rfl
  have d0 := y5.cell (i := 0) rfl
  have d1 := y5.cell (i := 1) rfl
  have d2 := y5.cell (i := 2) rfl
  have d3 := y5.cell (i := 3) rfl
  have d4 := y5.cell (i := 4) rfl
  have d5 := y5.cell (i := 5) rfl
  have d6 := y5.cell (i := 6) rfl
  go_wp2_with fail
  refine (DM.out w5 P5.out Q5.out).mono ?_
  rintro e w6 ⟨rfl, b6⟩
  go_wp2_with fail
  go_ret
  exact ⟨rfl, hb5.trans (b6.mono hb5.size)⟩
end Go.Proofs.YtdilgmokiclfaaaDoor
