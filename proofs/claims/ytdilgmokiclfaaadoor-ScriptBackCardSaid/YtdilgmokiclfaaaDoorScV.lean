/- Chapter 24: the words of a line. -/
import Derived.Test.YtdilgmokiclfaaaDoorScL
import Derived.Test.YtdilgmokiclfaaaDoorScU
namespace Go.Proofs.YtdilgmokiclfaaaDoor
open Go.RowKit
set_option linter.unusedVariables false
set_option maxRecDepth 100000

/-- Only block b may have turned; new blocks may have come. -/
structure Only (b : Nat) (w w' : World) : Prop where
  os : w'.os = w.os
  tape : w'.tape = w.tape
  output : w'.output = w.output
  size : w.heap.size ≤ w'.heap.size
  block : ∀ k, k < w.heap.size → k ≠ b → w'.heap[k]? = w.heap[k]?
theorem Only.refl (b : Nat) (w : World) : Only b w w := ⟨rfl, rfl, rfl, Nat.le_refl _, fun _ _ _ => rfl⟩
theorem Only.trans {b : Nat} {w w1 w2 : World} (h : Only b w w1) (h2 : Only b w1 w2) : Only b w w2 :=
  ⟨h2.os.trans h.os, h2.tape.trans h.tape, h2.output.trans h.output, Nat.le_trans h.size h2.size, fun k hk hb => (h2.block k (Nat.lt_of_lt_of_le hk h.size) hb).trans (h.block k hk hb)⟩
theorem Only.of_below {b : Nat} {w w' : World} (h : Below w.heap.size w w') : Only b w w' := ⟨h.os, h.tape, h.output, h.size, fun k hk _ => h.block k hk⟩
theorem Only.setCell (b : Nat) (w : World) (j : Nat) (v : Value) : Only b w (w.setCell ⟨b, j, none⟩ v) := ⟨rfl, rfl, rfl, by rw [World.size_setCell]; exact Nat.le_refl _, fun k _ hb => Below.heap_setCell w ⟨b, j, none⟩ v k hb⟩
theorem Only.below {b B : Nat} {w w' : World} (h : Only b w w') (hB : B ≤ b) (hBw : B ≤ w.heap.size) : Below B w w' := ⟨h.os, h.tape, h.output, h.size, fun k hk => h.block k (by omega) (by omega)⟩
theorem Only.bk {b g : Nat} {w w' : World} {T : TypeId} {vs : Array Value} (h : Only b w w') (x : Bk w g T vs) (hg : g ≠ b) : Bk w' g T vs := (h.block g x.lt hg).trans x
theorem Only.cell {b : Nat} {w w' : World} (h : Only b w w') {p : Addr} (hl : p.block < w.heap.size) (hb : p.block ≠ b) : w'.cell? p = w.cell? p := World.cell?_of_block (h.block _ hl hb)
/-- The words that are left, and whether one was wrong. -/
def WdS (w : World) (b : Nat) (bad : Bool) (ws : List ByteArray) : Prop :=
  ∃ sb so c, Bk w b 93 #[.slice (some ⟨sb, so, none⟩) ws.length c, .bool bad] ∧ ws.length ≤ c ∧ c ≤ maxLen ∧ sb < w.heap.size ∧ sb < b ∧ ∀ (j : Nat) x, ws[j]? = some x → w.cell? ⟨sb, so + j, none⟩ = some (.string x)
theorem WdS.lt {w : World} {b : Nat} {bad : Bool} {ws : List ByteArray} (h : WdS w b bad ws) : b < w.heap.size := by obtain ⟨_, _, _, h, _⟩ := h; exact h.lt
theorem WdS.bel {w w' : World} {b : Nat} {bad : Bool} {ws : List ByteArray} (h : WdS w b bad ws) (hb : Below w.heap.size w w') : WdS w' b bad ws := by
  obtain ⟨sb, so, c, h1, h2, h3, h4, h5, h6⟩ := h
  exact ⟨sb, so, c, h1.bel hb, h2, h3, Nat.lt_of_lt_of_le h4 hb.size, h5, fun j x hj => (hb.cell (p := ⟨sb, so + j, none⟩) h4).trans (h6 j x hj)⟩
/-- The cells 0, 2, 3 of the world: what the library's Split, Cut and Atoi read. -/
structure Env (w : World) : Prop where
  m : ∃ m, w.cell? ⟨0, 0, none⟩ = some (.int .i64 m)
  es : ∃ te pe, w.cell? ⟨2, 0, none⟩ = some (.iface te pe)
  er : ∃ te pe, w.cell? ⟨3, 0, none⟩ = some (.iface te pe)
  pow : Pow w
theorem Env.lt {w : World} (h : Env w) : 3 < w.heap.size := by
  obtain ⟨_, _, h⟩ := h.er
  exact World.block_lt_of_cell? _ _ h
theorem Pow.same {w w' : World} (h : Pow w) (hk : w'.heap[1]? = w.heap[1]?) : Pow w' := by
  have hg : Tryd.prog.globalNamed "internal/strconv.uint64pow10" = some 1 := by kernel_rfl
  unfold Pow Lib.TabIs World.var? at *
  rw [hg] at h ⊢
  simp only [Option.bind_some] at h ⊢
  rw [hk]
  exact h
theorem Env.below {w w' : World} {B : Nat} (h : Env w) (hb : Below B w w') (hB : 3 < B) : Env w' := by
  obtain ⟨m, hm⟩ := h.m
  obtain ⟨t1, p1, h1⟩ := h.es
  obtain ⟨t2, p2, h2⟩ := h.er
  exact ⟨⟨m, (hb.cell (p := ⟨0, 0, none⟩) (show 0 < B by omega)).trans hm⟩, ⟨t1, p1, (hb.cell (p := ⟨2, 0, none⟩) (show 2 < B by omega)).trans h1⟩, ⟨t2, p2, (hb.cell (p := ⟨3, 0, none⟩) (show 3 < B by omega)).trans h2⟩, h.pow.same (hb.block _ (show 1 < B by omega))⟩
theorem Env.bel {w w' : World} (h : Env w) (hb : Below w.heap.size w w') : Env w' := h.below hb h.lt
theorem below_weak {w w0 w' : World} {B : Nat} (h : Below w0.heap.size w0 w) (h2 : Below B w w') (hB : w0.heap.size ≤ B) : Below w0.heap.size w0 w' := h.trans (h2.mono hB)
set_option maxHeartbeats 2000000 in
/-- words.next, where one is left -/
theorem next_some (b : Nat) (bad : Bool) (x : ByteArray) (ws : List ByteArray) (w : World) (h : WdS w b bad (x :: ws)) :
    Calls Tryd.prog 57 #[.pointer (some ⟨b, 0, none⟩)] w fun e w' => e = .returned (.string x) ∧ WdS w' b bad ws ∧ Only b w w' := by
  obtain ⟨sb, so, c, h1, h2, h3, h4, h5, h6⟩ := h
  have hx := h6 0 x rfl
  have c0 := h1.cell (i := 0) rfl
  have f0 := h1.frozen 0
  have hal : Tryd.prog.cellsOf 9 = 1 := by kernel_rfl
  obtain ⟨n, hn⟩ : ∃ n, ws.length = n := ⟨_, rfl⟩
  have hl : (x :: ws).length = n + 1 := by rw [List.length_cons, hn]
  rw [hl] at c0 h1 h2
  have hq : (((n + 1 : Nat) : Int) == 0) = false := beq_eq_false_iff_ne.2 (by omega)
  have H6 := Lib.hid h6
  have HN := Lib.hid hn
  unfold maxLen at h3
  have hc1 : (1 : Int) ≤ (c : Int) := by omega
  have hx' : w.cell? ⟨sb, so, none⟩ = some (.string x) := hx
  clear h6 hn hl hx
  go_enter Tryd.func57, Tryd.ntmps57
  go_wp2_with fail
  · rename_i hc
    obtain rfl : n = 0 := by omega
    have hws : ws = [] := List.eq_nil_of_length_eq_zero HN.out
    subst hws
    go_ret
    exact ⟨rfl, ⟨sb, so, 0, h1.set 0 _, Nat.le_refl _, Nat.zero_le _, by rw [World.size_setCell]; exact h4, h5, fun j x hj => (by simp at hj)⟩, Only.setCell b w 0 _⟩
  · rename_i hc
    go_ret
    refine ⟨rfl, ⟨sb, so + 1, c - 1, ?_, by rw [HN.out]; omega, by unfold maxLen; omega, by rw [World.size_setCell]; exact h4, h5, fun j y hj => ?_⟩, Only.setCell b w 0 _⟩
    · rw [HN.out]; exact h1.set 0 _
    · rw [World.cell?_of_block (a := ⟨sb, so + 1 + j, none⟩) (Below.heap_setCell w ⟨b, 0, none⟩ _ sb (Nat.ne_of_lt h5))]
      have := H6.out (j + 1) y (by simpa using hj)
      rw [show so + 1 + j = so + (j + 1) by omega]
      exact this
set_option maxHeartbeats 2000000 in
/-- words.next, where none is left -/
theorem next_none (b : Nat) (bad : Bool) (w : World) (h : WdS w b bad []) :
    Calls Tryd.prog 57 #[.pointer (some ⟨b, 0, none⟩)] w fun e w' => e = .returned (.string ⟨#[]⟩) ∧ WdS w' b true [] ∧ Only b w w' := by
  obtain ⟨sb, so, c, h1, h2, h3, h4, h5, h6⟩ := h
  have c0 := h1.cell (i := 0) rfl
  have c1 := h1.cell (i := 1) rfl
  have f1 := h1.frozen 1
  have hl : ([] : List ByteArray).length = 0 := rfl
  rw [hl] at c0
  go_enter Tryd.func57, Tryd.ntmps57
  go_wp2_with fail
  go_ret
  exact ⟨rfl, ⟨sb, so, c, h1.set 1 _, h2, h3, by rw [World.size_setCell]; exact h4, h5, fun j x hj => (by simp at hj)⟩, Only.setCell b w 1 _⟩
theorem next_any (b : Nat) (bad : Bool) (ws : List ByteArray) (w : World) (h : WdS w b bad ws) :
    Calls Tryd.prog 57 #[.pointer (some ⟨b, 0, none⟩)] w fun e w' => e = .returned (.string (ws.headD ⟨#[]⟩)) ∧ WdS w' b (bad || ws.isEmpty) ws.tail ∧ Only b w w' := by
  cases ws with
  | nil =>
    refine (next_none b bad w h).mono ?_
    rintro e w' ⟨rfl, h2, h3⟩
    exact ⟨rfl, by simpa using h2, h3⟩
  | cons x r =>
    refine (next_some b bad x r w h).mono ?_
    rintro e w' ⟨rfl, h2, h3⟩
    exact ⟨rfl, by simpa using h2, h3⟩
theorem WdS.bad {w : World} {b : Nat} {bad : Bool} {ws : List ByteArray} (h : WdS w b bad ws) : WdS (w.setCell ⟨b, 1, none⟩ (.bool true)) b true ws := by
  obtain ⟨sb, so, c, h1, h2, h3, h4, h5, h6⟩ := h
  exact ⟨sb, so, c, h1.set 1 _, h2, h3, by rw [World.size_setCell]; exact h4, h5, fun j x hj => (World.cell?_of_block (a := ⟨sb, so + j, none⟩) (Below.heap_setCell w ⟨b, 1, none⟩ _ sb (Nat.ne_of_lt h5))).trans (h6 j x hj)⟩
theorem WdS.f1 {w : World} {b : Nat} {bad : Bool} {ws : List ByteArray} (h : WdS w b bad ws) : w.frozen? ⟨b, 1, none⟩ = false ∧ w.cell? ⟨b, 1, none⟩ = some (.bool bad) := by
  obtain ⟨sb, so, c, h1, _⟩ := h
  exact ⟨h1.frozen 1, h1.cell rfl⟩
theorem IntS.new1 (w : World) (v : Int) : IntS (w.alloc (.cells #[.int .i64 v] 3)) (some ⟨w.heap.size, 0, none⟩) 1 1 [v] := by
  have h := Bk.new w 3 #[.int .i64 v]
  refine ⟨rfl, Nat.le_refl _, by decide, fun _ => ⟨w.heap.size, 0, rfl, h.lt, fun i hi => ?_⟩⟩
  have hi' : i = 0 := by simp at hi; omega
  subst hi'
  exact h.cell rfl
/-- What a number's word answers. -/
def smallB (s : ByteArray) : Option Int :=
  match Lib.atoiAll s.data.toList with
  | .ok v => if inB v && decide (itB v = s) then some v else none
  | _ => none
theorem below_bytesWorld (w : World) (t : ByteArray) : Below w.heap.size w (Lib.bytesWorld w 5 t) :=
  ⟨rfl, rfl, rfl, by rw [Lib.bytesWorld_size]; omega, fun k hk => Lib.bytesWorld_at_old w _ t k hk⟩
set_option maxHeartbeats 4000000 in
/-- words.small -/
theorem wsmall_any (b : Nat) (bad : Bool) (ws : List ByteArray) (w : World) (h : WdS w b bad ws) (he : Env w) (hb : 3 < b) (hs : (ws.headD ⟨#[]⟩).size ≤ 100000000) :
    Calls Tryd.prog 59 #[.pointer (some ⟨b, 0, none⟩)] w fun e w' => e = .returned (.int .i64 ((smallB (ws.headD ⟨#[]⟩)).getD 0)) ∧ WdS w' b (bad || (smallB (ws.headD ⟨#[]⟩)).isNone) ws.tail ∧ Only b w w' := by
  have D1 := Lib.hid (next_any b bad ws w h)
  have HE := Lib.hid he
  have HWL := Lib.hid h.lt
  obtain ⟨s, hsx⟩ : ∃ x, x = ws.headD ⟨#[]⟩ := ⟨_, rfl⟩
  rw [← hsx] at hs D1 ⊢
  have HEMP := Lib.hid (show ws.isEmpty = true → s = ⟨#[]⟩ from fun e => by rw [hsx, List.isEmpty_iff.1 e]; rfl)
  clear hsx h he
  go_enter Tryd.func59, Tryd.ntmps59
  go_wp2_with fail
  refine (D1.out).mono ?_
  rintro e w1 ⟨rfl, hw1, o1⟩
  have HW1 := Lib.hid hw1
  have O1 := Lib.hid o1
  have HE1 := Lib.hid (HE.out.below (o1.below (B := b) (Nat.le_refl _) (by have := HWL.out; omega)) hb)
  dsimp only
  have S1 := Lib.hid (strN_bytesN s)
  cases hat : Lib.atoiAll s.data.toList with
  | ok v =>
    have hsv : smallB s = if inB v && decide (itB v = s) then some v else none := by unfold smallB; rw [hat]
    have D2 : Hid (Calls Tryd.prog 78 #[.string s] w1 fun e w' => e = .returned (.tuple #[.int .i64 v, .nilIface]) ∧ Below w1.heap.size w1 w') := Lib.hid ((Tryd.strconv_Atoi_ok s (by omega) v hat w1).mono fun e w' ⟨h1, h2⟩ => ⟨h1, by
      rcases h2 with rfl | ⟨t, rfl⟩
      · exact Below.refl _ _
      · exact below_bytesWorld w1 t⟩)
    have HSV := Lib.hid hsv
    have HAT := Lib.hid hat
    clear hsv hat
    go_wp2_with fail
    refine (D2.out).mono ?_
    rintro e w2 ⟨rfl, b2⟩
    have HW2 := Lib.hid (HW1.out.bel b2)
    have O2 := Lib.hid (O1.out.trans (Only.of_below b2))
    have HE2 := Lib.hid (HE1.out.bel b2)
    clear b2
    have HNE : Hid (ws.isEmpty = false) := Lib.hid (by
      cases he : ws.isEmpty with
      | false => rfl
      | true => have h1 := HAT.out; rw [HEMP.out he] at h1; simp [Lib.atoiAll] at h1)
    have I3 := Lib.hid (IntS.new1 w2 v)
    have b3 := (Below.refl w2.heap.size w2).alloc (Nat.le_refl _) (.cells #[.int .i64 v] 3)
    have HW3 := Lib.hid (HW2.out.bel b3)
    have O3 := Lib.hid (O2.out.trans (Only.of_below b3))
    have HE3 := Lib.hid (HE2.out.bel b3)
    clear b3
    go_wp2_with fail
    generalize w2.alloc (.cells #[.int .i64 v] 3) = w3 at *
    refine (ssmall_any _ 1 1 [v] w3 I3.out).mono ?_
    rintro e w4 ⟨rfl, b4⟩
    have hiv : [v].all inB = inB v := by simp
    rw [hiv]
    have HW4 := Lib.hid (HW3.out.bel b4)
    have O4 := Lib.hid (O3.out.trans (Only.of_below b4))
    have HE4 := Lib.hid (HE3.out.bel b4)
    clear b4 hiv
    cases hv : inB v with
    | false =>
      obtain ⟨f1, c1⟩ := HW4.out.f1
      have HV := Lib.hid hv
      clear hv
      go_wp2_with fail
      go_ret
      refine ⟨?_, ?_, O4.out.trans (Only.setCell b w4 1 _)⟩
      · rw [HSV.out, HV.out]; rfl
      · rw [HSV.out, HV.out]
        have := HW4.out.bad
        simpa using this
    | true =>
      have HV := Lib.hid hv
      clear hv
      go_wp2_with fail
      refine (itoa_any v w4 HE4.out.pow HV.out).mono ?_
      rintro e w5 ⟨rfl, b5⟩
      have HW5 := Lib.hid (HW4.out.bel b5)
      have O5 := Lib.hid (O4.out.trans (Only.of_below b5))
      clear b5
      have hse := str_beq (itB v) s
      cases hst : decide (itB v = s) with
      | true =>
        rw [hst] at hse
        have hne : ((itB v).toList != s.toList) = false := by simp only [bne, hse]; rfl
        have HST := Lib.hid hst
        clear hst
        go_wp2_with fail
        go_ret
        refine ⟨?_, ?_, O5.out⟩
        · rw [HSV.out, HV.out, HST.out]; rfl
        · rw [HSV.out, HV.out, HST.out]
          have := HW5.out
          rw [HNE.out] at this
          simpa using this
      | false =>
        rw [hst] at hse
        have hne : ((itB v).toList != s.toList) = true := by simp only [bne, hse]; rfl
        obtain ⟨f1, c1⟩ := HW5.out.f1
        have HST := Lib.hid hst
        clear hst
        go_wp2_with fail
        go_ret
        refine ⟨?_, ?_, O5.out.trans (Only.setCell b w5 1 _)⟩
        · rw [HSV.out, HV.out, HST.out]; rfl
        · rw [HSV.out, HV.out, HST.out]
          have := HW5.out.bad
          simpa using this
  | range =>
    have hsv : smallB s = none := by unfold smallB; rw [hat]
    obtain ⟨te, pe, hev⟩ := HE1.out.er
    obtain ⟨z, hz⟩ : ∃ z, z = Lib.atoiSat s.data.toList := ⟨_, rfl⟩
    have D2 : Hid (Calls Tryd.prog 78 #[.string s] w1 fun e w' => ∃ N, e = .returned (.tuple #[.int .i64 z, .iface 139 (.pointer (some ⟨N, 0, none⟩))]) ∧ Below w1.heap.size w1 w') := Lib.hid ((Tryd.strconv_Atoi_range s (by omega) hat _ w1 hev (.inr ⟨te, pe, rfl⟩)).mono fun e w' ⟨N, h1, _, _, h2⟩ => ⟨N, by rw [hz]; exact h1, h2⟩)
    have HSV := Lib.hid hsv
    clear hsv hat hev hz
    go_wp2_with fail
    refine (D2.out).mono ?_
    rintro e w2 ⟨N, rfl, b2⟩
    have HW2 := Lib.hid (HW1.out.bel b2)
    have O2 := Lib.hid (O1.out.trans (Only.of_below b2))
    obtain ⟨f1, c1⟩ := HW2.out.f1
    clear b2
    go_wp2_with fail
    go_ret
    refine ⟨by rw [HSV.out]; rfl, ?_, O2.out.trans (Only.setCell b w2 1 _)⟩
    rw [HSV.out]
    have := HW2.out.bad
    simpa using this
  | _ =>
    have hsv : smallB s = none := by unfold smallB; rw [hat]
    obtain ⟨te, pe, hev⟩ := HE1.out.es
    have D2 : Hid (Calls Tryd.prog 78 #[.string s] w1 fun e w' => ∃ N, e = .returned (.tuple #[.int .i64 0, .iface 139 (.pointer (some ⟨N, 0, none⟩))]) ∧ Below w1.heap.size w1 w') := Lib.hid ((Tryd.strconv_Atoi_syntax s (by omega) hat _ w1 hev (.inr ⟨te, pe, rfl⟩)).mono fun e w' ⟨N, h1, _, _, h2⟩ => ⟨N, h1, h2⟩)
    have HSV := Lib.hid hsv
    clear hsv hat hev
    go_wp2_with fail
    refine (D2.out).mono ?_
    rintro e w2 ⟨N, rfl, b2⟩
    have HW2 := Lib.hid (HW1.out.bel b2)
    have O2 := Lib.hid (O1.out.trans (Only.of_below b2))
    obtain ⟨f1, c1⟩ := HW2.out.f1
    clear b2
    go_wp2_with fail
    go_ret
    refine ⟨by rw [HSV.out]; rfl, ?_, O2.out.trans (Only.setCell b w2 1 _)⟩
    rw [HSV.out]
    have := HW2.out.bad
    simpa using this
theorem WdS.row {w : World} {b B : Nat} {T : TypeId} {bad : Bool} {ws : List ByteArray} {xs : List Nat} (h : WdS w b bad ws) (o : Own w B T .u64 xs) (hB : B ≠ b) (zs : Array Value) : WdS (w.setRow B zs) b bad ws := by
  obtain ⟨sb, so, c, h1, h2, h3, h4, h5, h6⟩ := h
  refine ⟨sb, so, c, (setRow_other _ _ _ _ (by omega)).trans h1, h2, h3, by simpa [World.setRow] using h4, h5, fun j x hj => ?_⟩
  have hx := h6 j x hj
  by_cases e : sb = B
  · subst e
    exfalso
    obtain ⟨k, hk⟩ : ∃ k, so + j = k := ⟨_, rfl⟩
    rw [hk] at hx
    have ho : w.heap[sb]? = some (.cells (lim .u64 xs) T (0, 0)) := o
    rcases Nat.lt_or_ge k xs.length with hl | hl
    · have := o.cell hl
      rw [this] at hx; cases hx
    · unfold World.cell? at hx
      simp only [ho] at hx
      have : (lim .u64 xs).size ≤ k := by simp [lim]; omega
      simp [Array.getElem?_eq_none this] at hx
  · exact (World.cell?_of_block (a := ⟨sb, so + j, none⟩) (setRow_other _ _ _ _ (by omega))).trans hx
theorem Only.row {w : World} {b B : Nat} {w' : World} (h : Only b w w') (hB : w.heap.size ≤ B) (zs : Array Value) : Only b w (w'.setRow B zs) :=
  ⟨h.os, h.tape, h.output, by simpa [World.setRow] using h.size, fun k hk hb => (setRow_other _ _ _ _ (by omega)).trans (h.block k hk hb)⟩
set_option maxHeartbeats 4000000 in
/-- words.field -/
theorem wfield_any (b : Nat) (bad : Bool) (ws : List ByteArray) (w : World) (h : WdS w b bad ws) (hs : (ws.headD ⟨#[]⟩).size ≤ 100000000) :
    Calls Tryd.prog 58 #[.pointer (some ⟨b, 0, none⟩)] w fun e w' => e = .returned (.agg (lim .u64 (fl ((numB (ws.headD ⟨#[]⟩)).getD 0)))) ∧ WdS w' b (bad || (numB (ws.headD ⟨#[]⟩)).isNone) ws.tail ∧ Only b w w' := by
  obtain ⟨s, hsx⟩ : ∃ x, x = ws.headD ⟨#[]⟩ := ⟨_, rfl⟩
  have o1 : Own (w.alloc (.cells #[.int .u64 0, .int .u64 0, .int .u64 0, .int .u64 0] 24)) w.heap.size 24 .u64 [0, 0, 0, 0] := Own.new w 24 .u64 [0, 0, 0, 0]
  have b0 := (Below.refl w.heap.size w).alloc (Nat.le_refl _) (.cells #[.int .u64 0, .int .u64 0, .int .u64 0, .int .u64 0] 24)
  have hlt := h.lt
  have D1 := Lib.hid (next_any b bad ws _ (h.bel b0))
  rw [← hsx] at hs D1 ⊢
  have HEMP := Lib.hid (show ws.isEmpty = true → numB s = none from fun e => by rw [hsx, List.isEmpty_iff.1 e]; rfl)
  have D2 := Lib.hid (fun W => number_any s W hs)
  have hz : (w.alloc (.cells #[.int .u64 0, .int .u64 0, .int .u64 0, .int .u64 0] 24)).heap.size = w.heap.size + 1 := by simp
  have HZ := Lib.hid hz
  clear hsx h hs hz
  go_enter Tryd.func58, Tryd.ntmps58
  go_upto_region 1 with fail
  generalize w.alloc (.cells #[.int .u64 0, .int .u64 0, .int .u64 0, .int .u64 0] 24) = W1 at *
  go_wp2_with fail
  refine (D1.out).mono ?_
  rintro e w1 ⟨rfl, hw1, q1⟩
  have o2 := (q1.block w.heap.size (by have := HZ.out; omega) (by omega)).trans o1
  have O2 : Hid (Own w1 w.heap.size 24 .u64 [0, 0, 0, 0]) := Lib.hid o2
  have Q1 := Lib.hid ((Only.of_below (b := b) b0).trans q1)
  have HW1 := Lib.hid hw1
  clear b0 o1 o2 q1 hw1
  dsimp only
  go_wp2_with fail
  refine (D2.out w1).mono ?_
  rintro e w2 ⟨x, rfl, hx4, hxv, b2⟩
  have HXV := Lib.hid hxv
  have HX4 := Lib.hid hx4
  have b3 := (Below.refl w2.heap.size w2).alloc (Nat.le_refl _) (.cells (lim .u64 (fl x)) 24)
  have O3 : Hid (Own (w2.alloc (.cells (lim .u64 (fl x)) 24)) w.heap.size 24 .u64 [0, 0, 0, 0]) := Lib.hid ((O2.out.bel b2).bel b3)
  have Q3 := Lib.hid ((Q1.out.trans (Only.of_below b2)).trans (Only.of_below b3))
  have HW3 := Lib.hid ((HW1.out.bel b2).bel b3)
  have ox := Own.new w2 24 .u64 (fl x)
  have hx4' : (fl x).length = 4 := rfl
  clear b2 b3 hxv hx4
  go_upto_region 2 with (first
    | refine wpList_store_new rfl 24 (.tmp 3) (.tmp 9) rfl .u64 (fl x) rfl rfl 24 _ (by kernel_rfl) rfl ?_)
  generalize w2.alloc (.cells (lim .u64 (fl x)) 24) = W3 at *
  have hlw : w.heap.size ≠ b := by omega
  cases hns : numB s with
  | none =>
    obtain ⟨f1, c1⟩ := HW3.out.f1
    have HNS := Lib.hid hns
    clear hns
    have O4 : Hid (Own (W3.setCell ⟨b, 1, none⟩ (.bool true)) w.heap.size 24 .u64 [0, 0, 0, 0]) := Lib.hid (O3.out.far (p := ⟨b, 1, none⟩) hlw _)
    simp only [Option.isSome_none]
    go_wp2_with (first
      | refine wpList_build_to rfl 24 _ rfl (lim .u64 [0, 0, 0, 0]) (by kernel_rfl) ?_
      | refine wpList_store_row rfl 24 (.tmp 2) (.tmp 16) rfl w.heap.size (lim .u64 [0, 0, 0, 0]) rfl rfl 24 _ O4.out (by kernel_rfl) (by kernel_rfl) (by kernel_rfl) ?_)
    rw [setRow_self _ _ _ _ _ O4.out]
    refine bodyPost_ret (results_cell_row rfl _ _ w.heap.size 24 _ (0, 0) _ rfl O4.out Tryd.underlying24 rfl (by kernel_rfl)) rfl ⟨by rw [HNS.out]; rfl, ?_, Q3.out.trans (Only.setCell b W3 1 _)⟩
    have := HW3.out.bad
    rw [HNS.out]
    simpa using this
  | some v =>
    have HNS := Lib.hid hns
    clear hns
    simp only [Option.isSome_some]
    go_wp2_with (first
      | refine own_load ox rfl 24 (.tmp 3) rfl rfl 4 22 hx4' (by kernel_rfl) (by kernel_rfl) ?_
      | refine wpList_store_row rfl 24 (.tmp 2) (.tmp 17) rfl w.heap.size (lim .u64 (fl x)) rfl rfl 24 _ O3.out (by kernel_rfl) rfl (lim_one _ _) ?_)
    have o5 : Own (W3.setRow w.heap.size (lim .u64 (fl x))) w.heap.size 24 .u64 (fl x) := setRow_heap W3 w.heap.size _ _ _ _ O3.out
    refine bodyPost_ret (results_cell_row rfl _ _ w.heap.size 24 _ (0, 0) _ rfl o5 Tryd.underlying24 rfl rfl) rfl ⟨by rw [HNS.out, HXV.out v HNS.out]; rfl, ?_, Q3.out.row (Nat.le_refl _) _⟩
    have hne : ws.isEmpty = false := by
      cases he : ws.isEmpty with
      | false => rfl
      | true => exact absurd (HNS.out.symm.trans (HEMP.out he)) (by simp)
    have := HW3.out.row O3.out hlw (lim .u64 (fl x))
    rw [hne] at this
    rw [HNS.out]
    simpa using this
end Go.Proofs.YtdilgmokiclfaaaDoor
