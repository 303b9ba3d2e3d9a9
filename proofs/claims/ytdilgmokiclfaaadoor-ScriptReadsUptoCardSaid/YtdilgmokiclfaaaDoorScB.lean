/- Chapter 24: rows in memory; clean, small. -/
import Derived.Test.YtdilgmokiclfaaaDoorScA
namespace Go.Proofs.YtdilgmokiclfaaaDoor
open Go.RowKit
set_option linter.unusedVariables false
set_option maxRecDepth 100000

/-- Rows of k cells each lie in memory. -/
def Rws (w : World) (A : Option Addr) (k : Nat) (css : List (List Value)) : Prop :=
  0 < css.length → ∃ b off, A = some ⟨b, off, none⟩ ∧ b < w.heap.size ∧ ∀ i (h : i < css.length), w.rangeAt b (off + i * k) css[i]
theorem rangeAt_bel {w w' : World} {B b o : Nat} {cs : List Value} (h : w.rangeAt b o cs) (hb : Below B w w') (hl : b < B) : w'.rangeAt b o cs := fun j v hv =>
  (hb.cell (p := ⟨b, o + j, none⟩) hl).trans (h j v hv)
theorem Rws.bel {w w' : World} {A : Option Addr} {k : Nat} {css : List (List Value)} (h : Rws w A k css) (hb : Below w.heap.size w w') : Rws w' A k css := fun hp => by
  obtain ⟨b, off, rfl, hl, hc⟩ := h hp
  exact ⟨b, off, rfl, Nat.lt_of_lt_of_le hl hb.size, fun i hi => rangeAt_bel (hc i hi) hb hl⟩
/-- An element's cells. -/
def frC (v : Nat) : List Value := (lim .u64 (fl v)).toList
theorem frC_arr (v : Nat) : (frC v).toArray = lim .u64 (fl v) := by unfold frC; simp
theorem frC_len (v : Nat) : (frC v).length = 4 := rfl
def Fl4 (xs : List Nat) : Prop := ∀ x ∈ xs, x < pw 4
/-- A slice of elements. -/
structure FrS (w : World) (A : Option Addr) (n c : Nat) (xs : List Nat) : Prop where
  len : xs.length = n
  lim : n ≤ c
  cap : c ≤ maxLen
  ok : Fl4 xs
  row : Rws w A 4 (xs.map frC)
theorem FrS.bel {w w' : World} {A : Option Addr} {n c : Nat} {xs : List Nat} (h : FrS w A n c xs) (hb : Below w.heap.size w w') : FrS w' A n c xs := ⟨h.1, h.2, h.3, h.4, h.5.bel hb⟩
theorem FrS.at {w : World} {A : Option Addr} {n c i : Nat} {xs : List Nat} (h : FrS w A n c xs) (hi : i < xs.length) : ∃ b off, A = some ⟨b, off, none⟩ ∧ b < w.heap.size ∧ w.rangeAt b (off + i * 4) (frC xs[i]) := by
  obtain ⟨b, off, h1, h2, h3⟩ := h.row (by simp; omega)
  exact ⟨b, off, h1, h2, by have := h3 i (by simpa using hi); simpa using this⟩

set_option maxHeartbeats 1000000 in
/-- clean's closure -/
theorem clean1_any (v : Nat) (w : World) (hv : v < pw 4) :
    Calls Tryd.prog 50 #[.agg (lim .u64 (fl v))] w fun e w' => e = .returned (.bool (!ltB v rN)) ∧ Below w.heap.size w w' := by
  have hx : (fl v).length = 4 := rfl
  have D1 := Lib.hid (fun W => fright_any v W hv)
  have o1 := Own.new w 24 .u64 (fl v)
  have b0 := (Below.refl w.heap.size w).alloc (Nat.le_refl _) (.cells (lim .u64 (fl v)) 24)
  generalize fl v = xs at *
  go_enter Tryd.func50, Tryd.ntmps50
  go_wp2_with (refine own_load o1 rfl 24 (.tmp 1) rfl rfl 4 22 hx (by kernel_rfl) (by kernel_rfl) ?_)
  refine (D1.out _).mono ?_
  rintro e w1 ⟨rfl, b1⟩
  go_wp2_with fail
  go_ret
  exact ⟨rfl, b0.trans (b1.mono b0.size)⟩

theorem take_succ_get {α : Type} {l : List α} {k : Nat} (h : k < l.length) : l.take (k + 1) = l.take k ++ [l[k]] := by
  simp
def IxFr (xs : List Nat) (w : World) (i : Value) (wr : World) : Prop :=
  ∃ k : Nat, k ≤ xs.length ∧ i = .int .i64 (k : Int) ∧ (∀ x ∈ xs.take k, ltB x rN = true) ∧ Below w.heap.size w wr
set_option maxHeartbeats 1000000 in
/-- slices.IndexFunc with clean's closure -/
theorem ixfr_any (A : Option Addr) (n c : Nat) (xs : List Nat) (w : World) (H : FrS w A n c xs) :
    Calls Tryd.prog 70 #[.slice A n c, .func (.func 50) #[] #[]] w fun e w' => ∃ r : Int, e = .returned (.int .i64 r) ∧ decide (0 ≤ r) = !(xs.all fun x => ltB x rN) ∧ Below w.heap.size w w' := by
  have hcl : Tryd.prog.cellsOf 24 = 4 := by kernel_rfl
  have hlen := Lib.hid H.len
  have H' := Lib.hid H
  have hn := H.lim
  have hc := H.cap
  unfold maxLen at hc
  clear H
  go_enter Tryd.func70, Tryd.ntmps70
  go_wp2_with fail
  go_loopw [8] (IxFr xs w) (fun i _ => n - (intOf i).toNat)
  case atStart => exact ⟨0, Nat.zero_le _, rfl, by simp, Below.refl _ _⟩
  case round =>
    obtain ⟨k, hk, rfl, hall, hb⟩ := hrel
    have Hall := Lib.hid hall
    clear hall
    rcases Nat.lt_or_ge k xs.length with hlt | hge
    · obtain ⟨b, off, rfl, hbl, hrow⟩ := H'.out.at hlt
      have hkn : (k : Int) < (n : Int) := by have := hlen.out; omega
      have R := rangeAt_bel hrow hb hbl
      have hx := H'.out.ok _ (List.getElem_mem hlt)
      have Hz := Lib.hid (take_succ_get hlt)
      have D := Lib.hid (fun W => clean1_any xs[k] W hx)
      have Hm := Lib.hid (List.getElem_mem hlt)
      clear hrow hx
      generalize xs[k] = z at *
      go_wp2_with (refine wpList_load_mid rfl 24 (.tmp 14) rfl b (off + k * 4) rfl (frC z) _ R Tryd.underlying24 rfl (by kernel_rfl) ?_)
      rw [frC_arr]
      refine (D.out _).mono ?_
      rintro e w1 ⟨rfl, b1⟩
      by_cases hz : ltB z rN = true
      · rw [hz]
        go_wp2_with fail
        refine ⟨⟨k + 1, by omega, int_eq (by omega), fun x hx => ?_, hb.trans (b1.mono hb.size)⟩, by simp [intOf]; omega⟩
        rw [Hz.out, List.mem_append] at hx
        rcases hx with hx | hx
        · exact Hall.out x hx
        · rw [List.mem_singleton.1 hx]; exact hz
      · have hz' : ltB z rN = false := by simpa using hz
        rw [hz']
        go_wp2_with fail
        go_ret
        refine ⟨k, rfl, ?_, hb.trans (b1.mono hb.size)⟩
        have : xs.all (fun x => ltB x rN) = false := by
          rw [List.all_eq_false]
          exact ⟨z, Hm.out, hz⟩
        rw [this]; simp
    · have hkn : ¬ (k : Int) < (n : Int) := by have := hlen.out; omega
      have hall : xs.all (fun x => ltB x rN) = true := by
        rw [List.all_eq_true]; intro x hx
        have := Hall.out; rw [List.take_of_length_le (by omega)] at this
        exact this x hx
      have Hall2 := Lib.hid hall
      clear hall
      go_wp2_with fail
      go_ret
      exact ⟨-1, rfl, by rw [Hall2.out]; rfl, hb⟩

/-- slices.ContainsFunc with clean's closure -/
theorem cofr_any (A : Option Addr) (n c : Nat) (xs : List Nat) (w : World) (H : FrS w A n c xs) :
    Calls Tryd.prog 49 #[.slice A n c, .func (.func 50) #[] #[]] w fun e w' => e = .returned (.bool !(xs.all fun x => ltB x rN)) ∧ Below w.heap.size w w' := by
  have D := Lib.hid (ixfr_any A n c xs w H)
  go_enter Tryd.func49, Tryd.ntmps49
  go_wp2_with fail
  refine (D.out).mono ?_
  rintro e w1 ⟨r, rfl, hr, b1⟩
  go_wp2_with fail
  go_ret
  exact ⟨by rw [← hr]; rfl, b1⟩
/-- clean -/
theorem clean_any (A : Option Addr) (n c : Nat) (xs : List Nat) (w : World) (H : FrS w A n c xs) :
    Calls Tryd.prog 24 #[.slice A n c] w fun e w' => e = .returned (.bool (xs.all fun x => ltB x rN)) ∧ Below w.heap.size w w' := by
  have D := Lib.hid (cofr_any A n c xs w H)
  go_enter Tryd.func24, Tryd.ntmps24
  go_wp2_with fail
  refine (D.out).mono ?_
  rintro e w1 ⟨rfl, b1⟩
  go_wp2_with fail
  go_ret
  exact ⟨rfl, b1⟩

/-- A slice of numbers. -/
structure IntS (w : World) (A : Option Addr) (n c : Nat) (zs : List Int) : Prop where
  len : zs.length = n
  lim : n ≤ c
  cap : c ≤ maxLen
  row : 0 < zs.length → ∃ b off, A = some ⟨b, off, none⟩ ∧ b < w.heap.size ∧ ∀ i (h : i < zs.length), w.cell? ⟨b, off + i, none⟩ = some (.int .i64 zs[i])
theorem IntS.bel {w w' : World} {A : Option Addr} {n c : Nat} {zs : List Int} (h : IntS w A n c zs) (hb : Below w.heap.size w w') : IntS w' A n c zs := ⟨h.1, h.2, h.3, fun hp => by
  obtain ⟨b, off, rfl, hl, hc⟩ := h.row hp
  exact ⟨b, off, rfl, Nat.lt_of_lt_of_le hl hb.size, fun i hi => (hb.cell (p := ⟨b, off + i, none⟩) hl).trans (hc i hi)⟩⟩
theorem IntS.at {w : World} {A : Option Addr} {n c i : Nat} {zs : List Int} (h : IntS w A n c zs) (hi : i < zs.length) : ∃ b off, A = some ⟨b, off, none⟩ ∧ b < w.heap.size ∧ w.cell? ⟨b, off + i, none⟩ = some (.int .i64 zs[i]) := by
  obtain ⟨b, off, h1, h2, h3⟩ := h.row (by omega)
  exact ⟨b, off, h1, h2, h3 i hi⟩
def inB (z : Int) : Bool := decide (0 ≤ z) && decide (z ≤ 1000000)
/-- small's closure -/
theorem small1_any (z : Int) (w : World) :
    Calls Tryd.prog 74 #[.int .i64 z] w fun e w' => e = .returned (.bool (!inB z)) ∧ Below w.heap.size w w' := by
  by_cases h : z < 0
  · have e : inB z = false := by unfold inB; rw [decide_eq_false (by omega)]; rfl
    rw [e]; clear e
    go_enter Tryd.func74, Tryd.ntmps74
    go_wp2
    go_ret
    exact ⟨rfl, Below.refl _ _⟩
  · by_cases h2 : 1000000 < z
    · have e : inB z = false := by unfold inB; rw [decide_eq_false (p := z ≤ 1000000) (by omega), Bool.and_false]
      rw [e]; clear e
      go_enter Tryd.func74, Tryd.ntmps74
      go_wp2
      go_ret
      exact ⟨rfl, Below.refl _ _⟩
    · have e : inB z = true := by unfold inB; rw [decide_eq_true (by omega), decide_eq_true (by omega)]; rfl
      rw [e]; clear e
      go_enter Tryd.func74, Tryd.ntmps74
      go_wp2
      go_ret
      exact ⟨rfl, Below.refl _ _⟩
def IxInt (zs : List Int) (w : World) (i : Value) (wr : World) : Prop :=
  ∃ k : Nat, k ≤ zs.length ∧ i = .int .i64 (k : Int) ∧ (∀ x ∈ zs.take k, inB x = true) ∧ Below w.heap.size w wr
set_option maxHeartbeats 1000000 in
/-- slices.IndexFunc with small's closure -/
theorem ixint_any (A : Option Addr) (n c : Nat) (zs : List Int) (w : World) (H : IntS w A n c zs) :
    Calls Tryd.prog 84 #[.slice A n c, .func (.func 74) #[] #[]] w fun e w' => ∃ r : Int, e = .returned (.int .i64 r) ∧ decide (0 ≤ r) = !(zs.all inB) ∧ Below w.heap.size w w' := by
  have hlen := Lib.hid H.len
  have H' := Lib.hid H
  have hn := H.lim
  have hc := H.cap
  unfold maxLen at hc
  clear H
  go_enter Tryd.func84, Tryd.ntmps84
  go_wp2_with fail
  go_loopw [8] (IxInt zs w) (fun i _ => n - (intOf i).toNat)
  case atStart => exact ⟨0, Nat.zero_le _, rfl, by simp, Below.refl _ _⟩
  case round =>
    obtain ⟨k, hk, rfl, hall, hb⟩ := hrel
    have Hall := Lib.hid hall
    clear hall
    rcases Nat.lt_or_ge k zs.length with hlt | hge
    · obtain ⟨b, off, rfl, hbl, hrow⟩ := H'.out.at hlt
      have hkn : (k : Int) < (n : Int) := by have := hlen.out; omega
      have R : wr.cell? ⟨b, off + k, none⟩ = _ := (hb.cell (p := ⟨b, off + k, none⟩) hbl).trans hrow
      have Hz := Lib.hid (take_succ_get hlt)
      have Hm := Lib.hid (List.getElem_mem hlt)
      clear hrow
      generalize zs[k] = z at *
      have D := Lib.hid (fun W => small1_any z W)
      go_wp2_with fail
      refine (D.out _).mono ?_
      rintro e w1 ⟨rfl, b1⟩
      by_cases hz : inB z = true
      · rw [hz]
        go_wp2_with fail
        refine ⟨⟨k + 1, by omega, int_eq (by omega), fun x hx => ?_, hb.trans (b1.mono hb.size)⟩, by simp [intOf]; omega⟩
        rw [Hz.out, List.mem_append] at hx
        rcases hx with hx | hx
        · exact Hall.out x hx
        · rw [List.mem_singleton.1 hx]; exact hz
      · have hz' : inB z = false := by simpa using hz
        rw [hz']
        go_wp2_with fail
        go_ret
        refine ⟨k, rfl, ?_, hb.trans (b1.mono hb.size)⟩
        have : zs.all inB = false := by
          rw [List.all_eq_false]
          exact ⟨z, Hm.out, hz⟩
        rw [this]; simp
    · have hkn : ¬ (k : Int) < (n : Int) := by have := hlen.out; omega
      have hall : zs.all inB = true := by
        rw [List.all_eq_true]; intro x hx
        have := Hall.out; rw [List.take_of_length_le (by omega)] at this
        exact this x hx
      have Hall2 := Lib.hid hall
      clear hall
      go_wp2_with fail
      go_ret
      exact ⟨-1, rfl, by rw [Hall2.out]; rfl, hb⟩
/-- slices.ContainsFunc with small's closure -/
theorem coint_any (A : Option Addr) (n c : Nat) (zs : List Int) (w : World) (H : IntS w A n c zs) :
    Calls Tryd.prog 73 #[.slice A n c, .func (.func 74) #[] #[]] w fun e w' => e = .returned (.bool !(zs.all inB)) ∧ Below w.heap.size w w' := by
  have D := Lib.hid (ixint_any A n c zs w H)
  go_enter Tryd.func73, Tryd.ntmps73
  go_wp2_with fail
  refine (D.out).mono ?_
  rintro e w1 ⟨r, rfl, hr, b1⟩
  go_wp2_with fail
  go_ret
  exact ⟨by rw [← hr]; rfl, b1⟩
/-- small -/
theorem ssmall_any (A : Option Addr) (n c : Nat) (zs : List Int) (w : World) (H : IntS w A n c zs) :
    Calls Tryd.prog 54 #[.slice A n c] w fun e w' => e = .returned (.bool (zs.all inB)) ∧ Below w.heap.size w w' := by
  have D := Lib.hid (coint_any A n c zs w H)
  go_enter Tryd.func54, Tryd.ntmps54
  go_wp2_with fail
  refine (D.out).mono ?_
  rintro e w1 ⟨rfl, b1⟩
  go_wp2_with fail
  go_ret
  exact ⟨rfl, b1⟩
end Go.Proofs.YtdilgmokiclfaaaDoor
