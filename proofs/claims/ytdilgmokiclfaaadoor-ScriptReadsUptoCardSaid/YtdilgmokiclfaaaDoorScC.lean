/- Chapter 24: words, names, less, all, in. -/
import Derived.Test.YtdilgmokiclfaaaDoorScB
import Derived.Deep.RegionHeld3
namespace Go.Proofs.YtdilgmokiclfaaaDoor
open Go.RowKit
set_option linter.unusedVariables false
set_option maxRecDepth 100000

def wordB (t : Int) : ByteArray :=
  if t = 1 then ⟨#[105, 110, 112, 117, 116]⟩ else
  if t = 2 then ⟨#[112, 117, 98, 108, 105, 99]⟩ else
  if t = 3 then ⟨#[99, 111, 110, 115, 116]⟩ else
  if t = 4 then ⟨#[97, 100, 100]⟩ else
  if t = 5 then ⟨#[109, 117, 108]⟩ else
  if t = 6 then ⟨#[108, 105, 110]⟩ else
  if t = 7 then ⟨#[98, 111, 111, 108]⟩ else
  if t = 8 then ⟨#[115, 101, 108, 101, 99, 116]⟩ else
  if t = 9 then ⟨#[122, 101, 114, 111]⟩ else
  if t = 10 then ⟨#[98, 105, 116, 115]⟩ else
  if t = 11 then ⟨#[101, 113, 117, 97, 108]⟩ else
  ⟨#[]⟩
def namesN (t : Int) : Nat :=
  if t = 1 then 0 else
  if t = 2 then 1 else
  if t = 3 then 0 else
  if t = 4 then 2 else
  if t = 5 then 2 else
  if t = 6 then 0 else
  if t = 7 then 1 else
  if t = 8 then 3 else
  if t = 9 then 1 else
  if t = 10 then 1 else
  if t = 11 then 2 else
  0
theorem tag_cases (t : Int) : t = 1 ∨ t = 2 ∨ t = 3 ∨ t = 4 ∨ t = 5 ∨ t = 6 ∨ t = 7 ∨ t = 8 ∨ t = 9 ∨ t = 10 ∨ t = 11 ∨ (¬ t = 1 ∧ ¬ t = 2 ∧ ¬ t = 3 ∧ ¬ t = 4 ∧ ¬ t = 5 ∧ ¬ t = 6 ∧ ¬ t = 7 ∧ ¬ t = 8 ∧ ¬ t = 9 ∧ ¬ t = 10 ∧ ¬ t = 11) := by omega
theorem wordB_other {t : Int} (h : ¬ t = 1 ∧ ¬ t = 2 ∧ ¬ t = 3 ∧ ¬ t = 4 ∧ ¬ t = 5 ∧ ¬ t = 6 ∧ ¬ t = 7 ∧ ¬ t = 8 ∧ ¬ t = 9 ∧ ¬ t = 10 ∧ ¬ t = 11) : wordB t = ⟨#[]⟩ := by
  obtain ⟨h1, h2, h3, h4, h5, h6, h7, h8, h9, h10, h11⟩ := h
  simp only [wordB, if_neg h1, if_neg h2, if_neg h3, if_neg h4, if_neg h5, if_neg h6, if_neg h7, if_neg h8, if_neg h9, if_neg h10, if_neg h11]
theorem namesN_other {t : Int} (h : ¬ t = 1 ∧ ¬ t = 2 ∧ ¬ t = 3 ∧ ¬ t = 4 ∧ ¬ t = 5 ∧ ¬ t = 6 ∧ ¬ t = 7 ∧ ¬ t = 8 ∧ ¬ t = 9 ∧ ¬ t = 10 ∧ ¬ t = 11) : namesN t = 0 := by
  obtain ⟨h1, h2, h3, h4, h5, h6, h7, h8, h9, h10, h11⟩ := h
  simp only [namesN, if_neg h1, if_neg h2, if_neg h3, if_neg h4, if_neg h5, if_neg h6, if_neg h7, if_neg h8, if_neg h9, if_neg h10, if_neg h11]
set_option maxHeartbeats 1000000 in
/-- word -/
theorem word_any (t : Int) (w : World) : Calls Tryd.prog 47 #[.int .i64 t] w fun e w' => e = .returned (.tuple #[.string (wordB t), .int .i64 (namesN t)]) ∧ w' = w := by
  rcases tag_cases t with rfl | rfl | rfl | rfl | rfl | rfl | rfl | rfl | rfl | rfl | rfl | h
  iterate 11
    · go_enter Tryd.func47, Tryd.ntmps47
      go_wp2_with fail
      go_ret2
      exact ⟨rfl, rfl⟩
  · rw [wordB_other h, namesN_other h]
    obtain ⟨h1, h2, h3, h4, h5, h6, h7, h8, h9, h10, h11⟩ := h
    go_enter Tryd.func47, Tryd.ntmps47
    go_wp2_with fail
    go_ret2
    exact ⟨rfl, rfl⟩
set_option maxHeartbeats 1000000 in
/-- ref.Word -/
theorem rword_any (t : Int) (w : World) : Calls Tryd.prog 43 #[.int .i64 t] w fun e w' => e = .returned (.string (wordB t)) ∧ w' = w := by
  rcases tag_cases t with rfl | rfl | rfl | rfl | rfl | rfl | rfl | rfl | rfl | rfl | rfl | h
  iterate 11
    · go_enter Tryd.func43, Tryd.ntmps43
      go_wp2_with fail
      go_ret
      exact ⟨rfl, rfl⟩
  · rw [wordB_other h]
    obtain ⟨h1, h2, h3, h4, h5, h6, h7, h8, h9, h10, h11⟩ := h
    go_enter Tryd.func43, Tryd.ntmps43
    go_wp2_with fail
    go_ret
    exact ⟨rfl, rfl⟩
set_option maxHeartbeats 1000000 in
/-- ref.Names -/
theorem rnames_any (t : Int) (w : World) : Calls Tryd.prog 60 #[.int .i64 t] w fun e w' => e = .returned (.int .i64 (namesN t)) ∧ w' = w := by
  rcases tag_cases t with rfl | rfl | rfl | rfl | rfl | rfl | rfl | rfl | rfl | rfl | rfl | h
  iterate 11
    · go_enter Tryd.func60, Tryd.ntmps60
      go_wp2_with fail
      go_ret
      exact ⟨rfl, rfl⟩
  · rw [namesN_other h]
    obtain ⟨h1, h2, h3, h4, h5, h6, h7, h8, h9, h10, h11⟩ := h
    go_enter Tryd.func60, Tryd.ntmps60
    go_wp2_with fail
    go_ret
    exact ⟨rfl, rfl⟩
/-- ref.in -/
theorem rin_any (z : Int) (w : World) :
    Calls Tryd.prog 61 #[.int .i64 z] w fun e w' => e = .returned (.bool (inB z)) ∧ w' = w := by
  by_cases h : 0 ≤ z
  · by_cases h2 : z ≤ 1000000
    · have e : inB z = true := by unfold inB; rw [decide_eq_true (by omega), decide_eq_true (by omega)]; rfl
      rw [e]; clear e
      go_enter Tryd.func61, Tryd.ntmps61
      go_wp2
      go_ret
      exact ⟨rfl, rfl⟩
    · have e : inB z = false := by unfold inB; rw [decide_eq_false (p := z ≤ 1000000) (by omega), Bool.and_false]
      rw [e]; clear e
      go_enter Tryd.func61, Tryd.ntmps61
      go_wp2
      go_ret
      exact ⟨rfl, rfl⟩
  · have e : inB z = false := by unfold inB; rw [decide_eq_false (by omega)]; rfl
    rw [e]; clear e
    go_enter Tryd.func61, Tryd.ntmps61
    go_wp2
    go_ret
    exact ⟨rfl, rfl⟩
theorem rangeAt_of_cells {w : World} {g : Nat} {cs : List Value} {t : TypeId} {fr : Nat × Nat} (h : w.heap[g]? = some (.cells cs.toArray t fr)) : w.rangeAt g 0 cs := by
  have := World.rangeAt_of_block h 0 cs.length
  simpa using this
theorem rangeAt_own {w : World} {g v : Nat} {T : TypeId} (h : Own w g T .u64 (fl v)) : w.rangeAt g 0 (frC v) := rangeAt_of_cells (t := T) (fr := (0, 0)) (by rw [frC_arr]; exact h)
theorem frLoad {b o v : Nat} (W : World) (h : W.rangeAt b o (frC v)) : (Instr.loadAt 24 (.pointer (some ⟨b, o, none⟩))).run Tryd.prog W = .ok (.agg (lim .u64 (fl v))) W := by
  rw [← frC_arr]
  exact run_loadAt_mid W b o 24 (frC v) _ h Tryd.underlying24 rfl (by kernel_rfl)
set_option maxHeartbeats 1000000 in
/-- ref.less -/
theorem rless24_any (v : Nat) (w : World) (hv : v < pw 4) :
    Calls Tryd.prog 36 #[.agg (lim .u64 (fl v))] w fun e w' => e = .returned (.bool (ltB v rN)) ∧ Below w.heap.size w w' := by
  have D1 := Lib.hid (fun W => rR_any W)
  have hl : val (fl v) = v := fl_val hv
  have Hv := Lib.hid hl
  have ok := fl_ok v
  have hx : (fl v).length = 4 := rfl
  have D2 := Lib.hid (fun W => rless_any (fl v) rL W hx rfl ok rL_ok)
  clear hv hl
  have o1 := Own.new w 24 .u64 (fl v)
  have b0 := (Below.refl w.heap.size w).alloc (Nat.le_refl _) (.cells (lim .u64 (fl v)) 24)
  have e4 := fl4 v
  generalize fl v = xs at *
  obtain ⟨a0, a1, a2, a3, rfl⟩ := e4
  clear hx
  go_enter Tryd.func36, Tryd.ntmps36
  go_wp2_with fail
  generalize w.alloc (.cells (lim .u64 [a0, a1, a2, a3]) 24) = W1 at *
  have c1 := o1.c4
  go_region_held3 (fun w' => w'.cell? ⟨w.heap.size, 0, none⟩ = some (.int .u64 (a0 : Nat)) ∧ w'.cell? ⟨w.heap.size, 1, none⟩ = some (.int .u64 (a1 : Nat)) ∧ w'.cell? ⟨w.heap.size, 2, none⟩ = some (.int .u64 (a2 : Nat)) ∧ w'.cell? ⟨w.heap.size, 3, none⟩ = some (.int .u64 (a3 : Nat)))
    (first | exact c1 | exact c2 | exact c3)
    (first
    | (go_at_call 63; refine (D1.out _).mono ?_; rintro e w1 ⟨rfl, b1⟩; have be := ((Below.refl W1.heap.size W1).drew).trans b1; have c2 := (o1.bel be).c4)
    | (go_at_call 62; refine (D2.out _).mono ?_; rintro e w2 ⟨rfl, b2⟩; have b3 := be.trans (b2.mono be.size); have c3 := (o1.bel b3).c4))
  all_goals go_wp2_with fail
  all_goals go_ret
  all_goals exact ⟨by rw [Hv.out, rL_val]; rfl, b0.trans (b3.mono b0.size)⟩
def IxAll (xs : List Nat) (w : World) (i : Value) (wr : World) : Prop :=
  ∃ k : Nat, k ≤ xs.length ∧ i = .int .i64 (k : Int) ∧ (∀ x ∈ xs.take k, ltB x rN = true) ∧ Below w.heap.size w wr
set_option maxHeartbeats 1000000 in
/-- ref.all -/
theorem rall_any (A : Option Addr) (n c : Nat) (xs : List Nat) (w : World) (H : FrS w A n c xs) :
    Calls Tryd.prog 37 #[.slice A n c] w fun e w' => e = .returned (.bool (xs.all fun x => ltB x rN)) ∧ Below w.heap.size w w' := by
  have hlen := Lib.hid H.len
  have H' := Lib.hid H
  have hn := H.lim
  have hc := H.cap
  unfold maxLen at hc
  clear H
  go_enter Tryd.func37, Tryd.ntmps37
  go_wp2_with fail
  go_loopw [7] (IxAll xs w) (fun i _ => n - (intOf i).toNat)
  case atStart => exact ⟨0, Nat.zero_le _, rfl, by simp, Below.refl _ _⟩
  case round =>
    obtain ⟨k, hk, rfl, hall, hb⟩ := hrel
    have Hall := Lib.hid hall
    clear hall
    rcases Nat.lt_or_ge k xs.length with hlt | hge
    · obtain ⟨b, off, rfl, hbl, hrow⟩ := H'.out.at hlt
      have hkn : (k : Int) < (n : Int) := by have := hlen.out; omega
      have R := rangeAt_bel hrow hb hbl
      have hx := H'.out.ok _ (List.getElem_mem hlt)
      have Hz := Lib.hid (take_succ_get hlt)
      have D := Lib.hid (fun W => rless24_any xs[k] W hx)
      have Hm := Lib.hid (List.getElem_mem hlt)
      clear hrow hx
      generalize xs[k] = z at *
      have hz4 : (fl z).length = 4 := rfl
      have o1 := Own.new wr 24 .u64 (fl z)
      have b3 := hb.alloc hb.size (.cells (lim .u64 (fl z)) 24)
      have Lz := frC_arr z
      go_wp2_with (first
        | refine wpList_load_mid rfl 24 (.tmp 9) rfl b (off + k * 4) rfl (frC z) _ R Tryd.underlying24 rfl (by kernel_rfl) ?_
        | refine wpList_store_new rfl 24 (.tmp 4) (.tmp 10) rfl .u64 (fl z) rfl (by rw [← Lz]; rfl) 24 _ (by kernel_rfl) rfl ?_
        | refine own_load o1 rfl 24 (.tmp 4) rfl rfl 4 22 hz4 (by kernel_rfl) (by kernel_rfl) ?_)
      refine (D.out _).mono ?_
      rintro e w1 ⟨rfl, b1⟩
      by_cases hz : ltB z rN = true
      · rw [hz]
        go_wp2_with fail
        refine ⟨⟨k + 1, by omega, int_eq (by omega), fun x hx => ?_, b3.trans (b1.mono b3.size)⟩, by simp [intOf]; omega⟩
        rw [Hz.out, List.mem_append] at hx
        rcases hx with hx | hx
        · exact Hall.out x hx
        · rw [List.mem_singleton.1 hx]; exact hz
      · have hz' : ltB z rN = false := by simpa using hz
        rw [hz']
        go_wp2_with fail
        go_ret
        refine ⟨?_, b3.trans (b1.mono b3.size)⟩
        have : xs.all (fun x => ltB x rN) = false := by
          rw [List.all_eq_false]
          exact ⟨z, Hm.out, hz⟩
        rw [this]; rfl
    · have hkn : ¬ (k : Int) < (n : Int) := by have := hlen.out; omega
      have hall : xs.all (fun x => ltB x rN) = true := by
        rw [List.all_eq_true]; intro x hx
        have := Hall.out; rw [List.take_of_length_le (by omega)] at this
        exact this x hx
      have Hall2 := Lib.hid hall
      clear hall
      go_wp2_with fail
      go_ret
      exact ⟨by rw [Hall2.out]; rfl, hb⟩
end Go.Proofs.YtdilgmokiclfaaaDoor
