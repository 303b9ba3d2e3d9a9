/- Chapter 24: the reference's list. -/
import Derived.Test.YtdilgmokiclfaaaDoorScRc
import Derived.Test.YtdilgmokiclfaaaDoorScRd
namespace Go.Proofs.YtdilgmokiclfaaaDoor
open Go.RowKit
set_option linter.unusedVariables false
set_option maxRecDepth 100000

def LsRel (ws0 : List ByteArray) (B : Nat) (w : World) (v i : Value) (wr : World) : Prop :=
  ∃ (k : Nat) (xs : List Nat), k ≤ ws0.length ∧ i = .int .i64 (k : Int) ∧ (∃ A c, v = .slice A xs.length c) ∧ xs.length = k ∧ wr.ownsRow B 24 4 v xs.length (frCs xs) ∧ Fl4 xs ∧
    numsB ws0 = (numsB (ws0.drop k)).map (xs ++ ·) ∧ Below B w wr
set_option maxHeartbeats 4000000 in
/-- ref.list -/
theorem rlist_any (b o n c : Nat) (ws : List ByteArray) (w : World) (H : StrS w b o n c ws) (hn : n ≤ 60000000) (hm : ∀ x ∈ ws, x.size ≤ 50000000) :
    Calls Tryd.prog 42 #[.slice (some ⟨b, o, none⟩) n c] w fun e w' => ∃ A m c', e = .returned (.tuple #[.slice A m c', .bool (numsB ws).isSome]) ∧ (∀ xs, numsB ws = some xs → FrSA w.heap.size w' A m c' xs) ∧ Below w.heap.size w w' := by
  have hst : LsRel ws w.heap.size w (.slice (some ⟨w.heap.size, 0, none⟩) 0 0) (.int .i64 0) (w.alloc (.cells #[] 24)) :=
    ⟨0, [], Nat.zero_le _, rfl, ⟨_, _, rfl⟩, rfl, World.ownsRow_made w #[] 0 (Nat.le_refl _) (Nat.zero_le _) rfl, fun x hx => (by cases hx), by show numsB ws = (numsB ws).map (([] : List Nat) ++ ·); cases numsB ws <;> rfl, (Below.refl _ _).alloc (Nat.le_refl _) _⟩
  have Hst := Lib.hid hst
  have D1 := Lib.hid rfield_any
  have HH := Lib.hid H
  have HM := Lib.hid hm
  obtain ⟨R, hR⟩ : ∃ x, x = numsB ws := ⟨_, rfl⟩
  rw [← hR]
  have HR := Lib.hid hR
  have hcl : Tryd.prog.cellsOf 9 = 1 := by kernel_rfl
  have hlen := H.len
  have HLEN := Lib.hid hlen
  clear hst H hm hR hlen
  go_enter Tryd.func42, Tryd.ntmps42
  go_wp2_with fail
  go_loopw [4, 12] (LsRel ws w.heap.size w) (fun _ i _ => n - (intOf i).toNat)
  case atStart => exact Hst.out
  case round =>
    clear Hst
    obtain ⟨k, xs, hk, rfl, ⟨A, cx, rfl⟩, hxk, hrow, hx4, hnum, hb⟩ := hrel
    have HROW := Lib.hid hrow
    have HX4 := Lib.hid hx4
    have HNUM := Lib.hid hnum
    have HB := Lib.hid hb
    have HXK := Lib.hid hxk
    have hxl : xs.length < 100000000 := by rw [HLEN.out] at hk; omega
    clear hrow hx4 hnum hb hxk
    rw [HLEN.out] at hk
    rcases Nat.lt_or_ge k n with hlt | hge
    · have hkn : (k : Int) < (n : Int) := by omega
      have hkw : k < ws.length := by rw [HLEN.out]; exact hlt
      obtain ⟨x, hx⟩ : ∃ x, ws[k]? = some x := ⟨_, List.getElem?_eq_getElem hkw⟩
      have hcell := (HB.out.cell (p := ⟨b, o + k, none⟩) HH.out.lt).trans (HH.out.cell k x hx)
      have hxs := HM.out x (List.mem_of_getElem? hx)
      have hdrop : ws.drop k = x :: ws.drop (k + 1) := by
        rw [List.drop_eq_getElem_cons hkw]
        rw [List.getElem?_eq_getElem hkw] at hx
        rw [Option.some.inj hx]
      have D2 := Lib.hid (D1.out x wr (by omega))
      have hN := HNUM.out
      rw [hdrop, numsB_cons] at hN
      have HN2 := Lib.hid hN
      generalize numB x = Y at *
      clear hN hdrop hx HNUM hxs D1
      go_wp2_with fail
      refine (D2.out).mono ?_
      rintro e w1 ⟨v, rfl, hv4, hvv, b1⟩
      have HV4 := Lib.hid hv4
      have HVV := Lib.hid hvv
      have b2 := (Below.refl w1.heap.size w1).alloc (Nat.le_refl _) (.cells (lim .u64 (fl v)) 24)
      have hb2 := (HB.out.trans (b1.mono HB.out.size)).trans (b2.mono (HB.out.trans (b1.mono HB.out.size)).size)
      have hrow2 := ownsRow_bel (ownsRow_bel HROW.out b1) b2
      have ox := Own.new w1 24 .u64 (fl v)
      have hx4' : (fl v).length = 4 := rfl
      have hfr := frCs_snoc xs v
      have hfx : (lim .u64 (fl v)).size = 4 := rfl
      have hfo : ∀ u ∈ (lim .u64 (fl v)).toList, u.oneCell' = true := by simp [lim, fl, Value.oneCell']
      clear hv4 hvv b1 b2
      go_upto_region 6 with (first
        | refine wpList_store_new rfl 24 (.tmp 7) (.tmp 19) rfl .u64 (fl v) rfl rfl 24 _ (by kernel_rfl) rfl ?_)
      generalize w1.alloc (.cells (lim .u64 (fl v)) 24) = W3 at *
      have HB2 := Lib.hid hb2
      have HR2 := Lib.hid hrow2
      clear hb2 hrow2
      cases Y with
      | none =>
        have hRx := Lib.hid (show R = none by rw [HR.out, HN2.out]; rfl)
        go_wp2_with fail
        refine bodyPost_ret (results_tmp2 rfl _ _ _) rfl ?_
        rw [hRx.out]
        exact ⟨none, 0, 0, rfl, fun xs h => (by cases h), HB2.out⟩
      | some y =>
        have hvy : v = y := HVV.out y rfl
        subst hvy
        go_wp2_with (first
          | refine own_load ox rfl 24 (.tmp 7) rfl rfl 4 22 hx4' (by kernel_rfl) (by kernel_rfl) ?_
          | (refine wpList_app_row rfl (.tmp 23) (.tmp 25) 25 24 rfl (lim .u64 (fl v)) (by kernel_rfl) fr_info rfl (by decide) hfx hfo hxl (by decide) rfl rfl HR2.out HB2.out.size ?_; intro g' cap' w8 hA))
        have hb8 := hA.below HB2.out HB2.out.size (fun j e => (HR2.out.lt j e).1)
        refine ⟨⟨k + 1, xs ++ [v], by rw [HLEN.out]; omega, int_eq (by omega), ⟨_, cap', by rw [List.length_append]; rfl⟩, by rw [List.length_append, List.length_singleton, HXK.out], ?_, fun y hy => ?_, ?_, hb8⟩, by simp [intOf]; omega⟩
        · rw [hfr, List.length_append]
          exact hA.row
        · rcases List.mem_append.1 hy with h | h
          · exact HX4.out y h
          · rw [List.mem_singleton.1 h]; exact HV4.out
        · rw [HN2.out]
          show Option.map (xs ++ ·) ((numsB (ws.drop (k + 1))).map (v :: ·)) = _
          cases numsB (ws.drop (k + 1)) <;> simp
    · obtain rfl : k = n := by omega
      have hkn : ¬ (k : Int) < (k : Int) := by omega
      have hN := HNUM.out
      rw [List.drop_eq_nil_of_le (by rw [HLEN.out]; exact Nat.le_refl _)] at hN
      have hRx : R = some xs := by rw [HR.out, hN]; simp [numsB]
      have HRX := Lib.hid hRx
      clear hN hRx
      go_wp2_with fail
      refine bodyPost_ret (results_tmp2 rfl _ _ _) rfl ?_
      rw [HRX.out]
      refine ⟨A, xs.length, cx, rfl, fun ys h => ?_, HB.out⟩
      obtain rfl := Option.some.inj h
      intro W' hs hk2
      have hr := ownsRow_kp (w' := W') HROW.out (fun j h1 h2 => hk2 j h1 h2)
      obtain ⟨A', c', h1, h2⟩ := FrS.of_own hr HX4.out rfl
      cases h1
      exact h2
end Go.Proofs.YtdilgmokiclfaaaDoor
