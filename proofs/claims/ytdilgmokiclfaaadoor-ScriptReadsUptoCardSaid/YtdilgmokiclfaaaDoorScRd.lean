/- Chapter 24: the reference's words. -/
import Derived.Test.YtdilgmokiclfaaaDoorScRa
import Derived.Test.YtdilgmokiclfaaaDoorScRo
namespace Go.Proofs.YtdilgmokiclfaaaDoor
open Go.RowKit
set_option linter.unusedVariables false
set_option maxRecDepth 100000

theorem str_info : (Tryd.prog.info? 9).map (fun i => (i.zero, i.size, i.bytes)) = some (some (.string ⟨#[]⟩), 1, 16) := by kernel_rfl
def lenT : Value → Nat
  | .string s => s.size
  | _ => 0
def WsRel (s0 : ByteArray) (B : Nat) (w : World) (s v : Value) (wr : World) : Prop :=
  ∃ (sr : ByteArray) (l : List ByteArray) (g c : Nat), s = .string sr ∧ v = .slice (some ⟨g, 0, none⟩) l.length c ∧ B ≤ g ∧ l.length + sr.size ≤ s0.size ∧ wordsB s0 = l ++ wordsB sr ∧ wr.ownsRow B 9 1 v l.length (strs l) ∧ Below B w wr
theorem rcut32 (s : ByteArray) (w : World) (hs : s.size ≤ 100000000) :
    Calls Tryd.prog 40 #[.string s, .int .u8 32] w fun e w' => e = .returned (.tuple #[.string (wdA s), .string (wdR s), .bool (wdI s)]) ∧ Below w.heap.size w w' := rcut_any s 32 w hs
theorem rcut10 (s : ByteArray) (w : World) (hs : s.size ≤ 100000000) :
    Calls Tryd.prog 40 #[.string s, .int .u8 10] w fun e w' => e = .returned (.tuple #[.string (cutA s), .string (cutR s), .bool (cutI s)]) ∧ Below w.heap.size w w' := rcut_any s 10 w hs
set_option maxHeartbeats 4000000 in
/-- ref.words -/
theorem rwords_any (s : ByteArray) (w : World) (hs : s.size ≤ 50000000) :
    Calls Tryd.prog 41 #[.string s] w fun e w' => ∃ g c, e = .returned (.slice (some ⟨g, 0, none⟩) (wordsB s).length c) ∧ w.heap.size ≤ g ∧ StrS w' g 0 (wordsB s).length c (wordsB s) ∧ Below w.heap.size w w' := by
  have hst : WsRel s w.heap.size w (.string s) (.slice (some ⟨w.heap.size, 0, none⟩) 0 0) (w.alloc (.cells #[] 9)) :=
    ⟨s, [], w.heap.size, 0, rfl, rfl, Nat.le_refl _, by simp, rfl, World.ownsRow_made w #[] 0 (Nat.le_refl _) (Nat.zero_le _) rfl, (Below.refl _ _).alloc (Nat.le_refl _) _⟩
  have Hst := Lib.hid hst
  have D1 := Lib.hid rcut32
  clear hst
  go_enter Tryd.func41, Tryd.ntmps41
  go_wp2_with fail
  go_loopw [0, 3] (WsRel s w.heap.size w) (fun v _ _ => lenT v)
  case atStart => exact Hst.out
  case round =>
    clear Hst
    obtain ⟨sr, l, g, c, rfl, rfl, hg, hlen, hws, hrow, hb⟩ := hrel
    have hsr : sr.size ≤ 100000000 := by omega
    have D2 := Lib.hid (D1.out sr wr hsr)
    have HROW := Lib.hid hrow
    have HWS := Lib.hid hws
    clear D1 hrow hws
    have hno : wdI sr = false → wordsB sr = [wdA sr] := words_no
    have hyes : wdI sr = true → wordsB sr = wdA sr :: wordsB (wdR sr) ∧ (wdR sr).size < sr.size := words_yes
    generalize wdA sr = A at *
    generalize wdR sr = Q at *
    generalize wdI sr = I at *
    have HNO := Lib.hid hno
    have HYES := Lib.hid hyes
    have hsx : (#[.string A] : Array Value).size = 1 := rfl
    have hso : ∀ u ∈ (#[.string A] : Array Value).toList, u.oneCell' = true := by simp [Value.oneCell']
    have hll : l.length < 100000000 := by omega
    have hsn : strs (l ++ [A]) = strs l ++ [.string A] := by rw [← strs_append]; rfl
    have HSN := Lib.hid hsn
    clear hno hyes hsn
    cases I with
    | false =>
      go_wp2_with fail
      refine (D2.out).mono ?_
      rintro e w1 ⟨rfl, b1⟩
      have hb1 := hb.trans (b1.mono hb.size)
      have hrow1 := ownsRow_bel HROW.out b1
      go_wp2_with (refine wpList_app_row rfl (.tmp 14) (.tmp 16) 43 9 rfl #[.string A] (by kernel_rfl) str_info rfl (by decide) hsx hso hll (by decide) rfl rfl hrow1 hb1.size ?_; intro g' cap' w8 hA)
      go_ret
      have hr8 : w8.ownsRow w.heap.size 9 1 (.slice (some ⟨g', 0, none⟩) (l.length + 1) cap') (l.length + 1) (strs (l ++ [A])) := by rw [HSN.out]; exact hA.row
      have hw : wordsB s = l ++ [A] := by rw [HWS.out, HNO.out (by trivial)]
      have hl1 : (wordsB s).length = l.length + 1 := by rw [hw]; simp
      have hS := StrS.of_own hr8 hA.lt (by omega)
      rw [← hl1, ← hw] at hS
      rw [← hl1]
      exact ⟨g', cap', rfl, hA.ge, hS, hA.below hb1 hb1.size (fun j hj => (hrow1.lt j hj).1)⟩
    | true =>
      go_wp2_with fail
      refine (D2.out).mono ?_
      rintro e w1 ⟨rfl, b1⟩
      have hb1 := hb.trans (b1.mono hb.size)
      have hrow1 := ownsRow_bel HROW.out b1
      go_wp2_with (refine wpList_app_row rfl (.tmp 14) (.tmp 16) 43 9 rfl #[.string A] (by kernel_rfl) str_info rfl (by decide) hsx hso hll (by decide) rfl rfl hrow1 hb1.size ?_; intro g' cap' w8 hA)
      obtain ⟨h1, h2⟩ := HYES.out (by trivial)
      refine ⟨⟨Q, l ++ [A], g', cap', rfl, by rw [List.length_append]; rfl, hA.ge, by rw [List.length_append, List.length_singleton]; omega, by rw [HWS.out, h1]; simp, ?_, hA.below hb1 hb1.size (fun j hj => (hrow1.lt j hj).1)⟩, h2⟩
      rw [HSN.out, List.length_append]
      exact hA.row
end Go.Proofs.YtdilgmokiclfaaaDoor
