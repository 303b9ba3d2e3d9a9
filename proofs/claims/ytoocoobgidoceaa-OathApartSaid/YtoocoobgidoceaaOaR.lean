import Derived.Test.YtoocoobgidoceaaOaQ
import Derived.Laws.OwnMore
import Derived.Lib.SmallJoins
namespace Go.Proofs.Ytoocoobgidoceaa
open Go.RowKit
set_option linter.unusedVariables false

def cellsP (ps : List Part3) : List Value := ps.flatMap fun p => [.string p.1, .string p.2.1, .bool p.2.2]
def offP (p : Part3) : Part3 := (p.1, p.2.1, false)
/-- The first k parts ask nothing now. -/
def clrP (k : Nat) (ps : List Part3) : List Part3 := (ps.take k).map offP ++ ps.drop k
theorem cellsP_length (ps : List Part3) : (cellsP ps).length = ps.length * 3 := by
  induction ps with
  | nil => rfl
  | cons p l ih =>
    have : cellsP (p :: l) = [.string p.1, .string p.2.1, .bool p.2.2] ++ cellsP l := by simp [cellsP]
    rw [this, List.length_append, ih]
    simp; omega
theorem cellsP_append (a b : List Part3) : cellsP (a ++ b) = cellsP a ++ cellsP b := by simp [cellsP]
theorem clrP_length (k : Nat) (ps : List Part3) : (clrP k ps).length = ps.length := by unfold clrP; simp; omega
theorem clrP_zero (ps : List Part3) : clrP 0 ps = ps := by simp [clrP]
theorem clrP_all (ps : List Part3) : clrP ps.length ps = ps.map offP := by simp [clrP]
theorem clrP_set {ps : List Part3} {k : Nat} (hk : k < ps.length) : (cellsP (clrP k ps)).set (k * 3 + 2) (.bool false) = cellsP (clrP (k + 1) ps) := by
  have e1 : clrP k ps = (ps.take k).map offP ++ (ps[k] :: ps.drop (k + 1)) := by unfold clrP; rw [List.drop_eq_getElem_cons hk]
  have e2 : clrP (k + 1) ps = (ps.take k).map offP ++ (offP ps[k] :: ps.drop (k + 1)) := by
    unfold clrP
    rw [List.take_add_one, List.getElem?_eq_getElem hk, List.map_append, List.append_assoc]
    rfl
  have hl : (cellsP ((ps.take k).map offP)).length = k * 3 := by rw [cellsP_length]; simp; omega
  rw [e1, e2, cellsP_append, cellsP_append, List.set_append_right _ _ (by rw [hl]; omega), hl, show k * 3 + 2 - k * 3 = 2 by omega]
  congr 1
theorem cellsP_get {ps : List Part3} : ∀ {i : Nat} (hi : i < ps.length), (cellsP ps)[i * 3]? = some (.string (ps[i]).1) ∧ (cellsP ps)[i * 3 + 1]? = some (.string (ps[i]).2.1) ∧ (cellsP ps)[i * 3 + 2]? = some (.bool (ps[i]).2.2) := by
  induction ps with
  | nil => intro i hi; simp at hi
  | cons x l ih =>
    intro i hi
    have hc : cellsP (x :: l) = [.string x.1, .string x.2.1, .bool x.2.2] ++ cellsP l := by simp [cellsP]
    cases i with
    | zero => rw [hc]; exact ⟨rfl, rfl, rfl⟩
    | succ i =>
      obtain ⟨h0, h1, h2⟩ := ih (i := i) (by simpa using hi)
      rw [hc]
      refine ⟨?_, ?_, ?_⟩
      · rw [List.getElem?_append_right (by simp; omega), show (i + 1) * 3 - [Value.string x.1, Value.string x.2.1, Value.bool x.2.2].length = i * 3 by simp; omega]; exact h0
      · rw [List.getElem?_append_right (by simp; omega), show (i + 1) * 3 + 1 - [Value.string x.1, Value.string x.2.1, Value.bool x.2.2].length = i * 3 + 1 by simp; omega]; exact h1
      · rw [List.getElem?_append_right (by simp; omega), show (i + 1) * 3 + 2 - [Value.string x.1, Value.string x.2.1, Value.bool x.2.2].length = i * 3 + 2 by simp; omega]; exact h2
theorem own_pl {w : World} {B n cap : Nat} {A : Option Addr} {ps : List Part3} (h : w.ownsRow B 41 3 (.slice A n cap) n (cellsP ps)) (hn : ps.length = n) : Pl w A ps := fun hp => by
  rcases h.2 with ⟨_, h0⟩ | ⟨g, cap', _, hv, hg, _⟩
  · omega
  · injection hv with hA _ _
    subst hA
    have hadd : ∀ j, (⟨g, 0, none⟩ : Addr).add j = ⟨g, j, none⟩ := fun j => by rw [add_flat, Nat.zero_add]
    have hl := (h.lt g rfl).2
    refine ⟨g, 0, rfl, hl, fun i hi => ?_⟩
    obtain ⟨h0, h1, h2⟩ := cellsP_get hi
    have k := fun j u hj => hadd j ▸ h.cells (g := g) rfl j u hj
    rw [Nat.zero_add]
    exact ⟨k _ _ h0, k _ _ h1, k _ _ h2⟩
theorem grown_trans {w w' w'' : World} {row : Option Nat} (h : w.grownBy w' row) (h' : w'.grownBy w'' row) : w.grownBy w'' row :=
  ⟨h'.os.trans h.os, h'.tape.trans h.tape, h'.output.trans h.output, Nat.le_trans h.size h'.size, fun k hk hne => (h'.block k (Nat.lt_of_lt_of_le hk h.size) hne).trans (h.block k hk hne)⟩
theorem grown_below {w w' : World} (h : Below w.heap.size w w') (row : Option Nat) : w.grownBy w' row := ⟨h.os, h.tape, h.output, h.size, fun k hk _ => h.block k hk⟩
def ClRl (ps : List Part3) (B : Nat) (v : Value) (w : World) (i : Value) (wr : World) : Prop :=
  ∃ k : Nat, k ≤ ps.length ∧ i = .int .i64 (k : Int) ∧ wr.ownsRow B 41 3 v ps.length (cellsP (clrP k ps)) ∧ w.grownBy wr v.ownBlock
def SyPost (ps : List Part3) (B : Nat) (v : Value) (w : World) (e : Ending) (w' : World) : Prop :=
  e = .returned (.tuple #[.string (strN (runF (ps.map offP)).1.1), .bool ((runF (ps.map offP)).1.2.2 == 0)]) ∧ w.grownBy w' v.ownBlock

set_option maxHeartbeats 2000000 in
/-- chirographlaw14.OathApart$1 -/
theorem say1_any (A : Option Addr) (n c B : Nat) (ps : List Part3) (w : World) (hn : ps.length = n) (ow : w.ownsRow B 41 3 (.slice A n c) n (cellsP ps)) (hm : n ≤ maxLen) :
    Calls Try.prog 16 #[.slice A n c] w (SyPost ps B (.slice A n c) w) := by
  subst hn
  have D1 := Lib.hid (fun W (s : Pl W A (ps.map offP)) => run_any A ps.length c (ps.map offP) W (by simp) s hm)
  have start : ClRl ps B (.slice A ps.length c) w (.int .i64 0) w := ⟨0, Nat.zero_le _, rfl, by rw [clrP_zero]; exact ow, ⟨rfl, rfl, rfl, Nat.le_refl _, fun _ _ _ => rfl⟩⟩
  unfold maxLen at hm
  clear ow
  go_enter Try.func16, Try.ntmps16
  go_wp2_with fail
  go_loopw [10] (ClRl ps B (.slice A ps.length c) w) (fun i _ => ps.length - (intOf i).toNat)
  case atStart => exact start
  case round =>
    clear start
    obtain ⟨k, hk, rfl, ow, hg⟩ := hrel
    by_cases hkn : k < ps.length
    · have hkn' : (k : Int) < (ps.length : Int) := by omega
      rcases ow.2 with ⟨_, h0⟩ | ⟨g, cap', cur, hv, hgB, _⟩
      · omega
      injection hv with hA _ hc
      subst hA hc
      have hadd : ∀ j, (⟨g, 0, none⟩ : Addr).add j = ⟨g, j, none⟩ := fun j => by rw [add_flat, Nat.zero_add]
      obtain ⟨h0, h1, h2⟩ := cellsP_get (ps := clrP k ps) (i := k) (by rw [clrP_length]; exact hkn)
      have hcell := hadd (k * 3 + 2) ▸ ow.cells (g := g) rfl _ _ h2
      have hfr := ow.frozenAt (k * 3 + 2)
      have hst := ow.stored (k * 3 + 2) (.bool false)
      rw [clrP_set hkn] at hst
      have Hst := Lib.hid hst
      clear hst h0 h1 h2
      go_wp2_with fail
      exact ⟨⟨k + 1, by omega, rfl, Hst.out.1, grown_trans hg Hst.out.2⟩, by simp [intOf]; omega⟩
    · obtain rfl : k = ps.length := by omega
      rw [clrP_all] at ow
      have hpl := own_pl ow (by simp)
      have Hg := Lib.hid hg
      clear hg ow
      generalize hS : runF (ps.map offP) = S at *
      have HS := Lib.hid hS
      clear hS
      go_wp2_with fail
      refine (D1.out _ hpl).mono ?_
      rintro e w1 ⟨A1, c1, v1, rfl, h1, h1', s1, B1, ow1, b1⟩
      have x1 := Box2.new w1 (.slice A1 S.1.1.length c1) (.int .i64 S.1.2.1)
      have d1 := (Below.refl w1.heap.size w1).alloc (Nat.le_refl _) (.cells #[.slice A1 S.1.1.length c1, .int .i64 S.1.2.1] 24)
      have hcv := conv_sl (c := c1) rfl B1 (s1.bel d1)
      have hx0 := x1.c0
      have b2 := b1.trans (d1.mono b1.size)
      clear ow1 s1 x1 d1 D1
      go_wp2_with fail
      go_ret2
      exact ⟨by rw [HS.out]; rfl, grown_trans Hg.out (grown_below b2 _)⟩
end Go.Proofs.Ytoocoobgidoceaa
