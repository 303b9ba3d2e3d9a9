/- Chapter 24: what parseOp answers: plain. -/
import Derived.Test.YtdilgmokiclfaaaDoorScW
import Derived.Test.YtdilgmokiclfaaaDoorScF
import Derived.Test.YtdilgmokiclfaaaDoorScM
namespace Go.Proofs.YtdilgmokiclfaaaDoor
open Go.RowKit
set_option linter.unusedVariables false
set_option maxRecDepth 100000

abbrev St := Bool × List ByteArray
def rdS (s : St) : Int × St := ((smallB (s.2.headD ⟨#[]⟩)).getD 0, s.1 || (smallB (s.2.headD ⟨#[]⟩)).isNone, s.2.tail)
def rdF (s : St) : Nat × St := ((numB (s.2.headD ⟨#[]⟩)).getD 0, s.1 || (numB (s.2.headD ⟨#[]⟩)).isNone, s.2.tail)
def rdN : Nat → St → List Int × St
  | 0, s => ([], s)
  | n + 1, s => ((rdS s).1 :: (rdN n (rdS s).2).1, (rdN n (rdS s).2).2)
/-- Pairs, till the words end or one is wrong; at most n. -/
def rdP : Nat → St → List Nat × List Int × St
  | 0, s => ([], [], s)
  | n + 1, s => if s.1 || s.2.isEmpty then ([], [], s) else
    let f := rdF s
    let g := rdS f.2
    (f.1 :: (rdP n g.2).1, g.1 :: (rdP n g.2).2.1, (rdP n g.2).2.2)
def op0 (t : Int) (l : List Int) : OpD := ⟨t, l.getD 0 0, l.getD 1 0, l.getD 2 0, 0, 0, [], []⟩
/-- An operation read behind its word. -/
def opF (t : Int) (ws : List ByteArray) : OpD × St :=
  let r := rdN (namesN t) (false, ws)
  if t = 3 then ({op0 t r.1 with k := (rdF r.2).1}, (rdF r.2).2)
  else if t = 10 then ({op0 t r.1 with n := (rdS r.2).1}, (rdS r.2).2)
  else if t = 6 then ({op0 t r.1 with ks := (rdP r.2.2.length r.2).1, vs := (rdP r.2.2.length r.2).2.1}, (rdP r.2.2.length r.2).2.2)
  else (op0 t r.1, r.2)
def finB (r : OpD × St) : Bool := !r.2.1 && r.2.2.isEmpty && opOk r.1
def tagOf (s : ByteArray) : Option Int := ([1, 2, 3, 4, 5, 6, 7, 8, 9, 10, 11] : List Int).find? fun t => decide (wordB t = s)
/-- What parseOp answers. -/
def opR (line : ByteArray) : Option OpD :=
  match tagOf ((wordsB line).headD ⟨#[]⟩) with
  | none => none
  | some t => if finB (opF t (wordsB line).tail) then some (opF t (wordsB line).tail).1 else none
theorem rdP_end {n : Nat} {s : St} (h : (s.1 || s.2.isEmpty) = true) : rdP n s = ([], [], s) := by
  cases n with
  | zero => rfl
  | succ n => rw [rdP, if_pos h]
theorem rdP_more {n m : Nat} : ∀ {s : St}, s.2.length ≤ n → n ≤ m → rdP m s = rdP n s := by
  induction n generalizing m with
  | zero =>
    intro s h _
    have : s.2 = [] := List.eq_nil_of_length_eq_zero (by omega)
    rw [rdP_end (n := m) (by rw [this]; simp)]
    rfl
  | succ n ih =>
    intro s h hm
    obtain ⟨m, rfl⟩ : ∃ k, m = k + 1 := ⟨m - 1, by omega⟩
    rw [rdP, rdP]
    split
    · rfl
    · have hl : (rdS (rdF s).2).2.2.length ≤ n := by
        show s.2.tail.tail.length ≤ n
        simp; omega
      have e : rdP m (rdS (rdF s).2).2 = rdP n (rdS (rdF s).2).2 := ih hl (by omega)
      simp only [e]
theorem wordB_inj : ∀ t ∈ ([1, 2, 3, 4, 5, 6, 7, 8, 9, 10, 11] : List Int), ∀ k ∈ ([1, 2, 3, 4, 5, 6, 7, 8, 9, 10, 11] : List Int), wordB t = wordB k → t = k := by decide +kernel
theorem mem_tags {t : Int} (h : 1 ≤ t ∧ t ≤ 11) : t ∈ ([1, 2, 3, 4, 5, 6, 7, 8, 9, 10, 11] : List Int) := by
  have : t = 1 ∨ t = 2 ∨ t = 3 ∨ t = 4 ∨ t = 5 ∨ t = 6 ∨ t = 7 ∨ t = 8 ∨ t = 9 ∨ t = 10 ∨ t = 11 := by omega
  simpa using this
theorem tagOf_word {t : Int} (h : 1 ≤ t ∧ t ≤ 11) : tagOf (wordB t) = some t := by
  unfold tagOf
  cases hf : List.find? (fun u => decide (wordB u = wordB t)) ([1, 2, 3, 4, 5, 6, 7, 8, 9, 10, 11] : List Int) with
  | none =>
    rw [List.find?_eq_none] at hf
    exact absurd (decide_eq_true rfl) (hf t (mem_tags h))
  | some u =>
    have h1 := List.find?_some hf
    have h2 := List.mem_of_find?_eq_some hf
    rw [wordB_inj u h2 t (mem_tags h) (of_decide_eq_true h1)]
theorem tagOf_some {s : ByteArray} {t : Int} (h : tagOf s = some t) : (1 ≤ t ∧ t ≤ 11) ∧ wordB t = s := by
  unfold tagOf at h
  have h1 := List.find?_some h
  have h2 := List.mem_of_find?_eq_some h
  refine ⟨?_, of_decide_eq_true h1⟩
  have : t = 1 ∨ t = 2 ∨ t = 3 ∨ t = 4 ∨ t = 5 ∨ t = 6 ∨ t = 7 ∨ t = 8 ∨ t = 9 ∨ t = 10 ∨ t = 11 := by simpa using h2
  omega
theorem tagOf_miss {s : ByteArray} (hne : ∀ j : Nat, 1 ≤ j → j < 12 → wordB (j : Int) ≠ s) : tagOf s = none := by
  unfold tagOf
  rw [List.find?_eq_none]
  intro t ht
  have ht' : t = 1 ∨ t = 2 ∨ t = 3 ∨ t = 4 ∨ t = 5 ∨ t = 6 ∨ t = 7 ∨ t = 8 ∨ t = 9 ∨ t = 10 ∨ t = 11 := by simpa using ht
  have := hne t.toNat (by omega) (by omega)
  rw [show ((t.toNat : Nat) : Int) = t by omega] at this
  simpa using this
theorem opF3 {t : Int} {ws : List ByteArray} {l : List Int} {s : St} (h : t = 3) (hr : rdN (namesN t) (false, ws) = (l, s)) : opF t ws = ({op0 t l with k := (rdF s).1}, (rdF s).2) := by
  unfold opF; simp only [hr]; rw [if_pos h]
theorem opF10 {t : Int} {ws : List ByteArray} {l : List Int} {s : St} (h : t = 10) (hr : rdN (namesN t) (false, ws) = (l, s)) : opF t ws = ({op0 t l with n := (rdS s).1}, (rdS s).2) := by
  unfold opF; simp only [hr]; rw [if_neg (by omega), if_pos h]
theorem opF6 {t : Int} {ws : List ByteArray} {l : List Int} {s : St} (h : t = 6) (hr : rdN (namesN t) (false, ws) = (l, s)) : opF t ws = ({op0 t l with ks := (rdP s.2.length s).1, vs := (rdP s.2.length s).2.1}, (rdP s.2.length s).2.2) := by
  unfold opF; simp only [hr]; rw [if_neg (by omega), if_neg (by omega), if_pos h]
theorem opF0 {t : Int} {ws : List ByteArray} {l : List Int} {s : St} (h3 : ¬ t = 3) (h10 : ¬ t = 10) (h6 : ¬ t = 6) (hr : rdN (namesN t) (false, ws) = (l, s)) : opF t ws = (op0 t l, s) := by
  unfold opF; simp only [hr]; rw [if_neg h3, if_neg h10, if_neg h6]
/-- What an operation's slices hold, whatever is laid at the blocks up to ob. -/
def OpInA (ob : Nat) (W : World) (E : OpE) : Prop := ∀ W' : World, W.heap.size ≤ W'.heap.size → (∀ j, ob < j → j < W.heap.size → W'.heap[j]? = W.heap[j]?) → OpIn W' E
theorem OpInA.out {ob : Nat} {W : World} {E : OpE} (h : OpInA ob W E) : OpIn W E := h W (Nat.le_refl _) fun _ _ _ => rfl
theorem OpInA.to {ob z : Nat} {W W' : World} {E : OpE} (h : OpInA ob W E) (hz : z < ob) (hs : W.heap.size ≤ W'.heap.size) (hb : ∀ j, ob < j → j < W.heap.size → W'.heap[j]? = W.heap[j]?) : OpInA z W' E :=
  fun W2 h1 h2 => h W2 (Nat.le_trans hs h1) fun j h3 h4 => (h2 j (by omega) (by omega)).trans (hb j h3 h4)
theorem OpInA.to' {z : Nat} {W W' : World} {E : OpE} (h : OpInA z W E) (hb : Below W.heap.size W W') : OpInA z W' E :=
  fun W2 h1 h2 => h W2 (Nat.le_trans hb.size h1) fun j h3 h4 => (h2 j h3 (Nat.lt_of_lt_of_le h4 hb.size)).trans (hb.block j h4)
def ParseOpSpec : Prop := ∀ (line : ByteArray) (w : World), Env w → line.size ≤ 50000000 →
    Calls Tryd.prog 32 #[.string line] w fun e w' => ∃ E : OpE, e = .returned (.tuple #[.agg E.v, .bool (opR line).isSome]) ∧ OpInA w.heap.size w' E ∧ (∀ d, opR line = some d → E.d = d) ∧ Below w.heap.size w w'
end Go.Proofs.YtdilgmokiclfaaaDoor
