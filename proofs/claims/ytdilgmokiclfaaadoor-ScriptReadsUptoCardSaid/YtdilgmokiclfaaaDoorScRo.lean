/- Chapter 24: plain laws for the reference's words, op and Parse. -/
import Derived.Test.YtdilgmokiclfaaaDoorScZd
import Derived.Test.YtdilgmokiclfaaaDoorScX
namespace Go.Proofs.YtdilgmokiclfaaaDoor
open Go.RowKit
set_option linter.unusedVariables false
set_option maxRecDepth 100000

/-- A line's first word, and the rest. -/
def wdA (s : ByteArray) : ByteArray := ⟨(Lib.cut s.data.toList [32]).1.toArray⟩
def wdR (s : ByteArray) : ByteArray := ⟨(Lib.cut s.data.toList [32]).2.1.toArray⟩
def wdI (s : ByteArray) : Bool := (Lib.cut s.data.toList [32]).2.2
theorem words_no {s : ByteArray} (h : wdI s = false) : wordsB s = [wdA s] := by
  by_cases hm : (32 : UInt8) ∈ s.data.toList
  · obtain ⟨x, y, e, hx⟩ := List.eq_append_cons_of_mem hm
    unfold wdI at h
    rw [e, cut_hit 32 x y hx] at h
    cases h
  · apply map_data_inj
    rw [wordsB_data, splitW_miss hm]
    unfold wdA
    rw [cut_miss 32 _ hm]
    simp
theorem words_yes {s : ByteArray} (h : wdI s = true) : wordsB s = wdA s :: wordsB (wdR s) ∧ (wdR s).size < s.size := by
  by_cases hm : (32 : UInt8) ∈ s.data.toList
  · obtain ⟨x, y, e, hx⟩ := List.eq_append_cons_of_mem hm
    have hc := cut_hit 32 x y hx
    constructor
    · apply map_data_inj
      rw [List.map_cons, wordsB_data, wordsB_data]
      unfold wdA wdR
      rw [e, hc]
      simp only
      exact splitW_hit hx
    · have h1 : (wdR s).size = y.length := by unfold wdR; rw [e, hc]; simp [ByteArray.size]
      have h2 : s.size = s.data.toList.length := by rw [Array.length_toList]; rfl
      rw [h1, h2, e]
      simp
      omega
  · unfold wdI at h
    rw [cut_miss 32 _ hm] at h
    cases h
theorem wdR_le (s : ByteArray) : (wdR s).size ≤ s.size := by
  have h : (Lib.cut s.data.toList [32]).2.1.length ≤ s.data.toList.length := by
    unfold Lib.cut; split
    · simp only [List.length_drop]; omega
    · exact Nat.zero_le _
  unfold wdR
  simp only [ByteArray.size, List.size_toArray]
  simpa using h
/-- What an operation's words, behind its own, are read as. -/
def opT (t : Int) (ws : List ByteArray) : Option OpD := if finB (opF t ws) then some (opF t ws).1 else none
theorem opR_T (line : ByteArray) : opR line = match tagOf ((wordsB line).headD ⟨#[]⟩) with
    | none => none
    | some t => opT t (wordsB line).tail := rfl
theorem finB_bad {r : OpD × St} (h : r.2.1 = true) : finB r = false := by unfold finB; rw [h]; rfl
theorem finB_more {r : OpD × St} (h : r.2.2 ≠ []) : finB r = false := by
  unfold finB
  have : r.2.2.isEmpty = false := by cases hr : r.2.2 with
    | nil => exact absurd hr h
    | cons => rfl
  rw [this]; simp
theorem rdN_bad : ∀ {n : Nat} {us : List ByteArray}, (rdN n (true, us)).2.1 = true
  | 0, _ => rfl
  | n + 1, us => by rw [rdN]; exact rdN_bad
theorem rdN_few : ∀ {n : Nat} {b : Bool} {us : List ByteArray}, us.length < n → (rdN n (b, us)).2.1 = true
  | 0, _, _, h => by omega
  | n + 1, b, [], _ => by
    rw [rdN]
    have e : (rdS (b, [])).2 = (true, []) := by unfold rdS; simp [small_none]
    simp only [e]
    exact rdN_bad
  | n + 1, b, x :: r, h => by
    rw [rdN]
    exact rdN_few (us := r) (by simpa using h)
theorem rdN_wrong : ∀ {i n : Nat} {b : Bool} {us : List ByteArray} {s : ByteArray}, i < n → us[i]? = some s → smallB s = none → (rdN n (b, us)).2.1 = true
  | _, 0, _, _, _, h, _, _ => by omega
  | 0, n + 1, b, us, s, h, hs, hn => by
    rw [rdN]
    cases us with
    | nil => cases hs
    | cons x r =>
      obtain rfl : x = s := by simpa using hs
      have e : (rdS (b, x :: r)).2 = (true, r) := by unfold rdS; simp [hn]
      simp only [e]
      exact rdN_bad
  | i + 1, n + 1, b, us, s, h, hs, hn => by
    rw [rdN]
    cases us with
    | nil => cases hs
    | cons x r => exact rdN_wrong (us := r) (i := i) (by omega) (by simpa using hs) hn
theorem rdN_right : ∀ {n : Nat} {us : List ByteArray} {l : List Int}, n ≤ us.length → (us.take n).map smallB = l.map some → rdN n (false, us) = (l, (false, us.drop n))
  | 0, us, l, _, h => by
    have : l = [] := by cases l with
      | nil => rfl
      | cons => simp at h
    subst this
    rfl
  | n + 1, [], l, hl, _ => by simp at hl
  | n + 1, x :: r, l, hl, h => by
    cases l with
    | nil => simp at h
    | cons z l =>
      simp only [List.take_succ_cons, List.map_cons, List.cons.injEq] at h
      rw [rdN]
      have e : rdS (false, x :: r) = (z, (false, r)) := by unfold rdS; simp [h.1]
      simp only [e]
      rw [rdN_right (us := r) (l := l) (by simpa using hl) h.2]
      rfl
theorem opT_bad {t : Int} {ws : List ByteArray} (h : (rdN (namesN t) (false, ws)).2.1 = true) : opT t ws = none := by
  obtain ⟨l, b, us, hr⟩ : ∃ l b us, rdN (namesN t) (false, ws) = (l, (b, us)) := ⟨_, _, _, rfl⟩
  rw [hr] at h
  obtain rfl : b = true := h
  unfold opT
  rw [if_neg]
  rw [Bool.not_eq_true]
  apply finB_bad
  by_cases h3 : t = 3
  · rw [opF3 h3 hr]; rfl
  by_cases h10 : t = 10
  · rw [opF10 h10 hr]; rfl
  by_cases h6 : t = 6
  · rw [opF6 h6 hr, rdP_end rfl]
  · rw [opF0 h3 h10 h6 hr]
theorem in_list {us : List ByteArray} {l : List Int} (h : us.map smallB = l.map some) : ∀ z ∈ l, inB z = true := by
  intro z hz
  have : some z ∈ us.map smallB := by rw [h]; exact List.mem_map.2 ⟨z, hz, rfl⟩
  obtain ⟨s, _, hs⟩ := List.mem_map.1 this
  exact (itB_smallB hs).2
theorem in_getD {l : List Int} (h : ∀ z ∈ l, inB z = true) (i : Nat) : inB (l.getD i 0) = true := by
  rw [List.getD_eq_getElem?_getD]
  cases hi : l[i]? with
  | none => rfl
  | some z => exact h z (List.mem_of_getElem? hi)
theorem zero_getD {l : List Int} {i n : Nat} (h : l.length = n) : decide (i < n) = true ∨ l.getD i 0 = 0 := by
  rcases Nat.lt_or_ge i n with hi | hi
  · exact Or.inl (decide_eq_true hi)
  · right; rw [List.getD_eq_getElem?_getD, List.getElem?_eq_none (by omega)]; rfl
theorem op0_ok {t : Int} {l : List Int} {n : Int} {k : Nat} (ht : 1 ≤ t ∧ t ≤ 11) (h6 : t ≠ 6) (hl : l.length = namesN t) (hin : ∀ z ∈ l, inB z = true) (hn : t = 10 ∨ n = 0) (hk : t = 3 ∨ k = 0) (hin2 : inB n = true) (hlt : ltB k rN = true) :
    opOk ⟨t, l.getD 0 0, l.getD 1 0, l.getD 2 0, n, k, [], []⟩ = true := by
  unfold opOk headOk
  simp only [Bool.and_eq_true, Bool.or_eq_true, decide_eq_true_eq, beq_iff_eq]
  have z0 := zero_getD (i := 0) hl
  have z1 := zero_getD (i := 1) hl
  have z2 := zero_getD (i := 2) hl
  simp only [decide_eq_true_eq] at z0 z1 z2
  refine ⟨⟨⟨⟨⟨⟨⟨⟨⟨⟨ht, z0⟩, z1⟩, z2⟩, hn⟩, hk⟩, ?_⟩, ⟨⟨in_getD hin 0, in_getD hin 1⟩, in_getD hin 2⟩, hin2⟩, rfl⟩, hlt⟩, rfl⟩
  rw [if_neg h6]; rfl
theorem lt0 : ltB 0 rN = true := by decide +kernel
theorem opT_no {t : Int} {ws : List ByteArray} {r : OpD × St} (e : opF t ws = r) (h : finB r = false) : opT t ws = none := by
  unfold opT; rw [e, h]; rfl
theorem opT_yes {t : Int} {ws : List ByteArray} {r : OpD × St} (e : opF t ws = r) (h : finB r = true) : opT t ws = some r.1 := by
  unfold opT; rw [e, h]; rfl
theorem finB_ok {o : OpD} (h : opOk o = true) : finB (o, (false, [])) = true := by unfold finB; simp [h]
def oneF (t : Int) (l : List Int) : List ByteArray → Option OpD
  | [s] => (numB s).map fun k => ⟨t, l.getD 0 0, l.getD 1 0, l.getD 2 0, 0, k, [], []⟩
  | _ => none
def oneS (t : Int) (l : List Int) : List ByteArray → Option OpD
  | [s] => (smallB s).map fun n => ⟨t, l.getD 0 0, l.getD 1 0, l.getD 2 0, n, 0, [], []⟩
  | _ => none
theorem opT3 {t : Int} {ws : List ByteArray} {l : List Int} (h3 : t = 3) (hn : namesN t ≤ ws.length) (hl : (ws.take (namesN t)).map smallB = l.map some) :
    opT t ws = oneF t l (ws.drop (namesN t)) := by
  have hr := rdN_right hn hl
  have hll : l.length = namesN t := by have := congrArg List.length hl; simp at this; omega
  have hf := opF3 h3 hr
  match hd : ws.drop (namesN t) with
  | [] => rw [hd] at hf; exact opT_no hf (finB_bad rfl)
  | [s] =>
    rw [hd] at hf
    show _ = (numB s).map _
    cases hs : numB s with
    | none => exact opT_no hf (finB_bad (by show (false || (numB s).isNone) = true; rw [hs]; rfl))
    | some k =>
      have e : rdF (false, [s]) = (k, (false, [])) := by unfold rdF; simp [hs]
      rw [e] at hf
      exact opT_yes hf (finB_ok (op0_ok (t := t) (l := l) (n := 0) (k := k) (by omega) (by omega) hll (in_list hl) (.inr rfl) (.inl h3) rfl (hexB_numB hs).2))
  | s :: s2 :: r => rw [hd] at hf; exact opT_no hf (finB_more (by show s2 :: r ≠ []; simp))
theorem opT10 {t : Int} {ws : List ByteArray} {l : List Int} (h10 : t = 10) (hn : namesN t ≤ ws.length) (hl : (ws.take (namesN t)).map smallB = l.map some) :
    opT t ws = oneS t l (ws.drop (namesN t)) := by
  have hr := rdN_right hn hl
  have hll : l.length = namesN t := by have := congrArg List.length hl; simp at this; omega
  have hf := opF10 h10 hr
  match hd : ws.drop (namesN t) with
  | [] => rw [hd] at hf; exact opT_no hf (finB_bad rfl)
  | [s] =>
    rw [hd] at hf
    show _ = (smallB s).map _
    cases hs : smallB s with
    | none => exact opT_no hf (finB_bad (by show (false || (smallB s).isNone) = true; rw [hs]; rfl))
    | some k =>
      have e : rdS (false, [s]) = (k, (false, [])) := by unfold rdS; simp [hs]
      rw [e] at hf
      exact opT_yes hf (finB_ok (op0_ok (t := t) (l := l) (n := k) (k := 0) (by omega) (by omega) hll (in_list hl) (.inl h10) (.inr rfl) (itB_smallB hs).2 lt0))
  | s :: s2 :: r => rw [hd] at hf; exact opT_no hf (finB_more (by show s2 :: r ≠ []; simp))
theorem opT0 {t : Int} {ws : List ByteArray} {l : List Int} (ht : 1 ≤ t ∧ t ≤ 11) (h3 : ¬ t = 3) (h10 : ¬ t = 10) (h6 : ¬ t = 6) (hn : namesN t ≤ ws.length) (hl : (ws.take (namesN t)).map smallB = l.map some) :
    opT t ws = if ws.length = namesN t then some (op0 t l) else none := by
  have hr := rdN_right hn hl
  have hll : l.length = namesN t := by have := congrArg List.length hl; simp at this; omega
  unfold opT
  rw [opF0 h3 h10 h6 hr]
  by_cases hd : ws.length = namesN t
  · rw [if_pos hd, if_pos]
    unfold finB
    have : ws.drop (namesN t) = [] := List.drop_eq_nil_of_le (by omega)
    simp only [this, Bool.not_false, List.isEmpty_nil, Bool.true_and]
    exact op0_ok ht h6 hll (in_list hl) (.inr rfl) (.inr rfl) rfl lt0
  · rw [if_neg hd, if_neg]
    rw [Bool.not_eq_true]
    refine finB_more fun h => hd ?_
    have := congrArg List.length h
    simp at this
    omega
/-- The pairs of a sum's words, one by one. -/
theorem rdP_yes {N : Nat} {s s2 : ByteArray} {r : List ByteArray} {k : Nat} {v : Int} (h : r.length + 2 ≤ N) (hk : numB s = some k) (hv : smallB s2 = some v) :
    rdP N (false, s :: s2 :: r) = (k :: (rdP N (false, r)).1, v :: (rdP N (false, r)).2.1, (rdP N (false, r)).2.2) := by
  rw [rdP_step (by simpa using h)]
  simp [hk, hv]
theorem rdP_no {N : Nat} {s s2 : ByteArray} {r : List ByteArray} (h : r.length + 2 ≤ N) (hb : numB s = none ∨ smallB s2 = none) : (rdP N (false, s :: s2 :: r)).2.2.1 = true := by
  rw [rdP_step (by simpa using h)]
  have e : (((false || (numB s).isNone) || (smallB ((s2 :: r).headD ⟨#[]⟩)).isNone) : Bool) = true := by
    rcases hb with hb | hb <;> simp [hb]
  rw [e, rdP_end rfl]
theorem rdP_odd {N : Nat} {s : ByteArray} (h : 1 ≤ N) : (rdP N (false, [s])).2.2.1 = true := by
  rw [rdP_step (by simpa using h)]
  have e : (((false || (numB s).isNone) || (smallB (([] : List ByteArray).headD ⟨#[]⟩)).isNone) : Bool) = true := by simp [small_none]
  rw [e, rdP_end rfl]
/-- What a sum's pairs give. -/
def linT (t : Int) (r : List Nat × List Int × St) : Option OpD := if finB (⟨t, 0, 0, 0, 0, 0, r.1, r.2.1⟩, r.2.2) then some ⟨t, 0, 0, 0, 0, 0, r.1, r.2.1⟩ else none
theorem opT6 {t : Int} {ws : List ByteArray} (h6 : t = 6) : opT t ws = linT t (rdP ws.length (false, ws)) := by
  have hr : rdN (namesN t) (false, ws) = ([], (false, ws)) := by subst h6; rfl
  unfold opT linT
  rw [opF6 h6 hr]
  rfl
theorem linT_bad {t : Int} {r : List Nat × List Int × St} (h : r.2.2.1 = true) : linT t r = none := by
  unfold linT; rw [finB_bad h]; rfl
theorem linT_end {t : Int} {ks : List Nat} {vs : List Int} : linT t (ks, vs, (false, [])) = if opOk ⟨t, 0, 0, 0, 0, 0, ks, vs⟩ then some ⟨t, 0, 0, 0, 0, 0, ks, vs⟩ else none := by
  unfold linT finB; simp
/-- What op leaves. -/
def RoOut (R : Option OpD) (w : World) (e : Ending) (w' : World) : Prop :=
  ∃ E : OpE, e = .returned (.tuple #[.agg E.v, .bool R.isSome]) ∧ (∀ d, R = some d → E.d = d ∧ OpInA w.heap.size w' E) ∧ Below w.heap.size w w'
/-- What is asked of the reference's op. -/
def RopSpec : Prop := ∀ (t : Int) (b o N c : Nat) (ws : List ByteArray) (w : World), (1 ≤ t ∧ t ≤ 11) → StrS w b o N c ws → Env w → N ≤ 60000000 → (∀ x ∈ ws, x.size ≤ 50000000) →
    Calls Tryd.prog 44 #[.int .i64 t, .slice (some ⟨b, o, none⟩) N c] w fun e w' => RoOut (opT t ws) w e w'
theorem StrS.drop {w : World} {b o N c m o' : Nat} {ws : List ByteArray} (h : StrS w b o N c ws) (hm : m ≤ N) (ho : m < c → o' = o + m) : StrS w b o' (N - m) (c - m) (ws.drop m) := by
  refine ⟨by rw [List.length_drop, h.len], by have := h.lim; omega, h.lt, fun j x hj => ?_⟩
  rw [List.getElem?_drop] at hj
  have hl : m + j < ws.length := (List.getElem?_eq_some_iff.1 hj).1
  rw [h.len] at hl
  have := h.cell (m + j) x hj
  rw [ho (by have := h.lim; omega), Nat.add_assoc]
  exact this
theorem slice_low (b o N c m : Nat) (h1 : m ≤ N) (h2 : N ≤ c) : ∃ o' : Nat, (∀ W : World, (Instr.slice 43 (.slice (some ⟨b, o, none⟩) N c) (some (.int .i64 (m : Int))) none none).run Tryd.prog W = .ok (.slice (some ⟨b, o', none⟩) (N - m) (c - m)) W) ∧ (m < c → o' = o + m) := by
  have hu : Tryd.prog.underlying 43 = some (.slice (Tryd.prog.elem 43)) := by kernel_rfl
  have hs : ∀ W : World, (sizeOf (Tryd.prog.elem 43)).run Tryd.prog W = .ok 1 W := fun W => by kernel_rfl
  refine ⟨if c = m then o else o + m, fun W => ?_, fun h => if_neg (by omega)⟩
  rw [run_slice_l W 43 (some ⟨b, o, none⟩) N c hu .i64 (m : Int) (by omega) (by omega), hs]
  show Result.ok (sliced (some ⟨b, o, none⟩) m N c 1) W = _
  unfold sliced
  congr 1
  congr 1
  by_cases e : c = m
  · rw [if_pos e, if_pos e]
  · rw [if_neg e, if_neg e]
    show some (Addr.add ⟨b, o, none⟩ (m * 1)) = _
    rw [add_flat3, Nat.mul_one]
end Go.Proofs.YtdilgmokiclfaaaDoor
