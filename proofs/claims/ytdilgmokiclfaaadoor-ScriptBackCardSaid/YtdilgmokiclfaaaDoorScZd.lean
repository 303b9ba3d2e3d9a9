/- Chapter 24: plain laws: a plan's text. -/
import Derived.Test.YtdilgmokiclfaaaDoorScZc
import Derived.Test.YtdilgmokiclfaaaDoorScO
namespace Go.Proofs.YtdilgmokiclfaaaDoor
open Go.RowKit
set_option linter.unusedVariables false
set_option maxRecDepth 100000

/-- What is read of lines, till the one that gives. -/
def linesR : Nat → List OpD → ByteArray → Nat → Nat ⊕ (List OpD × List Nat × ByteArray × Nat)
  | 0, _, _, no => .inl no
  | f + 1, ops, s, no =>
    if cutI s = false then .inl (no + 1) else
    match fieldsR (cutA s) giveB with
    | some l => if 64 < l.length then .inl (no + 1) else .inr (ops, l, cutR s, no + 1)
    | none => match opR (cutA s) with
      | none => .inl (no + 1)
      | some o => if 400 ≤ ops.length then .inl (no + 1) else linesR f (ops ++ [o]) (cutR s) (no + 1)
structure PlR where
  tau : Nat
  bs : List Nat
  os : List OpD
  is : List Nat
def blindR (tau : Nat) (s1 : ByteArray) : Nat ⊕ PlR :=
  if cutI s1 = false then .inl 2 else
  match fieldsR (cutA s1) blindB with
  | some bs => if bs.length = 11 then (match linesR 401 [] (cutR s1) 2 with
    | .inl n => .inl n
    | .inr r => if r.2.2.1 = ⟨#[]⟩ then .inr ⟨tau, bs, r.1, r.2.1⟩ else .inl (r.2.2.2 + 1)) else .inl 2
  | none => .inl 2
/-- What Parse answers: the plan, or the line's number. -/
def parseR (s : ByteArray) : Nat ⊕ PlR :=
  if cutI s = false then .inl 1 else
  match fieldsR (cutA s) tauB with
  | some [tau] => blindR tau (cutR s)
  | _ => .inl 1
/-- The lines of operations, ahead of a text. -/
def opsT : List OpD → ByteArray → ByteArray
  | [], t => t
  | o :: r, t => lineB (lineWs o) ++ opsT r t
def textR (d : PlR) : ByteArray := lineB (fieldsWs tauB [d.tau]) ++ (lineB (fieldsWs blindB d.bs) ++ opsT d.os (lineB (fieldsWs giveB d.is)))
def plOkR (d : PlR) : Bool :=
  decide (d.bs.length = 11 ∧ d.is.length ≤ 64 ∧ d.os.length ≤ 400) && ([d.tau].all fun x => ltB x rN) && (d.bs.all fun x => ltB x rN) && (d.is.all fun x => ltB x rN) && (d.os.all opOk)
def PlD.r (p : PlD) : PlR := ⟨p.tau, p.bs, p.os.map (·.d), p.is⟩
theorem opsB_T (t : ByteArray) : ∀ (s : ByteArray) (l : List OpE), opsB s l ++ t = s ++ opsT (l.map (·.d)) t
  | s, [] => rfl
  | s, e :: r => by rw [opsB, opsB_T t _ r, List.map_cons, opsT, ByteArray.append_assoc]
theorem textB_R (p : PlD) : textB p = textR p.r := by
  unfold textB textR PlD.r
  rw [opsB_T]
  unfold headB
  rw [ByteArray.append_assoc]
theorem plOk_R (p : PlD) : plOk p = plOkR p.r := by
  unfold plOk plOkR PlD.r
  simp [List.all_map, Function.comp_def]
theorem nums_ok : ∀ {xs : List Nat}, (∀ x ∈ xs, ltB x rN = true) → numsB (xs.map hexB) = some xs
  | [], _ => rfl
  | x :: xs, h => by
    rw [List.map_cons, numsB_cons, numB_hexB (h x (List.mem_cons_self ..))]
    simp only
    rw [nums_ok (fun y hy => h y (List.mem_cons_of_mem _ hy))]
    rfl
theorem nums_inv : ∀ {ws : List ByteArray} {xs : List Nat}, numsB ws = some xs → ws = xs.map hexB ∧ ∀ x ∈ xs, ltB x rN = true
  | [], xs, h => by
    obtain rfl : [] = xs := by simpa [numsB] using h
    exact ⟨rfl, fun x hx => (by cases hx)⟩
  | w :: ws, xs, h => by
    rw [numsB_cons] at h
    cases hn : numB w with
    | none => rw [hn] at h; cases h
    | some v =>
      rw [hn] at h
      simp only at h
      cases hr : numsB ws with
      | none => rw [hr] at h; cases h
      | some ys =>
        rw [hr] at h
        obtain rfl : v :: ys = xs := by simpa using h
        obtain ⟨h1, h2⟩ := nums_inv hr
        obtain ⟨h3, h4⟩ := hexB_numB hn
        refine ⟨by rw [List.map_cons, h3, ← h1], fun x hx => ?_⟩
        rcases List.mem_cons.1 hx with rfl | hx
        · exact h4
        · exact h2 x hx
theorem fieldsWs_hi {word : ByteArray} {xs : List Nat} (hw : Hi word) : ∀ x ∈ fieldsWs word xs, Hi x := fun x hx => by
  rcases List.mem_cons.1 hx with rfl | hx
  · exact hw
  · obtain ⟨y, hy, rfl⟩ := List.mem_map.1 hx
    exact hexB_hi y
theorem fieldsR_cons {line word x : ByteArray} {r : List ByteArray} (hw : wordsB line = x :: r) : fieldsR line word = if x = word then numsB r else none := by
  unfold fieldsR
  rw [hw]
  rfl
theorem fields_ok {word : ByteArray} {xs : List Nat} (hw : Hi word) (h : ∀ x ∈ xs, ltB x rN = true) : fieldsR (joinB (fieldsWs word xs)) word = some xs := by
  have e : wordsB (joinB (fieldsWs word xs)) = word :: xs.map hexB := words_joinB _ _ (fieldsWs_hi hw)
  rw [fieldsR_cons e, if_pos rfl]
  exact nums_ok h
theorem words_cons (line : ByteArray) : ∃ x r, wordsB line = x :: r := by
  have hwne : wordsB line ≠ [] := fun e => by have := wordsB_len line; rw [e] at this; simp at this
  exact List.exists_cons_of_ne_nil hwne
theorem fields_inv {line word : ByteArray} {xs : List Nat} (h : fieldsR line word = some xs) : joinB (fieldsWs word xs) = line ∧ ∀ x ∈ xs, ltB x rN = true := by
  obtain ⟨x, r, hw⟩ := words_cons line
  rw [fieldsR_cons hw] at h
  split at h
  · rename_i hx
    obtain ⟨h1, h2⟩ := nums_inv h
    refine ⟨?_, h2⟩
    unfold fieldsWs
    rw [← h1, ← hx, ← hw, joinB_words]
  · cases h
theorem tau_hi : Hi tauB := by intro x hx; revert x; decide +kernel
theorem blind_hi : Hi blindB := by intro x hx; revert x; decide +kernel
theorem give_hi : Hi giveB := by intro x hx; revert x; decide +kernel
theorem wordB_give {t : Int} (h : 1 ≤ t ∧ t ≤ 11) : wordB t ≠ giveB := by
  have hall : ∀ t ∈ ([1, 2, 3, 4, 5, 6, 7, 8, 9, 10, 11] : List Int), wordB t ≠ giveB := by decide +kernel
  exact hall t (mem_tags h)
theorem not_give {o : OpD} (h : opOk o = true) : fieldsR (joinB (lineWs o)) giveB = none := by
  have hw : wordsB (joinB (lineWs o)) = wordB o.t :: (namesWs o ++ tailWs o) := words_joinB _ _ (lineWs_hi h)
  rw [fieldsR_cons hw, if_neg (wordB_give (OpF.of h).t)]
theorem lines_ok {is : List Nat} (hi : is.length ≤ 64) (hx : ∀ x ∈ is, ltB x rN = true) : ∀ (os : List OpD) (f : Nat) (ops : List OpD) (no : Nat), (∀ o ∈ os, opOk o = true) → ops.length + os.length ≤ 400 → os.length < f →
    linesR f ops (opsT os (lineB (fieldsWs giveB is))) no = .inr (ops ++ os, is, ⟨#[]⟩, no + os.length + 1)
  | [], f + 1, ops, no, _, _, _ => by
    have hc := cut_line giveB (is.map hexB) ⟨#[]⟩ (fieldsWs_hi give_hi)
    rw [show lineB (giveB :: is.map hexB) ++ ⟨#[]⟩ = lineB (fieldsWs giveB is) from ByteArray.append_empty] at hc
    rw [opsT, linesR, hc.1, hc.2.1, hc.2.2, if_neg (by decide)]
    rw [show joinB (giveB :: is.map hexB) = joinB (fieldsWs giveB is) from rfl, fields_ok give_hi hx]
    simp only
    rw [if_neg (by omega)]
    simp
  | o :: os, f + 1, ops, no, h, hl, hf => by
    have ho := h o (List.mem_cons_self ..)
    have hc := cut_line (wordB o.t) (namesWs o ++ tailWs o) (opsT os (lineB (fieldsWs giveB is))) (lineWs_hi ho)
    rw [show wordB o.t :: (namesWs o ++ tailWs o) = lineWs o from rfl] at hc
    rw [List.length_cons] at hl hf
    rw [opsT, linesR, hc.1, hc.2.1, hc.2.2, if_neg (by decide), not_give ho, opR_line ho]
    simp only
    rw [if_neg (by omega), lines_ok hi hx os f (ops ++ [o]) (no + 1) (fun y hy => h y (List.mem_cons_of_mem _ hy)) (by rw [List.length_append, List.length_singleton]; omega) (by omega), List.length_cons]
    simp only [List.append_assoc, List.singleton_append, Sum.inr.injEq, Prod.mk.injEq, true_and]
    omega
  | os, 0, ops, no, _, _, hf => by omega
/-- A right plan's text is read as that plan. -/
theorem parse_text {d : PlR} (h : plOkR d = true) : parseR (textR d) = .inr d := by
  unfold plOkR at h
  simp only [Bool.and_eq_true, decide_eq_true_eq, List.all_eq_true] at h
  obtain ⟨⟨⟨⟨⟨h1, h2, h3⟩, ht⟩, hb⟩, hi⟩, ho⟩ := h
  have c1 := cut_line tauB ([d.tau].map hexB) (lineB (fieldsWs blindB d.bs) ++ opsT d.os (lineB (fieldsWs giveB d.is))) (fieldsWs_hi tau_hi)
  have c2 := cut_line blindB (d.bs.map hexB) (opsT d.os (lineB (fieldsWs giveB d.is))) (fieldsWs_hi blind_hi)
  unfold parseR
  rw [show textR d = lineB (tauB :: [d.tau].map hexB) ++ (lineB (fieldsWs blindB d.bs) ++ opsT d.os (lineB (fieldsWs giveB d.is))) from rfl, c1.1, c1.2.1, c1.2.2, if_neg (by decide),
    show joinB (tauB :: [d.tau].map hexB) = joinB (fieldsWs tauB [d.tau]) from rfl, fields_ok tau_hi ht]
  simp only
  unfold blindR
  rw [show lineB (fieldsWs blindB d.bs) = lineB (blindB :: d.bs.map hexB) from rfl, c2.1, c2.2.1, c2.2.2, if_neg (by decide),
    show joinB (blindB :: d.bs.map hexB) = joinB (fieldsWs blindB d.bs) from rfl, fields_ok blind_hi hb]
  simp only
  rw [if_pos h1, lines_ok h2 hi d.os 401 [] 2 ho (by simp; omega) (by omega)]
  rfl
theorem lines_inv : ∀ {f : Nat} {ops : List OpD} {s : ByteArray} {no : Nat} {ops' : List OpD} {is : List Nat} {rest : ByteArray} {no' : Nat}, linesR f ops s no = .inr (ops', is, rest, no') → ops.length ≤ 400 →
    ∃ os, ops' = ops ++ os ∧ s = opsT os (lineB (fieldsWs giveB is) ++ rest) ∧ (∀ o ∈ os, opOk o = true) ∧ is.length ≤ 64 ∧ (∀ x ∈ is, ltB x rN = true) ∧ ops'.length ≤ 400
  | 0, _, _, _, _, _, _, _, h, _ => by cases h
  | f + 1, ops, s, no, ops', is, rest, no', h, hl => by
    rw [linesR] at h
    split at h
    · cases h
    rename_i hc
    have hs := cut_back (s := s) (by simpa using hc)
    cases hg : fieldsR (cutA s) giveB with
    | some l =>
      rw [hg] at h
      simp only at h
      split at h
      · cases h
      · obtain ⟨rfl, rfl, rfl, rfl⟩ : ops = ops' ∧ l = is ∧ cutR s = rest ∧ no + 1 = no' := by simpa using h
        obtain ⟨h1, h2⟩ := fields_inv hg
        refine ⟨[], by simp, ?_, fun o ho => (by cases ho), by omega, h2, hl⟩
        rw [opsT, lineB, h1]
        exact hs
    | none =>
      rw [hg] at h
      simp only at h
      cases ho : opR (cutA s) with
      | none => rw [ho] at h; cases h
      | some o =>
        rw [ho] at h
        simp only at h
        split at h
        · cases h
        · obtain ⟨os, h1, h2, h3, h4, h5, h6⟩ := lines_inv h (by rw [List.length_append, List.length_singleton]; omega)
          obtain ⟨h7, h8⟩ := line_opR ho
          refine ⟨o :: os, by rw [h1]; simp, ?_, fun y hy => ?_, h4, h5, h6⟩
          · rw [opsT, lineB, h7, ← h2]; exact hs
          · rcases List.mem_cons.1 hy with rfl | hy
            · exact h8
            · exact h3 y hy
/-- What is read of a text is a right plan, and the text is its. -/
theorem text_parse {s : ByteArray} {d : PlR} (h : parseR s = .inr d) : textR d = s ∧ plOkR d = true := by
  unfold parseR at h
  split at h
  · cases h
  rename_i hc
  have hs := cut_back (s := s) (by simpa using hc)
  split at h
  case h_2 => cases h
  rename_i tau hf
  obtain ⟨h1, h2⟩ := fields_inv hf
  unfold blindR at h
  split at h
  · cases h
  rename_i hc1
  have hs1 := cut_back (s := cutR s) (by simpa using hc1)
  split at h
  case h_2 => cases h
  rename_i bs hf1
  obtain ⟨h3, h4⟩ := fields_inv hf1
  split at h
  case isFalse => cases h
  rename_i h11
  split at h
  · cases h
  rename_i r hr
  split at h
  case isFalse => cases h
  rename_i hrest
  obtain ⟨os', is, rest, no'⟩ := r
  simp only at hrest h
  subst hrest
  obtain rfl : PlR.mk tau bs os' is = d := Sum.inr.inj h
  obtain ⟨os, h5, h6, h7, h8, h9, h10⟩ := lines_inv hr (by simp)
  obtain rfl : os' = os := by simpa using h5
  rw [show (lineB (fieldsWs giveB is) ++ ⟨#[]⟩ : ByteArray) = lineB (fieldsWs giveB is) from ByteArray.append_empty] at h6
  constructor
  · unfold textR
    simp only
    rw [← h6, lineB, h1, lineB, h3, ← hs1]
    exact hs.symm
  · unfold plOkR
    simp only [Bool.and_eq_true, decide_eq_true_eq, List.all_eq_true]
    exact ⟨⟨⟨⟨⟨h11, h8, h10⟩, h2⟩, h4⟩, h9⟩, h7⟩
end Go.Proofs.YtdilgmokiclfaaaDoor
