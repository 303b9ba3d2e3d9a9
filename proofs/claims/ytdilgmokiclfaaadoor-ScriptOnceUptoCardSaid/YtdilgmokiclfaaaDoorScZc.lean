/- Chapter 24: plain laws: an operation's line. -/
import Derived.Test.YtdilgmokiclfaaaDoorScX0
import Derived.Test.YtdilgmokiclfaaaDoorScZb
namespace Go.Proofs.YtdilgmokiclfaaaDoor
open Go.RowKit
set_option linter.unusedVariables false
set_option maxRecDepth 100000

theorem small_none : smallB ⟨#[]⟩ = none := rfl
theorem num_none : numB ⟨#[]⟩ = none := rfl
theorem rdS_ok {z : Int} {us : List ByteArray} (h : inB z = true) : rdS (false, itB z :: us) = (z, (false, us)) := by
  unfold rdS
  simp [smallB_itB h]
theorem rdF_ok {v : Nat} {us : List ByteArray} (h : ltB v rN = true) : rdF (false, hexB v :: us) = (v, (false, us)) := by
  unfold rdF
  simp [numB_hexB h]
theorem rdS_bad {us : List ByteArray} : (rdS (true, us)).2.1 = true := rfl
theorem rdF_bad {us : List ByteArray} : (rdF (true, us)).2.1 = true := rfl
theorem rdS_inv {b : Bool} {us us' : List ByteArray} {z : Int} (h : rdS (b, us) = (z, (false, us'))) : b = false ∧ us = itB z :: us' ∧ inB z = true := by
  unfold rdS at h
  simp only [Prod.mk.injEq, Bool.or_eq_false_iff] at h
  obtain ⟨h1, ⟨h2, h3⟩, h4⟩ := h
  cases us with
  | nil => simp [small_none] at h3
  | cons s r =>
    simp only [List.headD_cons] at h1 h3
    cases hs : smallB s with
    | none => rw [hs] at h3; cases h3
    | some y =>
      rw [hs] at h1
      simp only [Option.getD_some] at h1
      subst h1
      obtain ⟨h5, h6⟩ := itB_smallB hs
      simp only [List.tail_cons] at h4
      exact ⟨h2, by rw [h5, h4], h6⟩
theorem rdF_inv {b : Bool} {us us' : List ByteArray} {v : Nat} (h : rdF (b, us) = (v, (false, us'))) : b = false ∧ us = hexB v :: us' ∧ ltB v rN = true := by
  unfold rdF at h
  simp only [Prod.mk.injEq, Bool.or_eq_false_iff] at h
  obtain ⟨h1, ⟨h2, h3⟩, h4⟩ := h
  cases us with
  | nil => simp [num_none] at h3
  | cons s r =>
    simp only [List.headD_cons] at h1 h3
    cases hs : numB s with
    | none => rw [hs] at h3; cases h3
    | some y =>
      rw [hs] at h1
      simp only [Option.getD_some] at h1
      subst h1
      obtain ⟨h5, h6⟩ := hexB_numB hs
      simp only [List.tail_cons] at h4
      exact ⟨h2, by rw [h5, h4], h6⟩
theorem rdN_ok : ∀ (l : List Int) (us : List ByteArray), (∀ z ∈ l, inB z = true) → rdN l.length (false, l.map itB ++ us) = (l, (false, us))
  | [], us, _ => rfl
  | z :: l, us, h => by
    rw [List.length_cons, rdN, List.map_cons, List.cons_append, rdS_ok (h z (List.mem_cons_self ..))]
    simp only
    rw [rdN_ok l us (fun y hy => h y (List.mem_cons_of_mem _ hy))]
theorem rdN_inv : ∀ {n : Nat} {b : Bool} {us us' : List ByteArray} {l : List Int}, rdN n (b, us) = (l, (false, us')) → b = false ∧ us = l.map itB ++ us' ∧ l.length = n ∧ (∀ z ∈ l, inB z = true)
  | 0, b, us, us', l, h => by
    rw [rdN] at h
    simp only [Prod.mk.injEq] at h
    obtain ⟨rfl, rfl, rfl⟩ := h
    exact ⟨rfl, rfl, rfl, fun z hz => (by cases hz)⟩
  | n + 1, b, us, us', l, h => by
    rw [rdN] at h
    obtain ⟨z, b1, u1, h1⟩ : ∃ z b1 u1, rdS (b, us) = (z, (b1, u1)) := ⟨_, _, _, rfl⟩
    rw [h1] at h
    obtain ⟨l1, b2, u2, h2⟩ : ∃ l1 b2 u2, rdN n (b1, u1) = (l1, (b2, u2)) := ⟨_, _, _, rfl⟩
    simp only [h2, Prod.mk.injEq] at h
    obtain ⟨rfl, rfl, rfl⟩ := h
    obtain ⟨rfl, rfl, h3, h4⟩ := rdN_inv h2
    obtain ⟨rfl, rfl, h5⟩ := rdS_inv h1
    refine ⟨rfl, rfl, by rw [List.length_cons, h3], fun y hy => ?_⟩
    rcases List.mem_cons.1 hy with rfl | hy
    · exact h5
    · exact h4 y hy
theorem rdP_ok : ∀ (n : Nat) (ks : List Nat) (vs : List Int), ks.length = vs.length → ks.length ≤ n → (∀ v ∈ vs, inB v = true) → (∀ k ∈ ks, ltB k rN = true) → rdP n (false, pairsWs ks vs) = (ks, vs, (false, []))
  | n, [], [], _, _, _, _ => rdP_end rfl
  | n + 1, k :: ks, v :: vs, h, hn, hv, hk => by
    rw [rdP, if_neg (by simp [pairsWs])]
    simp only [pairsWs]
    rw [rdF_ok (hk k (List.mem_cons_self ..))]
    simp only
    rw [rdS_ok (hv v (List.mem_cons_self ..))]
    simp only
    rw [rdP_ok n ks vs (by simpa using h) (by simpa using hn) (fun y hy => hv y (List.mem_cons_of_mem _ hy)) (fun y hy => hk y (List.mem_cons_of_mem _ hy))]
  | 0, k :: ks, v :: vs, _, hn, _, _ => by simp at hn
  | n, [], v :: vs, h, _, _, _ => by cases h
  | n, k :: ks, [], h, _, _, _ => by cases h
theorem rdP_inv : ∀ {n : Nat} {b : Bool} {us : List ByteArray} {ks : List Nat} {vs : List Int}, rdP n (b, us) = (ks, vs, (false, [])) → b = false ∧ us = pairsWs ks vs ∧ ks.length = vs.length
  | 0, b, us, ks, vs, h => by
    rw [rdP] at h
    simp only [Prod.mk.injEq] at h
    obtain ⟨rfl, rfl, rfl, rfl⟩ := h
    exact ⟨rfl, rfl, rfl⟩
  | n + 1, b, us, ks, vs, h => by
    rw [rdP] at h
    split at h
    · simp only [Prod.mk.injEq] at h
      obtain ⟨rfl, rfl, rfl, rfl⟩ := h
      exact ⟨rfl, rfl, rfl⟩
    · obtain ⟨f, b1, u1, h1⟩ : ∃ z b1 u1, rdF (b, us) = (z, (b1, u1)) := ⟨_, _, _, rfl⟩
      obtain ⟨g, b2, u2, h2⟩ : ∃ z b2 u2, rdS (b1, u1) = (z, (b2, u2)) := ⟨_, _, _, rfl⟩
      obtain ⟨k1, v1, b3, u3, h3⟩ : ∃ k1 v1 b3 u3, rdP n (b2, u2) = (k1, v1, (b3, u3)) := ⟨_, _, _, _, rfl⟩
      simp only [h1, h2, h3, Prod.mk.injEq] at h
      obtain ⟨rfl, rfl, rfl, rfl⟩ := h
      obtain ⟨rfl, rfl, h4⟩ := rdP_inv h3
      obtain ⟨rfl, rfl, h5⟩ := rdS_inv h2
      obtain ⟨rfl, rfl, h6⟩ := rdF_inv h1
      exact ⟨rfl, rfl, by simp [h4]⟩
theorem take3 {n : Nat} (hn : n ≤ 3) {a b c : Int} (ha : 0 < n ∨ a = 0) (hb : 1 < n ∨ b = 0) (hc : 2 < n ∨ c = 0) :
    ([a, b, c].take n).getD 0 0 = a ∧ ([a, b, c].take n).getD 1 0 = b ∧ ([a, b, c].take n).getD 2 0 = c ∧ ([a, b, c].take n).length = n := by
  have : n = 0 ∨ n = 1 ∨ n = 2 ∨ n = 3 := by omega
  rcases this with rfl | rfl | rfl | rfl
  · obtain rfl : a = 0 := by omega
    obtain rfl : b = 0 := by omega
    obtain rfl : c = 0 := by omega
    exact ⟨rfl, rfl, rfl, rfl⟩
  · obtain rfl : b = 0 := by omega
    obtain rfl : c = 0 := by omega
    exact ⟨rfl, rfl, rfl, rfl⟩
  · obtain rfl : c = 0 := by omega
    exact ⟨rfl, rfl, rfl, rfl⟩
  · exact ⟨rfl, rfl, rfl, rfl⟩
theorem take_of_len {n : Nat} (hn : n ≤ 3) {l : List Int} (h : l.length = n) : [l.getD 0 0, l.getD 1 0, l.getD 2 0].take n = l := by
  match l, h with
  | [], h => subst h; rfl
  | [a], h => subst h; rfl
  | [a, b], h => subst h; rfl
  | [a, b, c], h => subst h; rfl
  | a :: b :: c :: d :: r, h => simp at h; omega
/-- What a right operation says. -/
structure OpF (o : OpD) : Prop where
  t : 1 ≤ o.t ∧ o.t ≤ 11
  a : 0 < namesN o.t ∨ o.a = 0
  b : 1 < namesN o.t ∨ o.b = 0
  c : 2 < namesN o.t ∨ o.c = 0
  n : o.t = 10 ∨ o.n = 0
  k : o.t = 3 ∨ o.k = 0
  v : o.t = 6 ∨ (o.vs = [] ∧ o.ks = [])
  hk : ltB o.k rN = true
  hks : ∀ x ∈ o.ks, ltB x rN = true
theorem OpF.of {o : OpD} (h : opOk o = true) : OpF o := by
  unfold opOk headOk at h
  simp only [Bool.and_eq_true, Bool.or_eq_true, decide_eq_true_eq, beq_iff_eq] at h
  obtain ⟨⟨⟨⟨⟨⟨⟨⟨⟨⟨ht, ha⟩, hb⟩, hc⟩, hn⟩, hk0⟩, h6⟩, _⟩, _⟩, hk⟩, hks⟩ := h
  refine ⟨ht, ha, hb, hc, hn, hk0, ?_, hk, fun x hx => List.all_eq_true.1 hks x hx⟩
  by_cases e : o.t = 6
  · exact Or.inl e
  · rw [if_neg e] at h6
    simp only [Bool.and_eq_true, beq_iff_eq] at h6
    exact Or.inr ⟨List.eq_nil_of_length_eq_zero h6.1, List.eq_nil_of_length_eq_zero h6.2⟩
/-- An operation's words are read as that operation. -/
theorem opF_line {o : OpD} (h : opOk o = true) : opF o.t (namesWs o ++ tailWs o) = (o, (false, [])) := by
  have G := OpG.of h
  have F := OpF.of h
  obtain ⟨t, a, b, c, n, k, ks, vs⟩ := o
  obtain ⟨_, ha, hb, hc, hn, hk, hv, hk4, hks⟩ := F
  obtain ⟨ga, gb, gc, gn, gv, g6⟩ := G
  dsimp only at *
  obtain ⟨e0, e1, e2, e3⟩ := take3 (namesN_le t) ha hb hc
  have hr := rdN_ok ([a, b, c].take (namesN t)) (tailWs ⟨t, a, b, c, n, k, ks, vs⟩) (fun z hz => by
    have := List.mem_of_mem_take hz
    simp only [List.mem_cons, List.not_mem_nil, or_false] at this
    rcases this with rfl | rfl | rfl
    · exact ga
    · exact gb
    · exact gc)
  rw [e3] at hr
  have hnw : namesWs ⟨t, a, b, c, n, k, ks, vs⟩ = ([a, b, c].take (namesN t)).map itB := rfl
  rw [hnw]
  generalize [a, b, c].take (namesN t) = l at *
  by_cases h3 : t = 3
  · rw [opF3 h3 hr]
    unfold tailWs
    rw [if_pos h3, rdF_ok hk4]
    unfold op0
    rw [e0, e1, e2]
    obtain rfl : n = 0 := by omega
    obtain ⟨rfl, rfl⟩ : vs = [] ∧ ks = [] := by
      rcases hv with hv | hv
      · omega
      · exact hv
    rfl
  by_cases h10 : t = 10
  · rw [opF10 h10 hr]
    unfold tailWs
    rw [if_neg h3, if_pos h10, rdS_ok gn]
    unfold op0
    rw [e0, e1, e2]
    obtain rfl : k = 0 := by omega
    obtain ⟨rfl, rfl⟩ : vs = [] ∧ ks = [] := by
      rcases hv with hv | hv
      · omega
      · exact hv
    rfl
  by_cases h6 : t = 6
  · rw [opF6 h6 hr]
    unfold tailWs
    rw [if_neg h3, if_neg h10, if_pos h6]
    have h7 := g6 h6
    have h8 : ∀ (ks : List Nat) (vs : List Int), ks.length = vs.length → ks.length ≤ (pairsWs ks vs).length := fun ks => by
      induction ks with
      | nil => intro vs _; exact Nat.zero_le _
      | cons x ks ih =>
        intro vs hl
        cases vs with
        | nil => cases hl
        | cons y vs =>
          have := ih vs (by simpa using hl)
          simp only [pairsWs, List.length_cons]; omega
    rw [rdP_ok _ ks vs h7.1 (h8 ks vs h7.1) gv hks]
    unfold op0
    rw [e0, e1, e2]
    obtain rfl : k = 0 := by omega
    obtain rfl : n = 0 := by omega
    rfl
  · rw [opF0 h3 h10 h6 hr]
    unfold tailWs
    rw [if_neg h3, if_neg h10, if_neg h6]
    unfold op0
    rw [e0, e1, e2]
    obtain rfl : k = 0 := by omega
    obtain rfl : n = 0 := by omega
    obtain ⟨rfl, rfl⟩ : vs = [] ∧ ks = [] := by
      rcases hv with hv | hv
      · omega
      · exact hv
    rfl
theorem pairs_hi : ∀ {ks : List Nat} {vs : List Int}, (∀ v ∈ vs, inB v = true) → ∀ x ∈ pairsWs ks vs, Hi x
  | k :: ks, v :: vs, h, x, hx => by
    simp only [pairsWs, List.mem_cons] at hx
    rcases hx with rfl | rfl | hx
    · exact hexB_hi k
    · exact itB_hi (h v (List.mem_cons_self ..))
    · exact pairs_hi (fun y hy => h y (List.mem_cons_of_mem _ hy)) x hx
  | [], _, _, x, hx => by simp [pairsWs] at hx
  | _ :: _, [], _, x, hx => by simp [pairsWs] at hx
theorem lineWs_hi {o : OpD} (h : opOk o = true) : ∀ x ∈ lineWs o, Hi x := by
  have G := OpG.of h
  intro x hx
  unfold lineWs at hx
  rcases List.mem_cons.1 hx with rfl | hx
  · exact wordB_hi _
  rcases List.mem_append.1 hx with hx | hx
  · unfold namesWs at hx
    obtain ⟨z, hz, rfl⟩ := List.mem_map.1 hx
    have := List.mem_of_mem_take hz
    simp only [List.mem_cons, List.not_mem_nil, or_false] at this
    rcases this with rfl | rfl | rfl
    · exact itB_hi G.a
    · exact itB_hi G.b
    · exact itB_hi G.c
  · unfold tailWs at hx
    split at hx
    · rw [List.mem_singleton.1 hx]; exact hexB_hi _
    · split at hx
      · rw [List.mem_singleton.1 hx]; exact itB_hi G.n
      · split at hx
        · exact pairs_hi G.vs x hx
        · cases hx
/-- An operation's line is read as that operation. -/
theorem opR_line {o : OpD} (h : opOk o = true) : opR (joinB (lineWs o)) = some o := by
  have F := OpF.of h
  have hw : wordsB (joinB (lineWs o)) = wordB o.t :: (namesWs o ++ tailWs o) := words_joinB _ _ (lineWs_hi h)
  unfold opR
  rw [hw]
  show (match tagOf (wordB o.t) with
    | none => none
    | some t => if finB (opF t (namesWs o ++ tailWs o)) then some (opF t (namesWs o ++ tailWs o)).1 else none) = some o
  rw [tagOf_word F.t]
  show (if finB (opF o.t (namesWs o ++ tailWs o)) then some (opF o.t (namesWs o ++ tailWs o)).1 else none) = some o
  rw [opF_line h]
  exact if_pos (by unfold finB; simp [h])
/-- What is read of a line is that line's. -/
theorem line_opR {line : ByteArray} {o : OpD} (h : opR line = some o) : joinB (lineWs o) = line ∧ opOk o = true := by
  unfold opR at h
  split at h
  · cases h
  rename_i t ht
  split at h
  case isFalse => cases h
  rename_i hf
  have ho := Option.some.inj h
  obtain ⟨htr, hword⟩ := tagOf_some ht
  have hwne : wordsB line ≠ [] := fun e => by have := wordsB_len line; rw [e] at this; simp at this
  obtain ⟨x, ws, hws⟩ := List.exists_cons_of_ne_nil hwne
  rw [hws] at hword hf ho
  simp only [List.headD_cons, List.tail_cons] at hword hf ho
  obtain ⟨l, b1, u1, hr⟩ : ∃ l b1 u1, rdN (namesN t) (false, ws) = (l, (b1, u1)) := ⟨_, _, _, rfl⟩
  obtain ⟨o', b, us, hop⟩ : ∃ o' b us, opF t ws = (o', (b, us)) := ⟨_, _, _, rfl⟩
  rw [hop] at hf ho
  obtain rfl : o' = o := ho
  unfold finB at hf
  simp only [Bool.and_eq_true, Bool.not_eq_true', List.isEmpty_iff] at hf
  obtain ⟨⟨rfl, rfl⟩, hok⟩ := hf
  refine ⟨?_, hok⟩
  have key : lineWs o' = x :: ws := by
    unfold lineWs
    by_cases h3 : t = 3
    · rw [opF3 h3 hr] at hop
      obtain ⟨k, b2, u2, h4⟩ : ∃ k b2 u2, rdF (b1, u1) = (k, (b2, u2)) := ⟨_, _, _, rfl⟩
      simp only [h4, Prod.mk.injEq] at hop
      obtain ⟨rfl, rfl, rfl⟩ := hop
      obtain ⟨rfl, rfl, _⟩ := rdF_inv h4
      obtain ⟨_, rfl, h5, _⟩ := rdN_inv hr
      unfold namesWs tailWs op0
      simp only
      rw [take_of_len (namesN_le t) h5, if_pos h3, hword]
    by_cases h10 : t = 10
    · rw [opF10 h10 hr] at hop
      obtain ⟨k, b2, u2, h4⟩ : ∃ k b2 u2, rdS (b1, u1) = (k, (b2, u2)) := ⟨_, _, _, rfl⟩
      simp only [h4, Prod.mk.injEq] at hop
      obtain ⟨rfl, rfl, rfl⟩ := hop
      obtain ⟨rfl, rfl, _⟩ := rdS_inv h4
      obtain ⟨_, rfl, h5, _⟩ := rdN_inv hr
      unfold namesWs tailWs op0
      simp only
      rw [take_of_len (namesN_le t) h5, if_neg h3, if_pos h10, hword]
    by_cases h6 : t = 6
    · rw [opF6 h6 hr] at hop
      simp only at hop
      obtain ⟨k1, v1, b2, u2, h4⟩ : ∃ k1 v1 b2 u2, rdP u1.length (b1, u1) = (k1, v1, (b2, u2)) := ⟨_, _, _, _, rfl⟩
      simp only [h4, Prod.mk.injEq] at hop
      obtain ⟨rfl, rfl, rfl⟩ := hop
      obtain ⟨rfl, rfl, _⟩ := rdP_inv h4
      obtain ⟨_, rfl, h5, _⟩ := rdN_inv hr
      unfold namesWs tailWs op0
      simp only
      rw [take_of_len (namesN_le t) h5, if_neg h3, if_neg h10, if_pos h6, hword]
    · rw [opF0 h3 h10 h6 hr] at hop
      simp only [Prod.mk.injEq] at hop
      obtain ⟨rfl, rfl, rfl⟩ := hop
      obtain ⟨_, rfl, h5, _⟩ := rdN_inv hr
      unfold namesWs tailWs op0
      simp only
      rw [take_of_len (namesN_le t) h5, if_neg h3, if_neg h10, if_neg h6, hword]
  rw [key, ← hws, joinB_words]
end Go.Proofs.YtdilgmokiclfaaaDoor
