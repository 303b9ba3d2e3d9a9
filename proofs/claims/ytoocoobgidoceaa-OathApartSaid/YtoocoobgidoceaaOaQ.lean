import Derived.Test.YtoocoobgidoceaaOaK
namespace Go.Proofs.Ytoocoobgidoceaa
open Go.RowKit
set_option linter.unusedVariables false

/-- Records, one behind the other. -/
def recsN (ps : List Part3) : List Nat := ps.flatMap fun p => recN p.1 (shortB p.2.1)
/-- What makes two records the same. -/
def keyN (p : Part3) : ByteArray × ByteArray := (p.1, shortB p.2.1)
def MayRec (p : Part3) : Prop := p.1.size ≤ 32 ∧ (shortB p.2.1).size ≤ 65536

theorem bytesN_inj {a b : ByteArray} (h : bytesN a = bytesN b) : a = b := by rw [← strN_bytesN a, h, strN_bytesN]
theorem recN_split {l b l' b' : ByteArray} {x y : List Nat} (h1 : l.size ≤ 32) (h2 : b.size ≤ 65536) (h1' : l'.size ≤ 32) (h2' : b'.size ≤ 65536) (h : recN l b ++ x = recN l' b' ++ y) : l = l' ∧ b = b' ∧ x = y := by
  unfold recN at h
  simp only [List.append_assoc, List.cons_append, List.nil_append, List.cons.injEq] at h
  obtain ⟨hl, h⟩ := h
  obtain ⟨e1, h⟩ := List.append_inj h (by rw [bytesN_length, bytesN_length]; exact hl)
  simp only [List.cons.injEq] at h
  obtain ⟨q3, q2, q1, q0, h⟩ := h
  have hb : b.size = b'.size := by omega
  obtain ⟨e2, h⟩ := List.append_inj h (by rw [bytesN_length, bytesN_length]; exact hb)
  exact ⟨bytesN_inj e1, bytesN_inj e2, h⟩
theorem recN_ne_nil (l b : ByteArray) (x : List Nat) : recN l b ++ x ≠ [] := by unfold recN; simp
theorem recsN_inj : ∀ {ps qs : List Part3}, (∀ p ∈ ps, MayRec p) → (∀ p ∈ qs, MayRec p) → (recsN ps = recsN qs ↔ ps.map keyN = qs.map keyN)
  | [], [], _, _ => by simp
  | [], q :: qs, _, _ => by
    constructor
    · intro h
      have : recN q.1 (shortB q.2.1) ++ recsN qs = [] := by simpa [recsN] using h.symm
      exact absurd this (recN_ne_nil _ _ _)
    · intro h; simp at h
  | p :: ps, [], _, _ => by
    constructor
    · intro h
      have : recN p.1 (shortB p.2.1) ++ recsN ps = [] := by simpa [recsN] using h
      exact absurd this (recN_ne_nil _ _ _)
    · intro h; simp at h
  | p :: ps, q :: qs, hp, hq => by
    have ih := recsN_inj (ps := ps) (qs := qs) (fun a h => hp a (List.mem_cons_of_mem _ h)) (fun a h => hq a (List.mem_cons_of_mem _ h))
    have m1 := hp p (List.mem_cons_self ..)
    have m2 := hq q (List.mem_cons_self ..)
    have e1 : recsN (p :: ps) = recN p.1 (shortB p.2.1) ++ recsN ps := by simp [recsN]
    have e2 : recsN (q :: qs) = recN q.1 (shortB q.2.1) ++ recsN qs := by simp [recsN]
    rw [e1, e2, List.map_cons, List.map_cons]
    constructor
    · intro h
      obtain ⟨a, b, c⟩ := recN_split m1.1 m1.2 m2.1 m2.2 h
      rw [ih.1 c]
      unfold keyN
      rw [a, b]
    · intro h
      injection h with h h'
      unfold keyN at h
      injection h with ha hb
      rw [ha, hb, ih.2 h']
/-- Parts that ask nothing: behind them stand the records. -/
theorem runG_plain : ∀ (f : Nat) (ps : List Part3) (s : St3), ps.length ≤ f → (∀ p ∈ ps, p.2.2 = false) → s.1.2.2 = 0 → (runG f ps s).1.2.2 = 0 → (runG f ps s).1.1 = s.1.1 ++ recsN ps ∧ ∀ p ∈ ps, MayRec p
  | f, [], s, _, _, _, _ => by rw [runG_nil]; exact ⟨by simp [recsN], fun p h => by cases h⟩
  | 0, p :: ps, s, h, _, _, _ => by simp at h
  | f + 1, p :: ps, s, hl, ha, h0, he => by
    have e : runG (f + 1) (p :: ps) s = runG f ps (stepR s p) := by simp [runG, h0]
    rw [e] at he ⊢
    have hst : stepR s p = (sayR s.1.1 s.1.2.1 p.1 (shortB p.2.1), s.2) := by unfold stepR; rw [ha p (List.mem_cons_self ..)]; rfl
    by_cases hm : MaySay s.1.1.length p.1 (shortB p.2.1)
    · have hs : sayR s.1.1 s.1.2.1 p.1 (shortB p.2.1) = (s.1.1 ++ recN p.1 (shortB p.2.1), s.1.2.1, 0) := by unfold sayR; rw [if_pos hm]
      rw [hs] at hst
      rw [hst] at he ⊢
      obtain ⟨h1, h2⟩ := runG_plain f ps _ (by simpa using hl) (fun q hq => ha q (List.mem_cons_of_mem _ hq)) rfl he
      refine ⟨?_, ?_⟩
      · rw [h1]; simp [recsN, List.append_assoc]
      · intro q hq
        rcases List.mem_cons.1 hq with rfl | hq
        · exact ⟨hm.1, hm.2.1⟩
        · exact h2 q hq
    · have hs : sayR s.1.1 s.1.2.1 p.1 (shortB p.2.1) = ([], 0, 2) := by unfold sayR; rw [if_neg hm]
      rw [hs] at hst
      rw [hst, runG_err _ _ _ (show (2 : Int) ≠ 0 by decide)] at he
      exact absurd he (show ¬ (2 : Int) = 0 by decide)
theorem runF_plain {ps : List Part3} (hl : ps.length ≤ 20) (ha : ∀ p ∈ ps, p.2.2 = false) (he : (runF ps).1.2.2 = 0) : (runF ps).1.1 = (sayR [] 0 ⟨#[114, 117, 110]⟩ ⟨#[]⟩).1 ++ recsN ps ∧ ∀ p ∈ ps, MayRec p :=
  runG_plain 20 ps _ hl ha rfl he
/-- The law of P14.3, second half. -/
theorem apart {ps qs : List Part3} (hl : ps.length ≤ 20) (hm : qs.length ≤ 20) (ha : ∀ p ∈ ps, p.2.2 = false) (hb : ∀ p ∈ qs, p.2.2 = false) (he : (runF ps).1.2.2 = 0) (hf : (runF qs).1.2.2 = 0) :
    ((runF ps).1.1 = (runF qs).1.1 ↔ ps.map keyN = qs.map keyN) := by
  obtain ⟨e1, m1⟩ := runF_plain hl ha he
  obtain ⟨e2, m2⟩ := runF_plain hm hb hf
  rw [e1, e2, ← recsN_inj m1 m2]
  exact ⟨List.append_cancel_left, fun h => by rw [h]⟩
end Go.Proofs.Ytoocoobgidoceaa
