/- Chapter 24: the reference's Parse: what stands in memory while the lines are read. -/
import Derived.Test.YtdilgmokiclfaaaDoorScRe
import Derived.Test.YtdilgmokiclfaaaDoorScRo
import Derived.Test.YtdilgmokiclfaaaDoorScRb
import Derived.Test.YtdilgmokiclfaaaDoorScYa
namespace Go.Proofs.YtdilgmokiclfaaaDoor
open Go.RowKit
set_option linter.unusedVariables false
set_option maxRecDepth 100000

/-- Parse under way: the result's cell, the plan's cell. -/
structure RpSt (w W : World) (pc : Array Value) : Prop where
  z : Bk W w.heap.size 28 plZ
  p : Bk W (w.heap.size + 1) 28 pc
  b : Below w.heap.size w W
theorem RpSt.bel {w W W' : World} {pc : Array Value} (h : RpSt w W pc) (hb : Below W.heap.size W W') : RpSt w W' pc := ⟨h.z.bel hb, h.p.bel hb, h.b.trans (hb.mono h.b.size)⟩
theorem RpSt.set {w W : World} {pc : Array Value} (h : RpSt w W pc) (i : Nat) (v : Value) : RpSt w (W.setCell ⟨w.heap.size + 1, i, none⟩ v) (pc.setIfInBounds i v) :=
  ⟨h.z.far (by show w.heap.size ≠ w.heap.size + 1; omega) v, h.p.set i v, h.b.setCell (p := ⟨w.heap.size + 1, i, none⟩) (by show w.heap.size ≤ w.heap.size + 1; omega) v⟩
theorem RpSt.lt {w W : World} {pc : Array Value} (h : RpSt w W pc) : w.heap.size + 1 < W.heap.size := h.p.lt
/-- The blocks behind the two are as they were. -/
def Kq (w W W' : World) : Prop := W.heap.size ≤ W'.heap.size ∧ ∀ j, w.heap.size + 1 < j → j < W.heap.size → W'.heap[j]? = W.heap[j]?
theorem Kq.trans {w W W1 W2 : World} (h : Kq w W W1) (h2 : Kq w W1 W2) : Kq w W W2 := ⟨Nat.le_trans h.1 h2.1, fun j h3 h4 => (h2.2 j h3 (Nat.lt_of_lt_of_le h4 h.1)).trans (h.2 j h3 h4)⟩
theorem Kq.of_below {w W W' : World} (h : Below W.heap.size W W') : Kq w W W' := ⟨h.size, fun j _ h2 => h.block j h2⟩
theorem Kq.set (w W : World) (i : Nat) (v : Value) : Kq w W (W.setCell ⟨w.heap.size + 1, i, none⟩ v) :=
  ⟨by rw [World.size_setCell]; exact Nat.le_refl _, fun j h1 h2 => Below.heap_setCell _ ⟨w.heap.size + 1, i, none⟩ _ j (by show j ≠ w.heap.size + 1; omega)⟩
/-- The lines under way. -/
structure RlSt (w W : World) (a0 a1 a2 a3 : Nat) (BA : Option Addr) (bc : Nat) (bs : List Nat) (os : List OpE) (OA : Option Addr) (oc : Nat) (I : Value) : Prop where
  P : RpSt w W (plC a0 a1 a2 a3 (.slice BA bs.length bc) (.slice OA os.length oc) I)
  bw : ∃ lo hi, w.heap.size + 1 < lo ∧ Win lo hi W (fun W => FrS W BA bs.length bc bs) ∧ ∀ g, (Value.slice OA os.length oc).ownBlock = some g → ¬ (lo ≤ g ∧ g < hi)
  row : W.ownsRow (w.heap.size + 1 + 1) 55 11 (.slice OA os.length oc) os.length (opCs os)
  ow : ∀ e ∈ os, ∃ lo hi, w.heap.size + 1 < lo ∧ Win lo hi W (fun W => OpIn W e) ∧ ∀ g, (Value.slice OA os.length oc).ownBlock = some g → ¬ (lo ≤ g ∧ g < hi)
theorem RlSt.kq {w W W' : World} {a0 a1 a2 a3 : Nat} {BA : Option Addr} {bc : Nat} {bs : List Nat} {os : List OpE} {OA : Option Addr} {oc : Nat} {I I' : Value}
    (h : RlSt w W a0 a1 a2 a3 BA bc bs os OA oc I) (hP : RpSt w W' (plC a0 a1 a2 a3 (.slice BA bs.length bc) (.slice OA os.length oc) I')) (hk : Kq w W W') : RlSt w W' a0 a1 a2 a3 BA bc bs os OA oc I' := by
  refine ⟨hP, ?_, ownsRow_kp h.row (fun j h1 h2 => hk.2 j (by omega) h2), fun e he => ?_⟩
  · obtain ⟨lo, hi, h1, h2, h3⟩ := h.bw
    exact ⟨lo, hi, h1, h2.step hk.1 (fun j h4 h5 => hk.2 j (by omega) (Nat.lt_of_lt_of_le h5 h2.1)), h3⟩
  · obtain ⟨lo, hi, h1, h2, h3⟩ := h.ow e he
    exact ⟨lo, hi, h1, h2.step hk.1 (fun j h4 h5 => hk.2 j (by omega) (Nat.lt_of_lt_of_le h5 h2.1)), h3⟩
theorem RlSt.bel {w W W' : World} {a0 a1 a2 a3 : Nat} {BA : Option Addr} {bc : Nat} {bs : List Nat} {os : List OpE} {OA : Option Addr} {oc : Nat} {I : Value}
    (h : RlSt w W a0 a1 a2 a3 BA bc bs os OA oc I) (hb : Below W.heap.size W W') : RlSt w W' a0 a1 a2 a3 BA bc bs os OA oc I := h.kq (h.P.bel hb) (Kq.of_below hb)
theorem RlSt.fin {w W W' : World} {a0 a1 a2 a3 : Nat} {BA : Option Addr} {bc : Nat} {bs : List Nat} {os : List OpE} {OA : Option Addr} {oc : Nat} {I : Value}
    (h : RlSt w W a0 a1 a2 a3 BA bc bs os OA oc I) (hk : Kq w W W') : LnStE w W' BA bc bs os OA oc := by
  refine ⟨?_, ?_⟩
  · obtain ⟨lo, hi, h1, h2, h3⟩ := h.bw
    exact (h2.step hk.1 (fun j h4 h5 => hk.2 j (by omega) (Nat.lt_of_lt_of_le h5 h2.1))).out
  · have hr := ownsRow_kp (w' := W') h.row (fun j h1 h2 => hk.2 j (by omega) h2)
    obtain ⟨A, c, h1, h2⟩ := OpsS.of_own hr (fun e he => by
      obtain ⟨lo, hi, h1, h2, h3⟩ := h.ow e he
      exact (h2.step hk.1 (fun j h4 h5 => hk.2 j (by omega) (Nat.lt_of_lt_of_le h5 h2.1))).out) rfl
    cases h1
    exact h2
/-- An append to the operations leaves the rest of the plan. -/
theorem RlSt.appP {w W W8 : World} {a0 a1 a2 a3 : Nat} {BA : Option Addr} {bc : Nat} {bs : List Nat} {os : List OpE} {OA : Option Addr} {oc n cap g' : Nat} {I : Value} {l : List Value}
    (h : RlSt w W a0 a1 a2 a3 BA bc bs os OA oc I) (hA : App1 (w.heap.size + 1 + 1) 55 11 W (.slice OA os.length oc) n cap g' l W8) :
    RpSt w W8 (plC a0 a1 a2 a3 (.slice BA bs.length bc) (.slice OA os.length oc) I) := by
  have hl := h.P.lt
  have hown : ∀ g, (Value.slice OA os.length oc).ownBlock = some g → w.heap.size + 1 + 1 ≤ g ∧ g < W.heap.size := fun g hg => h.row.lt g hg
  have hlow : ∀ j, j < w.heap.size + 1 + 1 → W8.heap[j]? = W.heap[j]? := fun j h1 => hA.blk j (by omega) (fun e => by have := (hown j e.symm).1; omega)
  exact ⟨(hlow _ (by omega)).trans h.P.z, (hlow _ (by omega)).trans h.P.p, hA.below h.P.b h.P.b.size (fun j e => by have := (hown j e).1; omega)⟩
/-- A further operation, laid behind the others. -/
theorem RlSt.app {w W W8 : World} {a0 a1 a2 a3 : Nat} {BA : Option Addr} {bc : Nat} {bs : List Nat} {os : List OpE} {OA : Option Addr} {oc cap g' lo hi : Nat} {E : OpE}
    (h : RlSt w W a0 a1 a2 a3 BA bc bs os OA oc (.slice none 0 0)) (hA : App1 (w.heap.size + 1 + 1) 55 11 W (.slice OA os.length oc) (os.length + 1) cap g' (opCs os ++ E.v.toList) W8)
    (hlo : w.heap.size + 1 < lo) (hE : Win lo hi W (fun W => OpIn W E)) (hg : ∀ g, (Value.slice OA os.length oc).ownBlock = some g → ¬ (lo ≤ g ∧ g < hi)) :
    RlSt w (W8.setCell ⟨w.heap.size + 1, 5, none⟩ (.slice (some ⟨g', 0, none⟩) (os.length + 1) cap)) a0 a1 a2 a3 BA bc bs (os ++ [E]) (some ⟨g', 0, none⟩) cap (.slice none 0 0) := by
  have hl := h.P.lt
  have hown : ∀ g, (Value.slice OA os.length oc).ownBlock = some g → w.heap.size + 1 + 1 ≤ g ∧ g < W.heap.size := fun g hg => h.row.lt g hg
  have hlen : (os ++ [E]).length = os.length + 1 := by simp
  have hq : ∀ j, j < W.heap.size → (Value.slice OA os.length oc).ownBlock ≠ some j → W8.heap[j]? = W.heap[j]? := fun j h1 h2 => hA.blk j h1 (fun e => h2 e.symm)
  have P8 := h.appP hA
  have hwin : ∀ {lo hi : Nat} {Q : World → Prop}, w.heap.size + 1 < lo → Win lo hi W Q → (∀ g, (Value.slice OA os.length oc).ownBlock = some g → ¬ (lo ≤ g ∧ g < hi)) →
      Win lo hi (W8.setCell ⟨w.heap.size + 1, 5, none⟩ (.slice (some ⟨g', 0, none⟩) (os.length + 1) cap)) Q ∧ ∀ g, (Value.slice (some ⟨g', 0, none⟩) (os ++ [E]).length cap).ownBlock = some g → ¬ (lo ≤ g ∧ g < hi) := by
    intro lo hi Q h1 h2 h3
    refine ⟨h2.step (by rw [World.size_setCell]; exact hA.size) (fun j h4 h5 => ?_), fun g hg => ?_⟩
    · refine (Below.heap_setCell _ ⟨w.heap.size + 1, 5, none⟩ _ j (by show j ≠ w.heap.size + 1; omega)).trans (hq j (Nat.lt_of_lt_of_le h5 h2.1) (fun e => h3 j e ⟨h4, h5⟩))
    · obtain rfl : g' = g := Option.some.inj hg
      rcases hA.at_ with e | e
      · exact h3 _ e
      · have := h2.1; omega
  refine ⟨?_, ?_, ?_, fun e he => ?_⟩
  · rw [hlen]
    exact P8.set 5 _
  · obtain ⟨lo, hi, h1, h2, h3⟩ := h.bw
    exact ⟨lo, hi, h1, hwin h1 h2 h3⟩
  · rw [hlen, opCs_snoc]
    exact ownsRow_setB hA.row (by omega) _
  · rcases List.mem_append.1 he with he | he
    · obtain ⟨lo, hi, h1, h2, h3⟩ := h.ow e he
      exact ⟨lo, hi, h1, hwin h1 h2 h3⟩
    · rw [List.mem_singleton.1 he]
      exact ⟨lo, hi, hlo, hwin hlo hE hg⟩
/-- What comes of the lines. -/
def finR (tau : Nat) (bs : List Nat) : Nat ⊕ (List OpD × List Nat × ByteArray × Nat) → Nat ⊕ PlR
  | .inl n => .inl n
  | .inr r => if r.2.2.1 = ⟨#[]⟩ then .inr ⟨tau, bs, r.1, r.2.1⟩ else .inl (r.2.2.2 + 1)
theorem blindR_eq (tau : Nat) (s : ByteArray) : blindR tau s = if cutI s = false then .inl 2 else match fieldsR (cutA s) blindB with
    | some bs => if bs.length = 11 then finR tau bs (linesR 401 [] (cutR s) 2) else .inl 2
    | none => .inl 2 := by
  unfold blindR
  split
  · rfl
  · cases fieldsR (cutA s) blindB with
    | none => rfl
    | some bs =>
      show (if bs.length = 11 then _ else _) = (if bs.length = 11 then _ else _)
      split
      · generalize linesR 401 [] (cutR s) 2 = X
        cases X <;> rfl
      · rfl
theorem opR_give {line : ByteArray} (h : (wordsB line).headD ⟨#[]⟩ = giveB) : opR line = none := by
  unfold opR
  rw [h, tagOf_miss]
  intro j h1 h2
  exact wordB_give (t := (j : Int)) ⟨by omega, by omega⟩
end Go.Proofs.YtdilgmokiclfaaaDoor
