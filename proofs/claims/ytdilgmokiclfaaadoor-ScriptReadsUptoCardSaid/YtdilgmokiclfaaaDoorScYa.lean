/- Chapter 24: Parse. -/
import Derived.Test.YtdilgmokiclfaaaDoorScX
import Derived.Test.YtdilgmokiclfaaaDoorScY
import Derived.Test.YtdilgmokiclfaaaDoorScZd
import Derived.WalkMore
import Derived.Deep.RegionHeld3
import Derived.Deep.CutBlock
namespace Go.Proofs.YtdilgmokiclfaaaDoor
open Go.RowKit
set_option linter.unusedVariables false
set_option maxRecDepth 100000

/-- A property that hangs on the blocks lo .. hi-1 alone. -/
def Win (lo hi : Nat) (W : World) (P : World → Prop) : Prop := hi ≤ W.heap.size ∧ ∀ W' : World, W.heap.size ≤ W'.heap.size → (∀ j, lo ≤ j → j < hi → W'.heap[j]? = W.heap[j]?) → P W'
theorem Win.out {lo hi : Nat} {W : World} {P : World → Prop} (h : Win lo hi W P) : P W := h.2 W (Nat.le_refl _) fun _ _ _ => rfl
theorem Win.step {lo hi : Nat} {W W1 : World} {P : World → Prop} (h : Win lo hi W P) (hs : W.heap.size ≤ W1.heap.size) (hb : ∀ j, lo ≤ j → j < hi → W1.heap[j]? = W.heap[j]?) : Win lo hi W1 P :=
  ⟨Nat.le_trans h.1 hs, fun W' h1 h2 => h.2 W' (Nat.le_trans hs h1) fun j h3 h4 => (h2 j h3 h4).trans (hb j h3 h4)⟩
theorem plC_c {w : World} {g t0 t1 t2 t3 : Nat} {B O I : Value} (h : Bk w g 28 (plC t0 t1 t2 t3 B O I)) :
    w.cell? ⟨g, 0, none⟩ = some (.int .u64 (t0 : Nat)) ∧ w.cell? ⟨g, 1, none⟩ = some (.int .u64 (t1 : Nat)) ∧ w.cell? ⟨g, 2, none⟩ = some (.int .u64 (t2 : Nat)) ∧ w.cell? ⟨g, 3, none⟩ = some (.int .u64 (t3 : Nat)) ∧
    w.cell? ⟨g, 4, none⟩ = some B ∧ w.cell? ⟨g, 5, none⟩ = some O ∧ w.cell? ⟨g, 6, none⟩ = some I :=
  ⟨h.cell rfl, h.cell rfl, h.cell rfl, h.cell rfl, h.cell rfl, h.cell rfl, h.cell rfl⟩
theorem plC_f {w : World} {g : Nat} {vs : Array Value} (h : Bk w g 28 vs) :
    w.frozen? ⟨g, 0, none⟩ = false ∧ w.frozen? ⟨g, 1, none⟩ = false ∧ w.frozen? ⟨g, 2, none⟩ = false ∧ w.frozen? ⟨g, 3, none⟩ = false ∧ w.frozen? ⟨g, 4, none⟩ = false ∧ w.frozen? ⟨g, 5, none⟩ = false ∧ w.frozen? ⟨g, 6, none⟩ = false :=
  ⟨h.frozen _, h.frozen _, h.frozen _, h.frozen _, h.frozen _, h.frozen _, h.frozen _⟩
/-- Parse under way. -/
structure PaSt (w W : World) (s : ByteArray) (no : Int) (pc : Array Value) : Prop where
  s : Bk W w.heap.size 9 #[.string s]
  z : Bk W (w.heap.size + 1) 28 plZ
  n : Bk W (w.heap.size + 1 + 1) 3 #[.int .i64 no]
  p : Bk W (w.heap.size + 1 + 1 + 1) 28 pc
  b : Below w.heap.size w W
theorem PaSt.setn {w W : World} {s : ByteArray} {no : Int} {pc : Array Value} (h : PaSt w W s no pc) (v : Int) : PaSt w (W.setCell ⟨w.heap.size + 1 + 1, 0, none⟩ (.int .i64 v)) s v pc :=
  ⟨h.s.far (by show w.heap.size ≠ w.heap.size + 1 + 1; omega) _, h.z.far (by show w.heap.size + 1 ≠ w.heap.size + 1 + 1; omega) _, h.n.set 0 _, h.p.far (by show w.heap.size + 1 + 1 + 1 ≠ w.heap.size + 1 + 1; omega) _,
    h.b.setCell (p := ⟨w.heap.size + 1 + 1, 0, none⟩) (by show w.heap.size ≤ w.heap.size + 1 + 1; omega) _⟩
/-- The blocks behind the four are as they were. -/
def Kp (w W W' : World) : Prop := W.heap.size ≤ W'.heap.size ∧ ∀ j, w.heap.size + 1 + 1 + 1 < j → j < W.heap.size → W'.heap[j]? = W.heap[j]?
theorem Kp.trans {w W W1 W2 : World} (h : Kp w W W1) (h2 : Kp w W1 W2) : Kp w W W2 := ⟨Nat.le_trans h.1 h2.1, fun j h3 h4 => (h2.2 j h3 (Nat.lt_of_lt_of_le h4 h.1)).trans (h.2 j h3 h4)⟩
theorem Kp.of_below {w W W' : World} (h : Below W.heap.size W W') : Kp w W W' := ⟨h.size, fun j _ h2 => h.block j h2⟩
theorem PaSt.bel {w W W' : World} {s : ByteArray} {no : Int} {pc : Array Value} (h : PaSt w W s no pc) (hb : Below W.heap.size W W') : PaSt w W' s no pc :=
  ⟨h.s.bel hb, h.z.bel hb, h.n.bel hb, h.p.bel hb, h.b.trans (hb.mono h.b.size)⟩
theorem PaSt.next {w W W' : World} {s s' : ByteArray} {no no' : Int} {pc : Array Value} (h : PaSt w W s no pc) (hn : NxW w.heap.size (w.heap.size + 1 + 1) s' no' W W') : PaSt w W' s' no' pc :=
  ⟨hn.s, (hn.blk _ h.z.lt (by omega) (by omega)).trans h.z, hn.n, (hn.blk _ h.p.lt (by omega) (by omega)).trans h.p,
    ⟨hn.os.trans h.b.os, hn.tape.trans h.b.tape, hn.output.trans h.b.output, Nat.le_trans h.b.size hn.size, fun j hj => (hn.blk j (Nat.lt_of_lt_of_le hj h.b.size) (by omega) (by omega)).trans (h.b.block j hj)⟩⟩
theorem Kp.next {w W W' : World} {s' : ByteArray} {no' : Int} (hn : NxW w.heap.size (w.heap.size + 1 + 1) s' no' W W') : Kp w W W' := ⟨hn.size, fun j h1 h2 => hn.blk j h2 (by omega) (by omega)⟩
theorem PaSt.set {w W : World} {s : ByteArray} {no : Int} {pc : Array Value} (h : PaSt w W s no pc) (i : Nat) (v : Value) : PaSt w (W.setCell ⟨w.heap.size + 1 + 1 + 1, i, none⟩ v) s no (pc.setIfInBounds i v) :=
  ⟨h.s.far (by show w.heap.size ≠ w.heap.size + 1 + 1 + 1; omega) v, h.z.far (by show w.heap.size + 1 ≠ w.heap.size + 1 + 1 + 1; omega) v, h.n.far (by show w.heap.size + 1 + 1 ≠ w.heap.size + 1 + 1 + 1; omega) v, h.p.set i v,
    h.b.setCell (p := ⟨w.heap.size + 1 + 1 + 1, i, none⟩) (by show w.heap.size ≤ w.heap.size + 1 + 1 + 1; omega) v⟩
theorem Kp.set (w W : World) (i : Nat) (v : Value) : Kp w W (W.setCell ⟨w.heap.size + 1 + 1 + 1, i, none⟩ v) :=
  ⟨by rw [World.size_setCell]; exact Nat.le_refl _, fun j h1 h2 => Below.heap_setCell _ ⟨w.heap.size + 1 + 1 + 1, i, none⟩ _ j (by show j ≠ w.heap.size + 1 + 1 + 1; omega)⟩
theorem PaSt.lt {w W : World} {s : ByteArray} {no : Int} {pc : Array Value} (h : PaSt w W s no pc) : w.heap.size + 1 + 1 + 1 < W.heap.size := h.p.lt
theorem Bk.new3 (w : World) (A B C : Obj) (T : TypeId) (vs : Array Value) : Bk ((((w.alloc A).alloc B).alloc C).alloc (.cells vs T)) (w.heap.size + 1 + 1 + 1) T vs := by
  have := Bk.new (((w.alloc A).alloc B).alloc C) T vs; simpa using this
theorem PaSt.new (w : World) (s : ByteArray) : PaSt w ((((w.alloc (.cells #[.string s] 9)).alloc (.cells #[.int .u64 0, .int .u64 0, .int .u64 0, .int .u64 0, .slice none 0 0, .slice none 0 0, .slice none 0 0] 28)).alloc (.cells #[.int .i64 0] 3)).alloc (.cells #[.int .u64 0, .int .u64 0, .int .u64 0, .int .u64 0, .slice none 0 0, .slice none 0 0, .slice none 0 0] 28)) s 0 plZ :=
  ⟨(((Bk.new w _ _).alloc _).alloc _).alloc _, ((Bk.new1 w _ _ _).alloc _).alloc _, (Bk.new2 w _ _ _ _).alloc _, Bk.new3 w _ _ _ _ _,
    ((((Below.refl w.heap.size w).alloc (Nat.le_refl _) _).alloc (by simp) _).alloc (by simp; omega) _).alloc (by simp; omega) _⟩
theorem results_plZ {fn : Func} {p u v : Tmp} {W : World} {g : Nat} (hf : fn.results = #[.cell p 28, .tmp u, .tmp v]) (tmps : Array Value) (hp : tmps.getD p undef = .pointer (some ⟨g, 0, none⟩)) (h : Bk W g 28 plZ) :
    (results fn tmps).run Tryd.prog W = .ok (.tuple #[.agg plZ, tmps.getD u undef, tmps.getD v undef]) W := results_pl (t0 := 0) (t1 := 0) (t2 := 0) (t3 := 0) hf tmps hp h
theorem ownsRow_setB {w : World} {B k n g i : Nat} {e : TypeId} {v : Value} {xs : List Value} (h : w.ownsRow B e k v n xs) (hg : g < B) (u : Value) : (w.setCell ⟨g, i, none⟩ u).ownsRow B e k v n xs :=
  ownsRow_kp h (fun j h1 h2 => Below.heap_setCell w ⟨g, i, none⟩ u j (by show j ≠ g; omega))
/-- What Parse leaves. -/
def PaOut (R : Nat ⊕ PlR) (w : World) (e : Ending) (w' : World) : Prop :=
  Below w.heap.size w w' ∧ match R with
    | .inl n => e = .returned (.tuple #[.agg plZ, .int .i64 90, .int .i64 ((n : Nat) : Int)])
    | .inr d => ∃ p : PlD, p.r = d ∧ PlIn w' p ∧ e = .returned (.tuple #[.agg (plV p), .int .i64 0, .int .i64 0])
theorem PaOut.no {R : Nat ⊕ PlR} {w w' : World} {e : Ending} {n : Nat} (hb : Below w.heap.size w w') (hR : R = .inl n) (he : e = .returned (.tuple #[.agg plZ, .int .i64 90, .int .i64 ((n : Nat) : Int)])) : PaOut R w e w' := by
  subst hR; exact ⟨hb, he⟩
def opCs (os : List OpE) : List Value := (os.map fun e => e.v.toList).flatten
theorem opCs_snoc (os : List OpE) (e : OpE) : opCs (os ++ [e]) = opCs os ++ e.v.toList := by simp [opCs]
theorem op_info : (Tryd.prog.info? 55).map (fun i => (i.zero, i.size, i.bytes)) = some (some (.agg #[.int .i64 0, .int .i64 0, .int .i64 0, .int .i64 0, .int .i64 0, .int .u64 0, .int .u64 0, .int .u64 0, .int .u64 0, .slice none 0 0, .slice none 0 0]), 11, 120) := by kernel_rfl
theorem OpsS.of_own {w : World} {B n : Nat} {v : Value} {os : List OpE} (h : w.ownsRow B 55 11 v n (opCs os)) (ho : ∀ e ∈ os, OpIn w e) (hn : os.length = n) : ∃ A c, v = .slice A n c ∧ OpsS w A n c os := by
  obtain ⟨A, c, h1, h2, h3, h4⟩ := rws_of_own (fun cs hc => by obtain ⟨x, _, rfl⟩ := List.mem_map.1 hc; rfl) h (by rw [List.length_map]; exact hn)
  exact ⟨A, c, h1, hn, h2, h3, ho, h4⟩
/-- The lines under way. -/
structure LnSt (w W : World) (a0 a1 a2 a3 : Nat) (BA : Option Addr) (bc : Nat) (bs : List Nat) (os : List OpE) (s : ByteArray) (no : Int) (OA : Option Addr) (oc : Nat) (I : Value) : Prop where
  P : PaSt w W s no (plC a0 a1 a2 a3 (.slice BA bs.length bc) (.slice OA os.length oc) I)
  bw : ∃ lo hi, w.heap.size + 1 + 1 + 1 < lo ∧ Win lo hi W (fun W => FrS W BA bs.length bc bs) ∧ ∀ g, (Value.slice OA os.length oc).ownBlock = some g → ¬ (lo ≤ g ∧ g < hi)
  row : W.ownsRow (w.heap.size + 1 + 1 + 1 + 1) 55 11 (.slice OA os.length oc) os.length (opCs os)
  ow : ∀ e ∈ os, ∃ lo hi, w.heap.size + 1 + 1 + 1 < lo ∧ Win lo hi W (fun W => OpIn W e) ∧ ∀ g, (Value.slice OA os.length oc).ownBlock = some g → ¬ (lo ≤ g ∧ g < hi)
theorem LnSt.kp {w W W' : World} {a0 a1 a2 a3 : Nat} {BA : Option Addr} {bc : Nat} {bs : List Nat} {os : List OpE} {s s' : ByteArray} {no no' : Int} {OA : Option Addr} {oc : Nat} {I I' : Value}
    (h : LnSt w W a0 a1 a2 a3 BA bc bs os s no OA oc I) (hP : PaSt w W' s' no' (plC a0 a1 a2 a3 (.slice BA bs.length bc) (.slice OA os.length oc) I')) (hk : Kp w W W') : LnSt w W' a0 a1 a2 a3 BA bc bs os s' no' OA oc I' := by
  refine ⟨hP, ?_, ownsRow_kp h.row (fun j h1 h2 => hk.2 j (by omega) h2), fun e he => ?_⟩
  · obtain ⟨lo, hi, h1, h2, h3⟩ := h.bw
    exact ⟨lo, hi, h1, h2.step hk.1 (fun j h4 h5 => hk.2 j (by omega) (Nat.lt_of_lt_of_le h5 h2.1)), h3⟩
  · obtain ⟨lo, hi, h1, h2, h3⟩ := h.ow e he
    exact ⟨lo, hi, h1, h2.step hk.1 (fun j h4 h5 => hk.2 j (by omega) (Nat.lt_of_lt_of_le h5 h2.1)), h3⟩
theorem LnSt.bel {w W W' : World} {a0 a1 a2 a3 : Nat} {BA : Option Addr} {bc : Nat} {bs : List Nat} {os : List OpE} {s : ByteArray} {no : Int} {OA : Option Addr} {oc : Nat} {I : Value}
    (h : LnSt w W a0 a1 a2 a3 BA bc bs os s no OA oc I) (hb : Below W.heap.size W W') : LnSt w W' a0 a1 a2 a3 BA bc bs os s no OA oc I := h.kp (h.P.bel hb) (Kp.of_below hb)
theorem LnSt.next {w W W' : World} {a0 a1 a2 a3 : Nat} {BA : Option Addr} {bc : Nat} {bs : List Nat} {os : List OpE} {s s' : ByteArray} {no no' : Int} {OA : Option Addr} {oc : Nat} {I : Value}
    (h : LnSt w W a0 a1 a2 a3 BA bc bs os s no OA oc I) (hn : NxW w.heap.size (w.heap.size + 1 + 1) s' no' W W') : LnSt w W' a0 a1 a2 a3 BA bc bs os s' no' OA oc I := h.kp (h.P.next hn) (Kp.next hn)
/-- What the lines leave. -/
structure LnStE (w W : World) (BA : Option Addr) (bc : Nat) (bs : List Nat) (os : List OpE) (OA : Option Addr) (oc : Nat) : Prop where
  b : FrS W BA bs.length bc bs
  o : OpsS W OA os.length oc os
theorem LnSt.fin {w W W' : World} {a0 a1 a2 a3 : Nat} {BA : Option Addr} {bc : Nat} {bs : List Nat} {os : List OpE} {s : ByteArray} {no : Int} {OA : Option Addr} {oc : Nat} {I : Value}
    (h : LnSt w W a0 a1 a2 a3 BA bc bs os s no OA oc I) (hk : Kp w W W') : LnStE w W' BA bc bs os OA oc := by
  refine ⟨?_, ?_⟩
  · obtain ⟨lo, hi, h1, h2, h3⟩ := h.bw
    exact (h2.step hk.1 (fun j h4 h5 => hk.2 j (by omega) (Nat.lt_of_lt_of_le h5 h2.1))).out
  · have hr := ownsRow_kp (w' := W') h.row (fun j h1 h2 => hk.2 j (by omega) h2)
    obtain ⟨A, c, h1, h2⟩ := OpsS.of_own hr (fun e he => by
      obtain ⟨lo, hi, h1, h2, h3⟩ := h.ow e he
      exact (h2.step hk.1 (fun j h4 h5 => hk.2 j (by omega) (Nat.lt_of_lt_of_le h5 h2.1))).out) rfl
    cases h1
    exact h2
theorem LnSt.appP {w W W8 : World} {a0 a1 a2 a3 : Nat} {BA : Option Addr} {bc : Nat} {bs : List Nat} {os : List OpE} {s : ByteArray} {no : Int} {OA : Option Addr} {oc n cap g' : Nat} {I : Value} {l : List Value}
    (h : LnSt w W a0 a1 a2 a3 BA bc bs os s no OA oc I) (hA : App1 (w.heap.size + 1 + 1 + 1 + 1) 55 11 W (.slice OA os.length oc) n cap g' l W8) :
    Bk W8 (w.heap.size + 1 + 1 + 1) 28 (plC a0 a1 a2 a3 (.slice BA bs.length bc) (.slice OA os.length oc) I) :=
  (hA.blk _ h.P.lt (fun e => by have := (h.row.lt _ e.symm).1; omega)).trans h.P.p
/-- A further operation, laid behind the others. -/
theorem LnSt.app {w W W8 : World} {a0 a1 a2 a3 : Nat} {BA : Option Addr} {bc : Nat} {bs : List Nat} {os : List OpE} {s : ByteArray} {no : Int} {OA : Option Addr} {oc cap g' lo hi : Nat} {E : OpE}
    (h : LnSt w W a0 a1 a2 a3 BA bc bs os s no OA oc (.slice none 0 0)) (hA : App1 (w.heap.size + 1 + 1 + 1 + 1) 55 11 W (.slice OA os.length oc) (os.length + 1) cap g' (opCs os ++ E.v.toList) W8)
    (hlo : w.heap.size + 1 + 1 + 1 < lo) (hE : Win lo hi W (fun W => OpIn W E)) (hg : ∀ g, (Value.slice OA os.length oc).ownBlock = some g → ¬ (lo ≤ g ∧ g < hi)) :
    LnSt w (W8.setCell ⟨w.heap.size + 1 + 1 + 1, 5, none⟩ (.slice (some ⟨g', 0, none⟩) (os.length + 1) cap)) a0 a1 a2 a3 BA bc bs (os ++ [E]) s no (some ⟨g', 0, none⟩) cap (.slice none 0 0) := by
  have hl := h.P.lt
  have hown : ∀ g, (Value.slice OA os.length oc).ownBlock = some g → w.heap.size + 1 + 1 + 1 + 1 ≤ g ∧ g < W.heap.size := fun g hg => h.row.lt g hg
  have hlen : (os ++ [E]).length = os.length + 1 := by simp
  have hq : ∀ j, j < W.heap.size → (Value.slice OA os.length oc).ownBlock ≠ some j → W8.heap[j]? = W.heap[j]? := fun j h1 h2 => hA.blk j h1 (fun e => h2 e.symm)
  have hlow : ∀ j, j < w.heap.size + 1 + 1 + 1 + 1 → W8.heap[j]? = W.heap[j]? := fun j h1 => hq j (by omega) (fun e => by have := (hown j e).1; omega)
  have P8 : PaSt w W8 s no (plC a0 a1 a2 a3 (.slice BA bs.length bc) (.slice OA os.length oc) (.slice none 0 0)) :=
    ⟨(hlow _ (by omega)).trans h.P.s, (hlow _ (by omega)).trans h.P.z, (hlow _ (by omega)).trans h.P.n, (hlow _ (by omega)).trans h.P.p, hA.below h.P.b h.P.b.size (fun j e => by have := (hown j e).1; omega)⟩
  have hwin : ∀ {lo hi : Nat} {Q : World → Prop}, w.heap.size + 1 + 1 + 1 < lo → Win lo hi W Q → (∀ g, (Value.slice OA os.length oc).ownBlock = some g → ¬ (lo ≤ g ∧ g < hi)) →
      Win lo hi (W8.setCell ⟨w.heap.size + 1 + 1 + 1, 5, none⟩ (.slice (some ⟨g', 0, none⟩) (os.length + 1) cap)) Q ∧ ∀ g, (Value.slice (some ⟨g', 0, none⟩) (os ++ [E]).length cap).ownBlock = some g → ¬ (lo ≤ g ∧ g < hi) := by
    intro lo hi Q h1 h2 h3
    refine ⟨h2.step (by rw [World.size_setCell]; exact hA.size) (fun j h4 h5 => ?_), fun g hg => ?_⟩
    · refine (Below.heap_setCell _ ⟨w.heap.size + 1 + 1 + 1, 5, none⟩ _ j (by show j ≠ w.heap.size + 1 + 1 + 1; omega)).trans (hq j (Nat.lt_of_lt_of_le h5 h2.1) (fun e => h3 j e ⟨h4, h5⟩))
    · obtain rfl : g' = g := Option.some.inj hg
      rcases hA.at_ with e | e
      · exact h3 _ e
      · have := h2.1; omega
  refine ⟨?_, ?_, ?_, fun e he => ?_⟩
  · rw [hlen]
    exact P8.set 5 _
  · obtain ⟨lo, hi, h1, h2, h3⟩ := h.bw
    exact ⟨lo, hi, h1, hwin h1 h2 h3⟩
  · rw [hlen, opCs_snoc]
    exact ownsRow_setB hA.row (by omega) _
  · rcases List.mem_append.1 he with he | he
    · obtain ⟨lo, hi, h1, h2, h3⟩ := h.ow e he
      exact ⟨lo, hi, h1, hwin h1 h2 h3⟩
    · rw [List.mem_singleton.1 he]
      exact ⟨lo, hi, hlo, hwin hlo hE hg⟩
def PlnRel (w : World) (a0 a1 a2 a3 : Nat) (BA : Option Addr) (bc : Nat) (bs : List Nat) (s2 : ByteArray) (v : Value) (wr : World) : Prop :=
  ∃ (os : List OpE) (s : ByteArray) (no : Nat) (OA : Option Addr) (oc : Nat), LnSt w wr a0 a1 a2 a3 BA bc bs os s (no : Int) OA oc (.slice none 0 0) ∧ s.size ≤ 50000000 ∧ os.length ≤ 400 ∧ no = os.length + 2 ∧
    linesR 401 [] s2 2 = linesR (401 - os.length) (os.map (·.d)) s no
set_option maxHeartbeats 8000000 in
/-- Parse -/
theorem parse_any (HOP : ParseOpSpec) (s : ByteArray) (w : World) (he : Env w) (hs : s.size ≤ 50000000) :
    Calls Tryd.prog 10 #[.string s] w fun e w' => PaOut (parseR s) w e w' := by
  have hmf : ∀ (fn : Fn) (first cap : Array Value) (w : World), (Instr.makeFunc fn first cap).run Tryd.prog w = .ok (.func fn first cap) w := fun _ _ _ _ => rfl
  obtain ⟨R, hR⟩ : ∃ x, x = parseR s := ⟨_, rfl⟩
  rw [← hR]
  have HE := Lib.hid he
  have hlt := Lib.hid he.lt
  have H := Lib.hid HOP
  have P0 := PaSt.new w s
  unfold plZ at P0
  clear HOP
  go_enter Tryd.func10, Tryd.ntmps10
  go_upto_region 1 with fail
  go_step3
  go_upto_region 5 with fail
  generalize ((((w.alloc (.cells #[.string s] 9)).alloc (.cells #[.int .u64 0, .int .u64 0, .int .u64 0, .int .u64 0, .slice none 0 0, .slice none 0 0, .slice none 0 0] 28)).alloc (.cells #[.int .i64 0] 3)).alloc (.cells #[.int .u64 0, .int .u64 0, .int .u64 0, .int .u64 0, .slice none 0 0, .slice none 0 0, .slice none 0 0] 28)) = W0 at *
  have D1 := Lib.hid (pnext_any s 0 w.heap.size (w.heap.size + 1 + 1) W0 hs (by decide) (by decide) P0.s P0.n (HE.out.below P0.b hlt.out) (by omega))
  have HP0 := Lib.hid P0
  clear P0 he
  go_wp2_with fail
  refine (D1.out).mono ?_
  rintro e w1 ⟨rfl, n1⟩
  have P1 : PaSt w w1 (cutR s) 1 plZ := HP0.out.next n1
  have hl1 : (cutA s).size ≤ 50000000 := Nat.le_trans (cutA_le s) hs
  have hs1 : (cutR s).size ≤ 50000000 := Nat.le_trans (cutR_le s) hs
  unfold parseR at hR
  generalize cutA s = L1 at *
  generalize cutR s = s1 at *
  generalize cutI s = i1 at *
  have HR := Lib.hid hR
  have HP1 := Lib.hid P1
  have D2 := Lib.hid (fields_any L1 tauB w1 (HE.out.below P1.b hlt.out) hl1)
  have HS1 := Lib.hid hs1
  clear hR P1 D1 n1 HP0 hl1 hs1 hs
  go_wp2_with fail
  refine (D2.out).mono ?_
  rintro e w2 ⟨A1, n1, c1, rfl, hf1, b2⟩
  have HP2 := Lib.hid (HP1.out.bel b2)
  generalize fieldsR L1 tauB = F1 at *
  have HF1 := Lib.hid hf1
  clear D2 hf1 b2 HP1
  cases i1 with
  | false =>
    go_wp2_with fail
    refine (pfail_any 1 (w.heap.size + 1 + 1) w2 HP2.out.n).mono ?_
    rintro e w9 ⟨rfl, b9⟩
    have P9 := (HP2.out).bel b9
    go_wp2_with (refine wpList_store_row rfl 28 (.tmp 2) (.tmp 44) rfl (w.heap.size + 1) plZ rfl rfl 28 _ P9.z (by kernel_rfl) (by kernel_rfl) (by kernel_rfl) ?_)
    rw [setRow_self _ _ _ _ _ P9.z]
    exact bodyPost_ret (results_plZ rfl _ rfl P9.z) rfl (PaOut.no P9.b (by rw [HR.out]; rfl) rfl)
  | true =>
  cases F1 with
  | none =>
    go_wp2_with fail
    refine (pfail_any 1 (w.heap.size + 1 + 1) w2 HP2.out.n).mono ?_
    rintro e w9 ⟨rfl, b9⟩
    have P9 := (HP2.out).bel b9
    go_wp2_with (refine wpList_store_row rfl 28 (.tmp 2) (.tmp 44) rfl (w.heap.size + 1) plZ rfl rfl 28 _ P9.z (by kernel_rfl) (by kernel_rfl) (by kernel_rfl) ?_)
    rw [setRow_self _ _ _ _ _ P9.z]
    exact bodyPost_ret (results_plZ rfl _ rfl P9.z) rfl (PaOut.no P9.b (by rw [HR.out]; rfl) rfl)
  | some xs =>
  have hlen := (HF1.out xs rfl).out.len
  by_cases h1 : n1 = 1
  case neg =>
    have hq1 : (((n1 : Nat) : Int) != 1) = true := bne_iff_ne.2 (by omega)
    have hRx : R = .inl 1 := by
      rw [HR.out]
      match xs, hlen with
      | [], _ => rfl
      | [a], h => exact absurd h.symm h1
      | a :: b :: r, _ => rfl
    have HRX := Lib.hid hRx
    clear hRx hlen h1
    go_wp2_with fail
    refine (pfail_any 1 (w.heap.size + 1 + 1) w2 HP2.out.n).mono ?_
    rintro e w9 ⟨rfl, b9⟩
    have P9 := (HP2.out).bel b9
    go_wp2_with (refine wpList_store_row rfl 28 (.tmp 2) (.tmp 44) rfl (w.heap.size + 1) plZ rfl rfl 28 _ P9.z (by kernel_rfl) (by kernel_rfl) (by kernel_rfl) ?_)
    rw [setRow_self _ _ _ _ _ P9.z]
    exact bodyPost_ret (results_plZ rfl _ rfl P9.z) rfl (PaOut.no P9.b (HRX.out) rfl)
  case pos =>
  subst h1
  obtain ⟨tau, rfl⟩ := List.length_eq_one_iff.1 hlen
  have hR2 : R = blindR tau s1 := HR.out
  have HR2 := Lib.hid hR2
  clear hR2 HR hlen
  obtain ⟨b, off, rfl, hbl, hrow⟩ := (HF1.out [tau] rfl).out.at (i := 0) (by simp)
  have ht4 := (HF1.out [tau] rfl).out.ok tau (List.mem_singleton.2 rfl)
  have HT4 := Lib.hid ht4
  obtain ⟨a0, a1, a2, a3, hfl⟩ := fl4 tau
  have hfc : frC tau = [.int .u64 (a0 : Nat), .int .u64 (a1 : Nat), .int .u64 (a2 : Nat), .int .u64 (a3 : Nat)] := by unfold frC; rw [hfl]; rfl
  have hr0 : w2.rangeAt b off [.int .u64 (a0 : Nat), .int .u64 (a1 : Nat), .int .u64 (a2 : Nat), .int .u64 (a3 : Nat)] := by rw [← hfc]; simpa using hrow
  have HFL := Lib.hid hfl
  obtain ⟨f0, f1, f2, f3, f4, f5, f6⟩ := plC_f HP2.out.p
  obtain ⟨x0, x1, x2, x3, x4, x5, x6⟩ := plC_c (t0 := 0) (t1 := 0) (t2 := 0) (t3 := 0) (B := .slice none 0 0) (O := .slice none 0 0) (I := .slice none 0 0) HP2.out.p
  clear hrow hfc hfl ht4
  go_upto_region 9 with fail
  go_upto_region 10 with (refine wpList_load_mid rfl 24 (.tmp 48) rfl b off rfl [.int .u64 (a0 : Nat), .int .u64 (a1 : Nat), .int .u64 (a2 : Nat), .int .u64 (a3 : Nat)] _ hr0 Tryd.underlying24 rfl (by kernel_rfl) ?_)
  have P3 : PaSt w ((((w2.setCell ⟨w.heap.size + 1 + 1 + 1, 0, none⟩ (.int .u64 (a0 : Nat))).setCell ⟨w.heap.size + 1 + 1 + 1, 1, none⟩ (.int .u64 (a1 : Nat))).setCell ⟨w.heap.size + 1 + 1 + 1, 2, none⟩ (.int .u64 (a2 : Nat))).setCell ⟨w.heap.size + 1 + 1 + 1, 3, none⟩ (.int .u64 (a3 : Nat))) s1 1 (plC a0 a1 a2 a3 (.slice none 0 0) (.slice none 0 0) (.slice none 0 0)) := (((HP2.out.set 0 (.int .u64 (a0 : Nat))).set 1 (.int .u64 (a1 : Nat))).set 2 (.int .u64 (a2 : Nat))).set 3 (.int .u64 (a3 : Nat))
  generalize ((((w2.setCell ⟨w.heap.size + 1 + 1 + 1, 0, none⟩ (.int .u64 (a0 : Nat))).setCell ⟨w.heap.size + 1 + 1 + 1, 1, none⟩ (.int .u64 (a1 : Nat))).setCell ⟨w.heap.size + 1 + 1 + 1, 2, none⟩ (.int .u64 (a2 : Nat))).setCell ⟨w.heap.size + 1 + 1 + 1, 3, none⟩ (.int .u64 (a3 : Nat))) = w3 at *
  have D3 := Lib.hid (pnext_any s1 1 w.heap.size (w.heap.size + 1 + 1) w3 HS1.out (by decide) (by decide) P3.s P3.n (HE.out.below P3.b hlt.out) (by omega))
  have HP3 := Lib.hid P3
  clear P3 f0 f1 f2 f3 f4 f5 f6 x0 x1 x2 x3 x4 x5 x6 hr0 hbl HP2 HF1
  go_wp2_with fail
  refine (D3.out).mono ?_
  rintro e w4 ⟨rfl, n4⟩
  have P4 : PaSt w w4 (cutR s1) 2 (plC a0 a1 a2 a3 (.slice none 0 0) (.slice none 0 0) (.slice none 0 0)) := HP3.out.next n4
  have hl2 : (cutA s1).size ≤ 50000000 := Nat.le_trans (cutA_le s1) HS1.out
  have hs2 : (cutR s1).size ≤ 50000000 := Nat.le_trans (cutR_le s1) HS1.out
  have hR2 := HR2.out
  unfold blindR at hR2
  generalize cutA s1 = L2 at *
  generalize cutR s1 = s2 at *
  generalize cutI s1 = i2 at *
  have HR3 := Lib.hid hR2
  have HP4 := Lib.hid P4
  have D4 := Lib.hid (fields_any L2 blindB w4 (HE.out.below P4.b hlt.out) hl2)
  have HS2 := Lib.hid hs2
  clear hR2 HR2 P4 D3 n4 HP3 hl2 hs2 HS1
  go_wp2_with fail
  refine (D4.out).mono ?_
  rintro e w5 ⟨BA, n5, bc, rfl, hf5, b5⟩
  have HP5 := Lib.hid (HP4.out.bel b5)
  obtain ⟨f0, f1, f2, f3, f4, f5, f6⟩ := plC_f HP5.out.p
  obtain ⟨x0, x1, x2, x3, x4, x5, x6⟩ := plC_c HP5.out.p
  generalize fieldsR L2 blindB = F2 at *
  have HF2 := Lib.hid hf5
  clear D4 hf5 b5
  go_upto_region 12 with fail
  have P6 : PaSt w (w5.setCell ⟨w.heap.size + 1 + 1 + 1, 4, none⟩ (.slice BA n5 bc)) s2 2 (plC a0 a1 a2 a3 (.slice BA n5 bc) (.slice none 0 0) (.slice none 0 0)) := HP5.out.set 4 (.slice BA n5 bc)
  have k6 := Kp.set w w5 4 (.slice BA n5 bc)
  generalize w5.setCell ⟨w.heap.size + 1 + 1 + 1, 4, none⟩ (.slice BA n5 bc) = w6 at *
  have HP6 := Lib.hid P6
  have HK6 := Lib.hid k6
  have y4 : w6.cell? ⟨w.heap.size + 1 + 1 + 1, 4, none⟩ = some (.slice BA n5 bc) := P6.p.cell rfl
  clear P6 k6 f0 f1 f2 f3 f4 f5 f6 x0 x1 x2 x3 x4 x5 x6
  cases i2 with
  | false =>
    go_wp2_with fail
    refine (pfail_any 2 (w.heap.size + 1 + 1) w6 HP6.out.n).mono ?_
    rintro e w9 ⟨rfl, b9⟩
    have P9 := (HP6.out).bel b9
    go_wp2_with (refine wpList_store_row rfl 28 (.tmp 2) (.tmp 76) rfl (w.heap.size + 1) plZ rfl rfl 28 _ P9.z (by kernel_rfl) (by kernel_rfl) (by kernel_rfl) ?_)
    rw [setRow_self _ _ _ _ _ P9.z]
    exact bodyPost_ret (results_plZ rfl _ rfl P9.z) rfl (PaOut.no P9.b (by rw [HR3.out]; rfl) rfl)
  | true =>
  cases F2 with
  | none =>
    go_wp2_with fail
    refine (pfail_any 2 (w.heap.size + 1 + 1) w6 HP6.out.n).mono ?_
    rintro e w9 ⟨rfl, b9⟩
    have P9 := (HP6.out).bel b9
    go_wp2_with (refine wpList_store_row rfl 28 (.tmp 2) (.tmp 76) rfl (w.heap.size + 1) plZ rfl rfl 28 _ P9.z (by kernel_rfl) (by kernel_rfl) (by kernel_rfl) ?_)
    rw [setRow_self _ _ _ _ _ P9.z]
    exact bodyPost_ret (results_plZ rfl _ rfl P9.z) rfl (PaOut.no P9.b (by rw [HR3.out]; rfl) rfl)
  | some bs =>
  have hlen := (HF2.out bs rfl).out.len
  by_cases h1 : n5 = 11
  case neg =>
    have hq1 : (((n5 : Nat) : Int) != 11) = true := bne_iff_ne.2 (by omega)
    have hRx : R = .inl 2 := by
      rw [HR3.out]
      show (if bs.length = 11 then _ else _) = _
      rw [if_neg (by omega)]
    have HRX := Lib.hid hRx
    clear hRx hlen h1
    go_wp2_with fail
    refine (pfail_any 2 (w.heap.size + 1 + 1) w6 HP6.out.n).mono ?_
    rintro e w9 ⟨rfl, b9⟩
    have P9 := (HP6.out).bel b9
    go_wp2_with (refine wpList_store_row rfl 28 (.tmp 2) (.tmp 76) rfl (w.heap.size + 1) plZ rfl rfl 28 _ P9.z (by kernel_rfl) (by kernel_rfl) (by kernel_rfl) ?_)
    rw [setRow_self _ _ _ _ _ P9.z]
    exact bodyPost_ret (results_plZ rfl _ rfl P9.z) rfl (PaOut.no P9.b (HRX.out) rfl)
  case pos =>
  have hq1 : (((n5 : Nat) : Int) != 11) = false := by simp [h1]
  have hR4 : R = (match linesR 401 [] s2 2 with
    | .inl n => .inl n
    | .inr r => if r.2.2.1 = ⟨#[]⟩ then .inr ⟨tau, bs, r.1, r.2.1⟩ else .inl (r.2.2.2 + 1)) := by
    rw [HR3.out]
    show (if bs.length = 11 then _ else _) = _
    rw [if_pos (by omega)]
    generalize linesR 401 [] s2 2 = X
    cases X <;> rfl
  have HR4 := Lib.hid hR4
  subst hlen
  have HL11 := Lib.hid h1
  have hL : LnSt w w6 a0 a1 a2 a3 BA bc bs [] s2 2 none 0 (.slice none 0 0) := by
    refine ⟨HP6.out, ⟨w4.heap.size, w5.heap.size, HP4.out.lt, ?_, fun g hg => (by cases hg)⟩, World.ownsRow_nil _ _ _ _, fun e he => (by cases he)⟩
    have hw : Win w4.heap.size w5.heap.size w5 (fun W => FrS W BA bs.length bc bs) := ⟨Nat.le_refl _, HF2.out bs rfl⟩
    exact hw.step HK6.out.1 (fun j h1 h2 => HK6.out.2 j (by have := HP4.out.lt; omega) h2)
  have hrel0 : PlnRel w a0 a1 a2 a3 BA bc bs s2 undef w6 := ⟨[], s2, 2, none, 0, hL, HS2.out, Nat.zero_le _, rfl, rfl⟩
  have Hrel0 := Lib.hid hrel0
  clear hrel0 hL hR4 HR3 HF2 HP4 HP5 HK6 HP6 HS2 h1
  go_wp2_with fail
  go_step3
  go_wp2_with fail
  go_loopw [13] (PlnRel w a0 a1 a2 a3 BA bc bs s2) (fun _ wr => 401 - lenC (wr.cell? ⟨w.heap.size + 1 + 1 + 1, 5, none⟩))
  case atStart => exact Hrel0.out
  case round =>
    clear Hrel0
    obtain ⟨os, sr, no, OA, oc, hL, hsr, hos, hno, hlr⟩ := hrel
    have HL := Lib.hid hL
    have HOS := Lib.hid hos
    have HNO := Lib.hid hno
    have HLR := Lib.hid hlr
    have D5 := Lib.hid (pnext_any sr (no : Int) w.heap.size (w.heap.size + 1 + 1) wr hsr (by omega) (by omega) hL.P.s hL.P.n (HE.out.below hL.P.b hlt.out) (by omega))
    have hl3 : (cutA sr).size ≤ 50000000 := Nat.le_trans (cutA_le sr) hsr
    have hs3 : (cutR sr).size ≤ 50000000 := Nat.le_trans (cutR_le sr) hsr
    clear hL hos hno hlr hsr
    go_wp2_with fail
    refine (D5.out).mono ?_
    rintro e w7 ⟨rfl, n7⟩
    have n8 : NxW w.heap.size (w.heap.size + 1 + 1) (cutR sr) ((no + 1 : Nat) : Int) wr w7 := by
      have e : ((no + 1 : Nat) : Int) = (no : Int) + 1 := by omega
      rw [e]; exact n7
    have HL7 := Lib.hid (HL.out.next n8)
    have hy5 : lenC (wr.cell? ⟨w.heap.size + 1 + 1 + 1, 5, none⟩) = os.length := by
      rw [(plC_c HL.out.P.p).2.2.2.2.2.1]; rfl
    have HY5 := Lib.hid hy5
    have hlr : linesR 401 [] s2 2 = linesR ((400 - os.length) + 1) (os.map (·.d)) sr no := by
      rw [HLR.out, show 401 - os.length = (400 - os.length) + 1 by have := HOS.out; omega]
    conv at hlr => rhs; rw [linesR]
    generalize cutA sr = L3 at *
    generalize cutR sr = s3 at *
    generalize cutI sr = i3 at *
    have HLR2 := Lib.hid hlr
    have HS3 := Lib.hid hs3
    have D6 := Lib.hid (fields_any L3 giveB w7 (HE.out.below HL7.out.P.b hlt.out) hl3)
    have HL3 := Lib.hid hl3
    clear D5 n7 n8 hy5 hlr hs3 hl3 HLR HL
    go_wp2_with fail
    refine (D6.out).mono ?_
    rintro e w8 ⟨A6, n6, c6, rfl, hf6, b8⟩
    have HL8 := Lib.hid (HL7.out.bel b8)
    generalize fieldsR L3 giveB = F3 at *
    have HF3 := Lib.hid hf6
    have D7 := Lib.hid (H.out L3 w8 (HE.out.below HL8.out.P.b hlt.out) HL3.out)
    clear hf6 b8 D6
    go_wp2_with fail
    refine (D7.out).mono ?_
    rintro e w9 ⟨E, rfl, hEin, hEd, b9⟩
    have HL9 := Lib.hid (HL8.out.bel b9)
    generalize opR L3 = O3 at *
    obtain ⟨⟨t, a, bb, c, n, k, ks, vs⟩, KA, kc, VA, vc⟩ := E
    obtain ⟨k0, hk0⟩ : ∃ x, x = nth (fl k) 0 := ⟨_, rfl⟩
    obtain ⟨k1, hk1⟩ : ∃ x, x = nth (fl k) 1 := ⟨_, rfl⟩
    obtain ⟨k2, hk2⟩ : ∃ x, x = nth (fl k) 2 := ⟨_, rfl⟩
    obtain ⟨k3, hk3⟩ : ∃ x, x = nth (fl k) 3 := ⟨_, rfl⟩
    have hEv : OpE.v ⟨⟨t, a, bb, c, n, k, ks, vs⟩, KA, kc, VA, vc⟩ = #[.int .i64 t, .int .i64 a, .int .i64 bb, .int .i64 c, .int .i64 n, .int .u64 (k0 : Nat), .int .u64 (k1 : Nat), .int .u64 (k2 : Nat), .int .u64 (k3 : Nat), .slice KA ks.length kc, .slice VA vs.length vc] := by rw [hk0, hk1, hk2, hk3]; rfl
    rw [hEv]
    have HEV := Lib.hid hEv
    have HED := Lib.hid hEd
    have hwin : Win (w8.heap.size + 1) w9.heap.size w9 (fun W => OpIn W ⟨⟨t, a, bb, c, n, k, ks, vs⟩, KA, kc, VA, vc⟩) := ⟨Nat.le_refl _, hEin⟩
    have HWIN := Lib.hid hwin
    have hz9 : (w9.alloc (.cells #[.int .i64 t, .int .i64 a, .int .i64 bb, .int .i64 c, .int .i64 n, .int .u64 (k0 : Nat), .int .u64 (k1 : Nat), .int .u64 (k2 : Nat), .int .u64 (k3 : Nat), .slice KA ks.length kc, .slice VA vs.length vc] 55)).heap.size = w9.heap.size + 1 := by simp
    have bb9 : Below w9.heap.size w9 (w9.alloc (.cells #[.int .i64 t, .int .i64 a, .int .i64 bb, .int .i64 c, .int .i64 n, .int .u64 (k0 : Nat), .int .u64 (k1 : Nat), .int .u64 (k2 : Nat), .int .u64 (k3 : Nat), .slice KA ks.length kc, .slice VA vs.length vc] 55)) := (Below.refl _ _).alloc (Nat.le_refl _) _
    have x10 := Bk.new w9 55 #[.int .i64 t, .int .i64 a, .int .i64 bb, .int .i64 c, .int .i64 n, .int .u64 (k0 : Nat), .int .u64 (k1 : Nat), .int .u64 (k2 : Nat), .int .u64 (k3 : Nat), .slice KA ks.length kc, .slice VA vs.length vc]
    have HB8 := Lib.hid b9
    clear hk0 hk1 hk2 hk3 hEv hEd hwin hEin D7
    go_upto_region 17 with (refine wpList_store_newC rfl 55 (.tmp 17) (.tmp 92) rfl #[.int .i64 t, .int .i64 a, .int .i64 bb, .int .i64 c, .int .i64 n, .int .u64 (k0 : Nat), .int .u64 (k1 : Nat), .int .u64 (k2 : Nat), .int .u64 (k3 : Nat), .slice KA ks.length kc, .slice VA vs.length vc] w9.heap.size rfl rfl rfl 55 _ (by kernel_rfl) (by kernel_rfl) (by kernel_rfl) ?_)
    have hL10 := HL9.out.bel bb9
    generalize w9.alloc (.cells #[.int .i64 t, .int .i64 a, .int .i64 bb, .int .i64 c, .int .i64 n, .int .u64 (k0 : Nat), .int .u64 (k1 : Nat), .int .u64 (k2 : Nat), .int .u64 (k3 : Nat), .slice KA ks.length kc, .slice VA vs.length vc] 55) = w10 at *
    have y5 : w10.cell? ⟨w.heap.size + 1 + 1 + 1, 5, none⟩ = some (.slice OA os.length oc) := (plC_c hL10.P.p).2.2.2.2.2.1
    have HL10 := Lib.hid hL10
    have HB9 := Lib.hid bb9
    have HX10 := Lib.hid x10
    have HZ9 := Lib.hid hz9
    clear hL10 bb9 hz9
    cases i3 with
    | false =>
      have hRx : R = .inl (no + 1) := by rw [HR4.out, HLR2.out]; rfl
      have HRX := Lib.hid hRx
      clear hRx
      go_wp2_with fail
      refine (pfail_any _ (w.heap.size + 1 + 1) w10 HL10.out.P.n).mono ?_
      rintro e w9 ⟨rfl, b9⟩
      have P9 := (HL10.out.P).bel b9
      go_wp2_with (refine wpList_store_row rfl 28 (.tmp 2) (.tmp 121) rfl (w.heap.size + 1) plZ rfl rfl 28 _ P9.z (by kernel_rfl) (by kernel_rfl) (by kernel_rfl) ?_)
      rw [setRow_self _ _ _ _ _ P9.z]
      exact bodyPost_ret (results_plZ rfl _ rfl P9.z) rfl (PaOut.no P9.b (HRX.out) rfl)
    | true =>
    cases F3 with
    | some l =>
      have hlen := (HF3.out l rfl).out.len
      subst hlen
      by_cases h64 : (64 : Int) < ((l.length : Nat) : Int)
      case pos =>
        have hRx : R = .inl (no + 1) := by
          rw [HR4.out, HLR2.out]
          show (match (if 64 < l.length then _ else _ : Nat ⊕ (List OpD × List Nat × ByteArray × Nat)) with | .inl n => _ | .inr r => _) = _
          rw [if_pos (by omega)]
        have HRX := Lib.hid hRx
        clear hRx
        go_wp2_with fail
        refine (pfail_any _ (w.heap.size + 1 + 1) w10 HL10.out.P.n).mono ?_
        rintro e w9 ⟨rfl, b9⟩
        have P9 := (HL10.out.P).bel b9
        go_wp2_with (refine wpList_store_row rfl 28 (.tmp 2) (.tmp 121) rfl (w.heap.size + 1) plZ rfl rfl 28 _ P9.z (by kernel_rfl) (by kernel_rfl) (by kernel_rfl) ?_)
        rw [setRow_self _ _ _ _ _ P9.z]
        exact bodyPost_ret (results_plZ rfl _ rfl P9.z) rfl (PaOut.no P9.b (HRX.out) rfl)
      case neg =>
        have hRx : R = if s3 = ⟨#[]⟩ then .inr ⟨tau, bs, os.map (·.d), l⟩ else .inl (no + 1 + 1) := by
          rw [HR4.out, HLR2.out]
          show (match (if 64 < l.length then _ else _ : Nat ⊕ (List OpD × List Nat × ByteArray × Nat)) with | .inl n => _ | .inr r => _) = _
          rw [if_neg (by omega)]
        have HRX := Lib.hid hRx
        have f6 : w10.frozen? ⟨w.heap.size + 1 + 1 + 1, 6, none⟩ = false := HL10.out.P.p.frozen 6
        have y6 : w10.cell? ⟨w.heap.size + 1 + 1 + 1, 6, none⟩ = some (.slice none 0 0) := (plC_c HL10.out.P.p).2.2.2.2.2.2
        clear hRx
        go_upto_region 22 with fail
        have hLg := HL10.out.kp (I' := .slice A6 l.length c6) (HL10.out.P.set 6 (.slice A6 l.length c6)) (Kp.set w w10 6 _)
        have kg := Kp.set w w10 6 (.slice A6 l.length c6)
        generalize w10.setCell ⟨w.heap.size + 1 + 1 + 1, 6, none⟩ (.slice A6 l.length c6) = w12 at *
        have x1 : w12.cell? ⟨w.heap.size, 0, none⟩ = some (.string s3) := hLg.P.s.cell rfl
        have z1 : w12.cell? ⟨w.heap.size + 1 + 1, 0, none⟩ = some (.int .i64 ((no + 1 : Nat) : Int)) := hLg.P.n.cell rfl
        have HLG := Lib.hid hLg
        have HKG := Lib.hid kg
        clear hLg kg f6 y5 y6 x10
        by_cases hs : s3 = ⟨#[]⟩
        case neg =>
          have hne : s3.toList ≠ [] := fun h => hs (by
            rw [ByteArray.toList_eq] at h
            exact ba_ext h)
          have hem : s3.toList.isEmpty = false := by simpa using hne
          have hbe : (s3.toList == []) = false := beq_eq_false_iff_ne.2 hne
          have hn0 : (0 : Int) ≤ (no : Int) := by omega
          have hn1 : (no : Int) ≤ 402 := by have := HOS.out; have := HNO.out; omega
          have fz : w12.frozen? ⟨w.heap.size + 1 + 1, 0, none⟩ = false := HLG.out.P.n.frozen 0
          have hR5 : R = .inl (no + 1 + 1) := by rw [HRX.out, if_neg hs]
          have HR5 := Lib.hid hR5
          clear hR5 hs
          go_upto_region 24 with fail
          have P13 := HLG.out.P.setn ((no + 1 + 1 : Nat) : Int)
          have e : (no : Int) + 1 + 1 = ((no + 1 + 1 : Nat) : Int) := by omega
          rw [e]
          generalize w12.setCell ⟨w.heap.size + 1 + 1, 0, none⟩ (.int .i64 ((no + 1 + 1 : Nat) : Int)) = w13 at *
          have HP13 := Lib.hid P13
          clear P13 hne hem hbe e z1 x1 fz hn0 hn1
          go_wp2_with fail
          refine (pfail_any _ (w.heap.size + 1 + 1) w13 HP13.out.n).mono ?_
          rintro e w9 ⟨rfl, b9⟩
          have P9 := (HP13.out).bel b9
          go_wp2_with (refine wpList_store_row rfl 28 (.tmp 2) (.tmp 140) rfl (w.heap.size + 1) plZ rfl rfl 28 _ P9.z (by kernel_rfl) (by kernel_rfl) (by kernel_rfl) ?_)
          rw [setRow_self _ _ _ _ _ P9.z]
          exact bodyPost_ret (results_plZ rfl _ rfl P9.z) rfl (PaOut.no P9.b (HR5.out) rfl)
        case pos =>
          subst hs
          have hR5 : R = .inr ⟨tau, bs, os.map (·.d), l⟩ := by rw [HRX.out, if_pos rfl]
          have HR5 := Lib.hid hR5
          clear hR5
          have P12 := HLG.out.P
          go_wp2_with (first
            | refine wpList_load_row rfl 28 (.tmp 8) rfl (w.heap.size + 1 + 1 + 1) rfl 28 _ (0, 0) _ P12.p Tryd.underlying28 rfl (by kernel_rfl) ?_
            | refine wpList_store_row rfl 28 (.tmp 2) (.tmp 143) rfl (w.heap.size + 1) (plC a0 a1 a2 a3 (.slice BA bs.length bc) (.slice OA os.length oc) (.slice A6 l.length c6)) rfl rfl 28 _ P12.z (by kernel_rfl) (by kernel_rfl) (by kernel_rfl) ?_)
          have hpv : plV ⟨tau, BA, bc, bs, OA, oc, os, A6, c6, l⟩ = plC a0 a1 a2 a3 (.slice BA bs.length bc) (.slice OA os.length oc) (.slice A6 l.length c6) := by
            unfold plV
            dsimp only
            rw [HFL.out]
            rfl
          have hbk : Bk (w12.setRow (w.heap.size + 1) (plC a0 a1 a2 a3 (.slice BA bs.length bc) (.slice OA os.length oc) (.slice A6 l.length c6))) (w.heap.size + 1) 28 (plC a0 a1 a2 a3 (.slice BA bs.length bc) (.slice OA os.length oc) (.slice A6 l.length c6)) :=
            setRow_heap _ _ _ _ _ _ P12.z
          have k13 : Kp w w12 (w12.setRow (w.heap.size + 1) (plC a0 a1 a2 a3 (.slice BA bs.length bc) (.slice OA os.length oc) (.slice A6 l.length c6))) :=
            ⟨by rw [setRow_size]; exact Nat.le_refl _, fun j h1 h2 => setRow_other _ _ _ _ (by omega)⟩
          have b13 := below_setRow P12.b (by omega : w.heap.size ≤ w.heap.size + 1) (plC a0 a1 a2 a3 (.slice BA bs.length bc) (.slice OA os.length oc) (.slice A6 l.length c6))
          have hfin : LnStE w (w12.setRow (w.heap.size + 1) (plC a0 a1 a2 a3 (.slice BA bs.length bc) (.slice OA os.length oc) (.slice A6 l.length c6))) BA bc bs os OA oc := HLG.out.fin k13
          have hinp : Win w7.heap.size w8.heap.size w8 (fun W => FrS W A6 l.length c6 l) := ⟨Nat.le_refl _, HF3.out l rfl⟩
          have hki : Kp w w8 (w12.setRow (w.heap.size + 1) (plC a0 a1 a2 a3 (.slice BA bs.length bc) (.slice OA os.length oc) (.slice A6 l.length c6))) :=
            (((Kp.of_below HB8.out).trans (Kp.of_below HB9.out)).trans HKG.out).trans k13
          have hin2 := (hinp.step hki.1 (fun j h1 h2 => hki.2 j (by have := HL7.out.P.lt; omega) h2)).out
          generalize w12.setRow (w.heap.size + 1) (plC a0 a1 a2 a3 (.slice BA bs.length bc) (.slice OA os.length oc) (.slice A6 l.length c6)) = w13 at *
          refine bodyPost_ret (results_pl rfl _ rfl hbk) rfl ⟨b13, ?_⟩
          rw [HR5.out]
          refine ⟨⟨tau, BA, bc, bs, OA, oc, os, A6, c6, l⟩, rfl, ⟨HT4.out, hfin.b, hfin.o, hin2⟩, ?_⟩
          rw [hpv]
          rfl
    | none =>
    cases O3 with
    | none =>
      have hRx : R = .inl (no + 1) := by rw [HR4.out, HLR2.out]; rfl
      have HRX := Lib.hid hRx
      clear hRx
      go_wp2_with fail
      refine (pfail_any _ (w.heap.size + 1 + 1) w10 HL10.out.P.n).mono ?_
      rintro e w9 ⟨rfl, b9⟩
      have P9 := (HL10.out.P).bel b9
      go_wp2_with (refine wpList_store_row rfl 28 (.tmp 2) (.tmp 121) rfl (w.heap.size + 1) plZ rfl rfl 28 _ P9.z (by kernel_rfl) (by kernel_rfl) (by kernel_rfl) ?_)
      rw [setRow_self _ _ _ _ _ P9.z]
      exact bodyPost_ret (results_plZ rfl _ rfl P9.z) rfl (PaOut.no P9.b (HRX.out) rfl)
    | some o =>
      by_cases h400 : (400 : Int) ≤ ((os.length : Nat) : Int)
      case pos =>
        have hRx : R = .inl (no + 1) := by
          rw [HR4.out, HLR2.out]
          show (match (if 400 ≤ (os.map (·.d)).length then _ else _ : Nat ⊕ (List OpD × List Nat × ByteArray × Nat)) with | .inl n => _ | .inr r => _) = _
          rw [if_pos (by rw [List.length_map]; omega)]
        have HRX := Lib.hid hRx
        clear hRx
        go_wp2_with fail
        refine (pfail_any _ (w.heap.size + 1 + 1) w10 HL10.out.P.n).mono ?_
        rintro e w9 ⟨rfl, b9⟩
        have P9 := (HL10.out.P).bel b9
        go_wp2_with (refine wpList_store_row rfl 28 (.tmp 2) (.tmp 121) rfl (w.heap.size + 1) plZ rfl rfl 28 _ P9.z (by kernel_rfl) (by kernel_rfl) (by kernel_rfl) ?_)
        rw [setRow_self _ _ _ _ _ P9.z]
        exact bodyPost_ret (results_plZ rfl _ rfl P9.z) rfl (PaOut.no P9.b (HRX.out) rfl)
      case neg =>
        have h400' := Lib.hid h400
        have f5 : w10.frozen? ⟨w.heap.size + 1 + 1 + 1, 5, none⟩ = false := HL10.out.P.p.frozen 5
        have hxo : ∀ u ∈ (#[.int .i64 t, .int .i64 a, .int .i64 bb, .int .i64 c, .int .i64 n, .int .u64 (k0 : Nat), .int .u64 (k1 : Nat), .int .u64 (k2 : Nat), .int .u64 (k3 : Nat), .slice KA ks.length kc, .slice VA vs.length vc] : Array Value).toList, u.oneCell' = true := by simp [Value.oneCell']
        have hxs : (#[.int .i64 t, .int .i64 a, .int .i64 bb, .int .i64 c, .int .i64 n, .int .u64 (k0 : Nat), .int .u64 (k1 : Nat), .int .u64 (k2 : Nat), .int .u64 (k3 : Nat), .slice KA ks.length kc, .slice VA vs.length vc] : Array Value).size = 11 := rfl
        go_upto_region 21 with fail
        go_wp2_with (first
          | refine wpList_load_row rfl 55 (.tmp 17) rfl w9.heap.size rfl 55 _ (0, 0) _ x10 Tryd.underlying55 rfl (by kernel_rfl) ?_
          | (refine wpList_app_row rfl (.tmp 129) (.tmp 131) 26 55 rfl #[.int .i64 t, .int .i64 a, .int .i64 bb, .int .i64 c, .int .i64 n, .int .u64 (k0 : Nat), .int .u64 (k1 : Nat), .int .u64 (k2 : Nat), .int .u64 (k3 : Nat), .slice KA ks.length kc, .slice VA vs.length vc] (by kernel_rfl) op_info rfl (by decide) hxs hxo (by have := HOS.out; omega) (by decide) rfl rfl HL10.out.row (by have := HL10.out.P.lt; omega) ?_
             intro g' cap' w11 hA
             have y11 : w11.cell? ⟨w.heap.size + 1 + 1 + 1, 5, none⟩ = some (.slice OA os.length oc) := (plC_c (HL10.out.appP hA)).2.2.2.2.2.1
             have f11 : w11.frozen? ⟨w.heap.size + 1 + 1 + 1, 5, none⟩ = false := (HL10.out.appP hA).frozen 5))
        have hA' : App1 (w.heap.size + 1 + 1 + 1 + 1) 55 11 w10 (.slice OA os.length oc) (os.length + 1) cap' g' (opCs os ++ (OpE.v ⟨⟨t, a, bb, c, n, k, ks, vs⟩, KA, kc, VA, vc⟩).toList) w11 := by
          rw [HEV.out]; exact hA
        have hLa := HL10.out.app hA' (lo := w8.heap.size + 1) (hi := w9.heap.size) (by have := HL8.out.P.lt; omega) (HWIN.out.step HB9.out.size (fun j _ h => HB9.out.block j h)) (fun g hg h => by have := (HL8.out.row.lt g hg).2; omega)
        refine ⟨⟨u3, u4, .string L3, ⟨os ++ [⟨⟨t, a, bb, c, n, k, ks, vs⟩, KA, kc, VA, vc⟩], s3, no + 1, some ⟨g', 0, none⟩, cap', hLa, HS3.out, ?_, ?_, ?_⟩, rfl, rfl, rfl⟩, ?_⟩
        · rw [List.length_append, List.length_singleton]; omega
        · rw [List.length_append, List.length_singleton]; have := HNO.out; omega
        · rw [HLR2.out]
          show (if 400 ≤ (os.map (·.d)).length then _ else _) = _
          rw [if_neg (by rw [List.length_map]; omega), List.length_append, List.length_singleton, List.map_append, ← HED.out o rfl, show 401 - (os.length + 1) = 400 - os.length by omega]
          rfl
        · rw [HY5.out]
          show 401 - (os.length + 1) < 401 - os.length
          omega
end Go.Proofs.YtdilgmokiclfaaaDoor
