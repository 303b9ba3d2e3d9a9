import Derived.Test.YtoocoobgidoceaaOaC
import Derived.Laws.ResultCell
import Derived.Laws.Rows
namespace Go.Proofs.Ytoocoobgidoceaa
open Go.RowKit
set_option linter.unusedVariables false

/-- A box that holds a transcript. -/
def Box2 (W : World) (b : Nat) (v0 v1 : Value) : Prop := W.heap[b]? = some (.cells #[v0, v1] 24 (0, 0))
section
variable {W W' : World} {b : Nat} {v0 v1 : Value}
theorem Box2.lt (h : Box2 W b v0 v1) : b < W.heap.size := (Array.getElem?_eq_some_iff.1 h).1
theorem Box2.bel (h : Box2 W b v0 v1) (hb : Below W.heap.size W W') : Box2 W' b v0 v1 := (hb.block b h.lt).trans h
theorem Box2.c0 (h : Box2 W b v0 v1) : W.cell? ⟨b, 0, none⟩ = some v0 := cell_of_row W b 0 _ _ (0, 0) h
theorem Box2.c1 (h : Box2 W b v0 v1) : W.cell? ⟨b, 1, none⟩ = some v1 := cell_of_row W b 1 _ _ (0, 0) h
theorem Box2.f (h : Box2 W b v0 v1) (i : Nat) : W.frozen? ⟨b, i, none⟩ = false := by simp [World.frozen?, show W.heap[b]? = _ from h]
theorem Box2.new (W : World) (v0 v1 : Value) : Box2 (W.alloc (.cells #[v0, v1] 24)) W.heap.size v0 v1 := heap_alloc_new W _
theorem Box2.set0 (h : Box2 W b v0 v1) (u : Value) : Box2 (W.setCell ⟨b, 0, none⟩ u) b u v1 := by
  have := heap_setCell_same W b 0 #[v0, v1] 24 u h
  exact this
theorem Box2.set1 (h : Box2 W b v0 v1) (u : Value) : Box2 (W.setCell ⟨b, 1, none⟩ u) b v0 u := by
  have := heap_setCell_same W b 1 #[v0, v1] 24 u h
  exact this
theorem Box2.far (h : Box2 W b v0 v1) {p : Addr} (hp : b ≠ p.block) (u : Value) : Box2 (W.setCell p u) b v0 v1 := (Below.heap_setCell W p u b hp).trans h
theorem results_oath {fn : Func} {p u : Tmp} (hf : fn.results = #[.cell p 24, .tmp u]) (tmps : Array Value) (hp : tmps.getD p undef = .pointer (some ⟨b, 0, none⟩)) (h : Box2 W b v0 v1) :
    (results fn tmps).run Try.prog W = .ok (.tuple #[.agg #[v0, v1], tmps.getD u undef]) W := by
  rw [results_cell_tmp hf, hp]
  simp [asAddr, run_loadVar_row W b 24 _ #[v0, v1] (0, 0) _ h Try.underlying24 rfl (by kernel_rfl), Result.andThen]
theorem Box2.alloc (h : Box2 W b v0 v1) (o : Obj) : Box2 (W.alloc o) b v0 v1 := (Below.heap_alloc W o b h.lt).trans h
end
theorem Sl.up {w : World} {k : IntKind} {A : Option Addr} {xs : List Nat} (h : Sl w k A xs) {p : Addr} (hA : ∀ a, A = some a → a.block ≠ p.block) (u : Value) : Sl (w.setCell p u) k A xs := fun hp => by
  obtain ⟨b, off, rfl, hb, hc⟩ := h hp
  exact ⟨b, off, rfl, by rw [World.size_setCell]; exact hb, fun i hi => (World.cell?_of_block (a := ⟨b, off + i, none⟩) (Below.heap_setCell w p u b (hA _ rfl))).trans (hc i hi)⟩
def SayPost (n : Nat) (bs : List Nat) (asked : Int) (r : ByteArray) (w : World) (e : Ending) (w' : World) : Prop :=
  ∃ A c, e = .returned (.tuple #[.agg #[.slice A (n + r.size) c, .int .i64 asked], .int .i64 0]) ∧ n + r.size ≤ c ∧ c ≤ maxLen ∧ Sl w' .u8 A (bs ++ bytesN r) ∧ (∀ a, A = some a → w.heap.size ≤ a.block) ∧ Below w.heap.size w w'
def NoPost (w : World) (e : Ending) (w' : World) : Prop :=
  e = .returned (.tuple #[.agg #[.slice none 0 0, .int .i64 0], .int .i64 2]) ∧ Below w.heap.size w w'
/-- May it be said? -/
def MaySay (n : Nat) (label bytes : ByteArray) : Prop := label.size ≤ 32 ∧ bytes.size ≤ 65536 ∧ n ≤ 65536 ∧ n + label.size + bytes.size + 5 ≤ 65536

set_option maxHeartbeats 1000000 in
/-- oath.Say -/
theorem say_ok (A : Option Addr) (n c : Nat) (asked : Int) (bs : List Nat) (label bytes : ByteArray) (w : World) (hb : bs.length = n) (sb : Sl w .u8 A bs) (hs : MaySay n label bytes) :
    Calls Try.prog 8 #[.agg #[.slice A n c, .int .i64 asked], .string label, .string bytes] w (SayPost n bs asked (strN (recN label bytes)) w) := by
  have b0 := ((Below.refl w.heap.size w).alloc (Nat.le_refl _) (.cells #[.slice A n c, .int .i64 asked] 24)).alloc (by simp) (.cells #[.slice none 0 0, .int .i64 0] 24)
  have D1 := Lib.hid (record_ok label bytes ((w.alloc (.cells #[.slice A n c, .int .i64 asked] 24)).alloc (.cells #[.slice none 0 0, .int .i64 0] 24)) hs.1 hs.2.1)
  have x0 := (Box2.new w (.slice A n c) (.int .i64 asked)).alloc (.cells #[.slice none 0 0, .int .i64 0] 24)
  have y0 : Box2 ((w.alloc (.cells #[.slice A n c, .int .i64 asked] 24)).alloc (.cells #[.slice none 0 0, .int .i64 0] 24)) (w.heap.size + 1) (.slice none 0 0) (.int .i64 0) := by
    have := Box2.new (w.alloc (.cells #[.slice A n c, .int .i64 asked] 24)) (.slice none 0 0) (.int .i64 0)
    rwa [World.size_alloc] at this
  obtain ⟨R, hR⟩ : ∃ R, strN (recN label bytes) = R := ⟨_, rfl⟩
  have hRs : R.size = label.size + bytes.size + 5 := by rw [← hR, strN_size, recN_length]
  rw [hR] at D1 ⊢
  have hle : n + R.size ≤ 65536 := by have := hs.2.2.2; omega
  have hle' : ¬ (n : Int) > 65536 - (R.size : Int) := by omega
  have Hb := Lib.hid hb
  clear hs hb hR hRs
  go_enter Try.func8, Try.ntmps8
  go_wp2_with fail
  refine (D1.out).mono ?_
  rintro e w1 ⟨rfl, b1⟩
  have x1 := x0.bel b1
  have y1 := y0.bel b1
  have c2 := b0.trans (b1.mono b0.size)
  have s1 := sb.bel c2
  have hx0 := x1.c0
  have hx1 := x1.c1
  clear b1 x0 y0 b0 D1
  go_wp2_with fail
  have s1' : Sl (w1.alloc (.cells #[.string R] 9)) .u8 A bs := s1.bel ((Below.refl _ _).alloc (Nat.le_refl _) _)
  refine (behind_any A n c w1.heap.size bs R _ Hb.out s1' (by omega) (by simp) (by simp)).mono ?_
  rintro e w2 ⟨A2, c2', rfl, hc2, hc2', s2, ha2, b2⟩
  have x2 := (x1.alloc (.cells #[.string R] 9)).bel b2
  have y2 := (y1.alloc (.cells #[.string R] 9)).bel b2
  have c3 : Below w.heap.size w w2 := c2.trans (((Below.refl w1.heap.size w1).alloc (Nat.le_refl _) (.cells #[.string R] 9)).trans (b2.mono (by simp)) |>.mono c2.size)
  have g0 := x2.c0
  have g1 := x2.c1
  have f0 := x2.f 0
  have k0 := y2.c0
  have k1 := y2.c1
  have l0 := y2.f 0
  have l1 := y2.f 1
  clear hx0 hx1 b2
  go_wp2_with fail
  have y3 := ((y2.far (p := ⟨w.heap.size, 0, none⟩) (by simp) (.slice A2 (n + R.size) c2')).set0 (.slice A2 (n + R.size) c2')).set1 (.int .i64 asked)
  refine bodyPost_ret (results_oath rfl _ rfl y3) rfl ⟨A2, c2', rfl, hc2, hc2', ?_, fun a e => by have := ha2 a e; have := c2.size; simp at *; omega, ?_⟩
  · have hlt := x1.lt
    have hlt' := y1.lt
    refine ((s2.up (fun a e => ?_) _).up (fun a e => ?_) _).up (fun a e => ?_) _ <;> (have := ha2 a e; simp at this ⊢; omega)
  · exact ((c3.setCell (p := ⟨w.heap.size, 0, none⟩) (Nat.le_refl _) _).setCell (p := ⟨w.heap.size + 1, 0, none⟩) (by simp) _).setCell (p := ⟨w.heap.size + 1, 1, none⟩) (by simp) _
end Go.Proofs.Ytoocoobgidoceaa
