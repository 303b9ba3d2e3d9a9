/- Chapter 24: an operation's row; bare. -/
import Derived.Test.YtdilgmokiclfaaaDoorScC
namespace Go.Proofs.YtdilgmokiclfaaaDoor
open Go.RowKit
set_option linter.unusedVariables false
set_option maxRecDepth 100000

/-- A whole block. -/
def Bk (w : World) (g : Nat) (T : TypeId) (vs : Array Value) : Prop := w.heap[g]? = some (.cells vs T (0, 0))
section
variable {w w' : World} {g : Nat} {T : TypeId} {vs : Array Value}
theorem Bk.lt (h : Bk w g T vs) : g < w.heap.size := (Array.getElem?_eq_some_iff.1 h).1
theorem Bk.cell (h : Bk w g T vs) {i : Nat} {v : Value} (hv : vs[i]? = some v) : w.cell? ⟨g, i, none⟩ = some v := (cell_of_row w g i vs T (0, 0) h).trans hv
theorem Bk.frozen (h : Bk w g T vs) (i : Nat) : w.frozen? ⟨g, i, none⟩ = false := by simp [World.frozen?, show w.heap[g]? = _ from h]
theorem Bk.drew (h : Bk w g T vs) : Bk w.drew g T vs := h
theorem Bk.drewN (h : Bk w g T vs) (n : Nat) : Bk (w.drewN n) g T vs := h
theorem Bk.alloc (h : Bk w g T vs) (o : Obj) : Bk (w.alloc o) g T vs := (Below.heap_alloc w o g h.lt).trans h
theorem Bk.new (w : World) (T : TypeId) (vs : Array Value) : Bk (w.alloc (.cells vs T)) w.heap.size T vs := heap_alloc_new w _
theorem Bk.set (h : Bk w g T vs) (i : Nat) (v : Value) : Bk (w.setCell ⟨g, i, none⟩ v) g T (vs.setIfInBounds i v) := heap_setCell_same w g i vs T v h
theorem Bk.far (h : Bk w g T vs) {p : Addr} (hp : g ≠ p.block) (u : Value) : Bk (w.setCell p u) g T vs := (Below.heap_setCell w p u g hp).trans h
theorem Bk.below (h : Bk w g T vs) {B : Nat} (hb : Below B w w') (hg : g < B) : Bk w' g T vs := (hb.block g hg).trans h
theorem Bk.bel (h : Bk w g T vs) (hb : Below w.heap.size w w') : Bk w' g T vs := h.below hb h.lt
theorem Bk.range (h : Bk w g T vs) : w.rangeAt g 0 vs.toList := rangeAt_of_cells (t := T) (fr := (0, 0)) h
end
theorem Bk.new1 (w : World) (A : Obj) (T : TypeId) (vs : Array Value) : Bk ((w.alloc A).alloc (.cells vs T)) (w.heap.size + 1) T vs := by
  have := Bk.new (w.alloc A) T vs; simpa using this
theorem Bk.new2 (w : World) (A B : Obj) (T : TypeId) (vs : Array Value) : Bk (((w.alloc A).alloc B).alloc (.cells vs T)) (w.heap.size + 1 + 1) T vs := by
  have := Bk.new ((w.alloc A).alloc B) T vs; simpa using this
theorem wpList_store_newC {P : Program} {ops : Array Oper} {rest : List Oper} {o : Oper} {a : Act} {w : World} {Q : Exit → Act → World → Prop} (hgd : o.guard = none) (ty : TypeId) (x y : Operand) (ho : o.op = .store ty x y)
    (cells : Array Value) (g : Nat) (hx : a.eval x = .pointer (some ⟨g, 0, none⟩)) (hgs : g = w.heap.size) (hy : a.eval y = .agg cells)
    (t : TypeId) (old : Array Value) (hi : (P.info? ty).map (·.size) = some cells.size)
    (hold : old.size = cells.size) (h1 : cells.all (·.oneCell') = true) (h : wpList P ops Q rest (a.put o.dst undef) (w.alloc (.cells cells t))) : wpList P ops Q (o :: rest) a (w.alloc (.cells old t)) :=
  wpList_store_row hgd ty x y ho w.heap.size cells (by rw [← hgs]; exact hx) hy t old (heap_alloc_new w _) hi hold h1 (by rw [World.setRow_alloc_new]; exact h)

/-- An operation's cells. -/
def opV (t a b c n : Int) (k0 k1 k2 k3 : Nat) (KA : Option Addr) (kn kc : Nat) (VA : Option Addr) (vn vc : Nat) : Array Value :=
  #[.int .i64 t, .int .i64 a, .int .i64 b, .int .i64 c, .int .i64 n, .int .u64 (k0 : Nat), .int .u64 (k1 : Nat), .int .u64 (k2 : Nat), .int .u64 (k3 : Nat), .slice KA kn kc, .slice VA vn vc]
theorem opV_c {w : World} {g : Nat} {t a b c n : Int} {k0 k1 k2 k3 : Nat} {KA : Option Addr} {kn kc : Nat} {VA : Option Addr} {vn vc : Nat} (h : Bk w g 55 (opV t a b c n k0 k1 k2 k3 KA kn kc VA vn vc)) :
    w.cell? ⟨g, 0, none⟩ = some (.int .i64 t) ∧ w.cell? ⟨g, 1, none⟩ = some (.int .i64 a) ∧ w.cell? ⟨g, 2, none⟩ = some (.int .i64 b) ∧ w.cell? ⟨g, 3, none⟩ = some (.int .i64 c) ∧ w.cell? ⟨g, 4, none⟩ = some (.int .i64 n) ∧
    w.cell? ⟨g, 5, none⟩ = some (.int .u64 (k0 : Nat)) ∧ w.cell? ⟨g, 6, none⟩ = some (.int .u64 (k1 : Nat)) ∧ w.cell? ⟨g, 7, none⟩ = some (.int .u64 (k2 : Nat)) ∧ w.cell? ⟨g, 8, none⟩ = some (.int .u64 (k3 : Nat)) ∧
    w.cell? ⟨g, 9, none⟩ = some (.slice KA kn kc) ∧ w.cell? ⟨g, 10, none⟩ = some (.slice VA vn vc) :=
  ⟨h.cell rfl, h.cell rfl, h.cell rfl, h.cell rfl, h.cell rfl, h.cell rfl, h.cell rfl, h.cell rfl, h.cell rfl, h.cell rfl, h.cell rfl⟩
theorem opV_f {w : World} {g : Nat} {vs : Array Value} (h : Bk w g 55 vs) :
    w.frozen? ⟨g, 0, none⟩ = false ∧ w.frozen? ⟨g, 1, none⟩ = false ∧ w.frozen? ⟨g, 2, none⟩ = false ∧ w.frozen? ⟨g, 3, none⟩ = false ∧ w.frozen? ⟨g, 4, none⟩ = false ∧ w.frozen? ⟨g, 5, none⟩ = false ∧ w.frozen? ⟨g, 6, none⟩ = false ∧ w.frozen? ⟨g, 7, none⟩ = false ∧ w.frozen? ⟨g, 8, none⟩ = false ∧ w.frozen? ⟨g, 9, none⟩ = false ∧ w.frozen? ⟨g, 10, none⟩ = false :=
  ⟨h.frozen _, h.frozen _, h.frozen _, h.frozen _, h.frozen _, h.frozen _, h.frozen _, h.frozen _, h.frozen _, h.frozen _, h.frozen _⟩

def pick (p : Bool) (a : Int) : Int := if p then a else 0
def pickN (p : Bool) (a : Nat) : Nat := if p then a else 0
def bareV (t a b c n : Int) (k0 k1 k2 k3 : Nat) (KA : Option Addr) (kn kc : Nat) (VA : Option Addr) (vn vc : Nat) (m : Nat) : Array Value :=
  opV t (pick (0 < m) a) (pick (1 < m) b) (pick (2 < m) c) (pick (t == 10) n) (pickN (t == 3) k0) (pickN (t == 3) k1) (pickN (t == 3) k2) (pickN (t == 3) k3) (if t == 6 then KA else none) (pickN (t == 6) kn) (pickN (t == 6) kc) (if t == 6 then VA else none) (pickN (t == 6) vn) (pickN (t == 6) vc)
def BareRel (w : World) (t a b c n : Int) (k0 k1 k2 k3 : Nat) (KA : Option Addr) (kn kc : Nat) (VA : Option Addr) (vn vc : Nat) (m : Nat) (i : Value) (wr : World) : Prop :=
  ∃ k : Nat, k ≤ 3 ∧ i = .int .i64 (k : Int) ∧ Bk wr w.heap.size 55 (opV t a b c n k0 k1 k2 k3 KA kn kc VA vn vc) ∧ Bk wr (w.heap.size + 1) 55 (opV 0 0 0 0 0 0 0 0 0 none 0 0 none 0 0) ∧
    Bk wr (w.heap.size + 1 + 1) 55 (opV t (pick (decide (0 < k) && decide (0 < m)) a) (pick (decide (1 < k) && decide (1 < m)) b) (pick (decide (2 < k) && decide (2 < m)) c) 0 0 0 0 0 none 0 0 none 0 0) ∧
    Bk wr (w.heap.size + 1 + 1 + 1) 96 #[.pointer (some ⟨w.heap.size + 1 + 1, 1, none⟩), .pointer (some ⟨w.heap.size + 1 + 1, 2, none⟩), .pointer (some ⟨w.heap.size + 1 + 1, 3, none⟩)] ∧ Below w.heap.size w wr
set_option maxHeartbeats 2000000 in
/-- bare -/
theorem bare_any (t a b c n : Int) (k0 k1 k2 k3 : Nat) (KA : Option Addr) (kn kc : Nat) (VA : Option Addr) (vn vc : Nat) (w : World) :
    Calls Tryd.prog 53 #[.agg (opV t a b c n k0 k1 k2 k3 KA kn kc VA vn vc)] w fun e w' => e = .returned (.agg (bareV t a b c n k0 k1 k2 k3 KA kn kc VA vn vc (namesN t))) ∧ Below w.heap.size w w' := by
  have D1 := Lib.hid (fun W => word_any t W)
  have x0 := (Bk.new w 55 (opV t a b c n k0 k1 k2 k3 KA kn kc VA vn vc)).alloc (.cells #[.int .i64 0, .int .i64 0, .int .i64 0, .int .i64 0, .int .i64 0, .int .u64 0, .int .u64 0, .int .u64 0, .int .u64 0, .slice none 0 0, .slice none 0 0] 55)
  have y0 := Bk.new1 w (.cells (opV t a b c n k0 k1 k2 k3 KA kn kc VA vn vc) 55) 55 #[.int .i64 0, .int .i64 0, .int .i64 0, .int .i64 0, .int .i64 0, .int .u64 0, .int .u64 0, .int .u64 0, .int .u64 0, .slice none 0 0, .slice none 0 0]
  have b0 := ((Below.refl w.heap.size w).alloc (Nat.le_refl _) (.cells (opV t a b c n k0 k1 k2 k3 KA kn kc VA vn vc) 55)).alloc (by simp) (.cells #[.int .i64 0, .int .i64 0, .int .i64 0, .int .i64 0, .int .i64 0, .int .u64 0, .int .u64 0, .int .u64 0, .int .u64 0, .slice none 0 0, .slice none 0 0] 55)
  have hs0 : ((w.alloc (.cells (opV t a b c n k0 k1 k2 k3 KA kn kc VA vn vc) 55)).alloc (.cells #[.int .i64 0, .int .i64 0, .int .i64 0, .int .i64 0, .int .i64 0, .int .u64 0, .int .u64 0, .int .u64 0, .int .u64 0, .slice none 0 0, .slice none 0 0] 55)).heap.size = w.heap.size + 1 + 1 := by simp
  go_enter Tryd.func53, Tryd.ntmps53
  go_upto_region 1 with fail
  generalize (w.alloc (.cells (opV t a b c n k0 k1 k2 k3 KA kn kc VA vn vc) 55)).alloc (.cells #[.int .i64 0, .int .i64 0, .int .i64 0, .int .i64 0, .int .i64 0, .int .u64 0, .int .u64 0, .int .u64 0, .int .u64 0, .slice none 0 0, .slice none 0 0] 55) = W1 at *
  obtain ⟨x00, x01, x02, x03, x04, x05, x06, x07, x08, x09, x0a⟩ := opV_c x0
  have x1 := x0.alloc (.cells (opV t 0 0 0 0 0 0 0 0 none 0 0 none 0 0) 55)
  have y1 := y0.alloc (.cells (opV t 0 0 0 0 0 0 0 0 none 0 0 none 0 0) 55)
  have z1 := Bk.new W1 55 (opV t 0 0 0 0 0 0 0 0 none 0 0 none 0 0)
  have b1 := b0.alloc b0.size (.cells (opV t 0 0 0 0 0 0 0 0 none 0 0 none 0 0) 55)
  have hs1 : (W1.alloc (.cells (opV t 0 0 0 0 0 0 0 0 none 0 0 none 0 0) 55)).heap.size = w.heap.size + 1 + 1 + 1 := by simp [hs0]
  rw [hs0] at z1
  go_upto_region 2 with (first
    | refine wpList_build_to rfl 55 _ rfl (opV t 0 0 0 0 0 0 0 0 none 0 0 none 0 0) (by kernel_rfl) ?_
    | refine wpList_store_newC rfl 55 (.tmp 3) (.tmp 10) rfl (opV t 0 0 0 0 0 0 0 0 none 0 0 none 0 0) (w.heap.size + 1 + 1) rfl hs0.symm rfl 55 _ (by kernel_rfl) (by kernel_rfl) (by kernel_rfl) ?_)
  generalize W1.alloc (.cells (opV t 0 0 0 0 0 0 0 0 none 0 0 none 0 0) 55) = W2 at *
  clear x0 y0 b0 hs0 x00 x01 x02 x03 x04 x05 x06 x07 x08 x09 x0a
  obtain ⟨x00, x01, x02, x03, x04, x05, x06, x07, x08, x09, x0a⟩ := opV_c x1
  go_wp2_with fail
  refine (D1.out _).mono ?_
  rintro e w3 ⟨rfl, rfl⟩
  go_upto_region 3 with fail
  have x2 := x1.alloc (.cells #[.pointer (some ⟨w.heap.size + 1 + 1, 1, none⟩), .pointer (some ⟨w.heap.size + 1 + 1, 2, none⟩), .pointer (some ⟨w.heap.size + 1 + 1, 3, none⟩)] 96)
  have y2 := y1.alloc (.cells #[.pointer (some ⟨w.heap.size + 1 + 1, 1, none⟩), .pointer (some ⟨w.heap.size + 1 + 1, 2, none⟩), .pointer (some ⟨w.heap.size + 1 + 1, 3, none⟩)] 96)
  have z2 := z1.alloc (.cells #[.pointer (some ⟨w.heap.size + 1 + 1, 1, none⟩), .pointer (some ⟨w.heap.size + 1 + 1, 2, none⟩), .pointer (some ⟨w.heap.size + 1 + 1, 3, none⟩)] 96)
  have p2 := Bk.new w3 96 #[.pointer (some ⟨w.heap.size + 1 + 1, 1, none⟩), .pointer (some ⟨w.heap.size + 1 + 1, 2, none⟩), .pointer (some ⟨w.heap.size + 1 + 1, 3, none⟩)]
  have b2 := b1.alloc b1.size (.cells #[.pointer (some ⟨w.heap.size + 1 + 1, 1, none⟩), .pointer (some ⟨w.heap.size + 1 + 1, 2, none⟩), .pointer (some ⟨w.heap.size + 1 + 1, 3, none⟩)] 96)
  rw [hs1] at p2
  have start : BareRel w t a b c n k0 k1 k2 k3 KA kn kc VA vn vc (namesN t) (.int .i64 0) (w3.alloc (.cells #[.pointer (some ⟨w.heap.size + 1 + 1, 1, none⟩), .pointer (some ⟨w.heap.size + 1 + 1, 2, none⟩), .pointer (some ⟨w.heap.size + 1 + 1, 3, none⟩)] 96)) :=
    ⟨0, by decide, rfl, x2, y2, z2, p2, b2⟩
  clear x1 y1 z1 b1 x00 x01 x02 x03 x04 x05 x06 x07 x08 x09 x0a x2 y2 z2 p2 b2
  go_wp2_with fail
  go_loopw [22] (BareRel w t a b c n k0 k1 k2 k3 KA kn kc VA vn vc (namesN t)) (fun i _ => 3 - (intOf i).toNat)
  case atStart => exact start
  case round =>
    clear start
    obtain ⟨k, hk, rfl, x, y, z, p, hb⟩ := hrel
    have hk4 : k = 0 ∨ k = 1 ∨ k = 2 ∨ k = 3 := by omega
    rcases hk4 with rfl | rfl | rfl | rfl
    · obtain ⟨x00, x01, x02, x03, x04, x05, x06, x07, x08, x09, x0a⟩ := opV_c x
      have p0 := p.cell (i := 0) rfl
      have hzl := z.lt
      have zf := (z.alloc (.cells #[.int .i64 a, .int .i64 b, .int .i64 c] 3)).frozen 1
      obtain ⟨z0, z1, z2, z3, _⟩ := opV_c (z.alloc (.cells #[.int .i64 a, .int .i64 b, .int .i64 c] 3))
      by_cases hm : 0 < namesN t
      · have hmi : ((0 : Nat) : Int) < (namesN t : Int) := by omega
        have x' := (x.far (p := ⟨w.heap.size + 1 + 1, 1, none⟩) (by simp; omega) (.int .i64 a)).alloc (.cells #[.int .i64 a, .int .i64 b, .int .i64 c] 3)
        have y' := (y.far (p := ⟨w.heap.size + 1 + 1, 1, none⟩) (by simp) (.int .i64 a)).alloc (.cells #[.int .i64 a, .int .i64 b, .int .i64 c] 3)
        have q' := (p.far (p := ⟨w.heap.size + 1 + 1, 1, none⟩) (by simp) (.int .i64 a)).alloc (.cells #[.int .i64 a, .int .i64 b, .int .i64 c] 3)
        have b0' := hb.setCell (p := ⟨w.heap.size + 1 + 1, 1, none⟩) (by simp; omega) (.int .i64 a)
        have b' := b0'.alloc b0'.size (.cells #[.int .i64 a, .int .i64 b, .int .i64 c] 3)
        have z' := (z.set 1 (.int .i64 a)).alloc (.cells #[.int .i64 a, .int .i64 b, .int .i64 c] 3)
        go_wp2_with fail
        refine ⟨⟨1, by decide, rfl, x', y', ?_, q', b'⟩, by simp [intOf]⟩
        have e : pick (decide (0 < 1) && decide (0 < namesN t)) a = a := by simp [pick, hm]
        rw [e]
        exact z'
      · have hmi : ¬ ((0 : Nat) : Int) < (namesN t : Int) := by omega
        go_wp2_with fail
        refine ⟨⟨1, by decide, rfl, x, y, ?_, p, hb⟩, by simp [intOf]⟩
        have e : pick (decide (0 < 1) && decide (0 < namesN t)) a = 0 := by simp [pick, hm]
        rw [e]
        exact z
    · obtain ⟨x00, x01, x02, x03, x04, x05, x06, x07, x08, x09, x0a⟩ := opV_c x
      have p0 := p.cell (i := 1) rfl
      have hzl := z.lt
      have zf := (z.alloc (.cells #[.int .i64 a, .int .i64 b, .int .i64 c] 3)).frozen 2
      obtain ⟨z0, z1, z2, z3, _⟩ := opV_c (z.alloc (.cells #[.int .i64 a, .int .i64 b, .int .i64 c] 3))
      by_cases hm : 1 < namesN t
      · have hmi : ((1 : Nat) : Int) < (namesN t : Int) := by omega
        have x' := (x.far (p := ⟨w.heap.size + 1 + 1, 2, none⟩) (by simp; omega) (.int .i64 b)).alloc (.cells #[.int .i64 a, .int .i64 b, .int .i64 c] 3)
        have y' := (y.far (p := ⟨w.heap.size + 1 + 1, 2, none⟩) (by simp) (.int .i64 b)).alloc (.cells #[.int .i64 a, .int .i64 b, .int .i64 c] 3)
        have q' := (p.far (p := ⟨w.heap.size + 1 + 1, 2, none⟩) (by simp) (.int .i64 b)).alloc (.cells #[.int .i64 a, .int .i64 b, .int .i64 c] 3)
        have b0' := hb.setCell (p := ⟨w.heap.size + 1 + 1, 2, none⟩) (by simp; omega) (.int .i64 b)
        have b' := b0'.alloc b0'.size (.cells #[.int .i64 a, .int .i64 b, .int .i64 c] 3)
        have z' := (z.set 2 (.int .i64 b)).alloc (.cells #[.int .i64 a, .int .i64 b, .int .i64 c] 3)
        go_wp2_with fail
        refine ⟨⟨2, by decide, rfl, x', y', ?_, q', b'⟩, by simp [intOf]⟩
        have e : pick (decide (1 < 2) && decide (1 < namesN t)) b = b := by simp [pick, hm]
        rw [e]
        exact z'
      · have hmi : ¬ ((1 : Nat) : Int) < (namesN t : Int) := by omega
        go_wp2_with fail
        refine ⟨⟨2, by decide, rfl, x, y, ?_, p, hb⟩, by simp [intOf]⟩
        have e : pick (decide (1 < 2) && decide (1 < namesN t)) b = 0 := by simp [pick, hm]
        rw [e]
        exact z
    · obtain ⟨x00, x01, x02, x03, x04, x05, x06, x07, x08, x09, x0a⟩ := opV_c x
      have p0 := p.cell (i := 2) rfl
      have hzl := z.lt
      have zf := (z.alloc (.cells #[.int .i64 a, .int .i64 b, .int .i64 c] 3)).frozen 3
      obtain ⟨z0, z1, z2, z3, _⟩ := opV_c (z.alloc (.cells #[.int .i64 a, .int .i64 b, .int .i64 c] 3))
      by_cases hm : 2 < namesN t
      · have hmi : ((2 : Nat) : Int) < (namesN t : Int) := by omega
        have x' := (x.far (p := ⟨w.heap.size + 1 + 1, 3, none⟩) (by simp; omega) (.int .i64 c)).alloc (.cells #[.int .i64 a, .int .i64 b, .int .i64 c] 3)
        have y' := (y.far (p := ⟨w.heap.size + 1 + 1, 3, none⟩) (by simp) (.int .i64 c)).alloc (.cells #[.int .i64 a, .int .i64 b, .int .i64 c] 3)
        have q' := (p.far (p := ⟨w.heap.size + 1 + 1, 3, none⟩) (by simp) (.int .i64 c)).alloc (.cells #[.int .i64 a, .int .i64 b, .int .i64 c] 3)
        have b0' := hb.setCell (p := ⟨w.heap.size + 1 + 1, 3, none⟩) (by simp; omega) (.int .i64 c)
        have b' := b0'.alloc b0'.size (.cells #[.int .i64 a, .int .i64 b, .int .i64 c] 3)
        have z' := (z.set 3 (.int .i64 c)).alloc (.cells #[.int .i64 a, .int .i64 b, .int .i64 c] 3)
        go_wp2_with fail
        refine ⟨⟨3, by decide, rfl, x', y', ?_, q', b'⟩, by simp [intOf]⟩
        have e : pick (decide (2 < 3) && decide (2 < namesN t)) c = c := by simp [pick, hm]
        rw [e]
        exact z'
      · have hmi : ¬ ((2 : Nat) : Int) < (namesN t : Int) := by omega
        go_wp2_with fail
        refine ⟨⟨3, by decide, rfl, x, y, ?_, p, hb⟩, by simp [intOf]⟩
        have e : pick (decide (2 < 3) && decide (2 < namesN t)) c = 0 := by simp [pick, hm]
        rw [e]
        exact z
    · obtain ⟨x00, x01, x02, x03, x04, x05, x06, x07, x08, x09, x0a⟩ := opV_c x
      obtain ⟨z00, z01, z02, z03, z04, z05, z06, z07, z08, z09, z0a⟩ := opV_c z
      obtain ⟨f0, f1, f2, f3, f4, f5, f6, f7, f8, f9, f10⟩ := opV_f z
      have hzl := z.lt
      have hxl := x.lt
      clear f0 f1 f2 f3 z00 z01 z02 z03
      by_cases h3 : t = 3
      · have y' := ((((y.far (p := ⟨w.heap.size + 1 + 1, 5, none⟩) (by simp) (.int .u64 (k0 : Nat))).far (p := ⟨w.heap.size + 1 + 1, 6, none⟩) (by simp) (.int .u64 (k1 : Nat))).far (p := ⟨w.heap.size + 1 + 1, 7, none⟩) (by simp) (.int .u64 (k2 : Nat))).far (p := ⟨w.heap.size + 1 + 1, 8, none⟩) (by simp) (.int .u64 (k3 : Nat)))
        have z' := ((((z.set 5 (.int .u64 (k0 : Nat))).set 6 (.int .u64 (k1 : Nat))).set 7 (.int .u64 (k2 : Nat))).set 8 (.int .u64 (k3 : Nat)))
        have b' := ((((hb.setCell (p := ⟨w.heap.size + 1 + 1, 5, none⟩) (by simp; omega) (.int .u64 (k0 : Nat))).setCell (p := ⟨w.heap.size + 1 + 1, 6, none⟩) (by simp; omega) (.int .u64 (k1 : Nat))).setCell (p := ⟨w.heap.size + 1 + 1, 7, none⟩) (by simp; omega) (.int .u64 (k2 : Nat))).setCell (p := ⟨w.heap.size + 1 + 1, 8, none⟩) (by simp; omega) (.int .u64 (k3 : Nat)))
        clear x y z hb p
        go_upto_region 16 with fail
        generalize ((((wr.setCell ⟨w.heap.size + 1 + 1, 5, none⟩ (.int .u64 (k0 : Nat))).setCell ⟨w.heap.size + 1 + 1, 6, none⟩ (.int .u64 (k1 : Nat))).setCell ⟨w.heap.size + 1 + 1, 7, none⟩ (.int .u64 (k2 : Nat))).setCell ⟨w.heap.size + 1 + 1, 8, none⟩ (.int .u64 (k3 : Nat))) = W5 at *
        have fin : Bk W5 (w.heap.size + 1 + 1) 55 (bareV t a b c n k0 k1 k2 k3 KA kn kc VA vn vc (namesN t)) := by
          refine Eq.mp (congrArg (Bk W5 (w.heap.size + 1 + 1) 55) ?_) z'
          simp [opV, bareV, pick, pickN, h3]
        go_wp2_with (first
          | refine wpList_load_row rfl 55 (.tmp 3) rfl (w.heap.size + 1 + 1) rfl 55 (bareV t a b c n k0 k1 k2 k3 KA kn kc VA vn vc (namesN t)) (0, 0) _ fin Tryd.underlying55 rfl (by kernel_rfl) ?_
          | refine wpList_store_row rfl 55 (.tmp 2) (.tmp 63) rfl (w.heap.size + 1) (bareV t a b c n k0 k1 k2 k3 KA kn kc VA vn vc (namesN t)) rfl rfl 55 _ y' (by kernel_rfl) (by kernel_rfl) (by kernel_rfl) ?_)
        exact bodyPost_ret (results_cell_row rfl _ _ (w.heap.size + 1) 55 (bareV t a b c n k0 k1 k2 k3 KA kn kc VA vn vc (namesN t)) (0, 0) _ rfl (setRow_heap _ _ _ _ _ _ y') Tryd.underlying55 rfl (by kernel_rfl)) rfl ⟨rfl, below_setRow b' (by omega) _⟩

      · by_cases h10 : t = 10
        · have y' := (y.far (p := ⟨w.heap.size + 1 + 1, 4, none⟩) (by simp) (.int .i64 n))
          have z' := (z.set 4 (.int .i64 n))
          have b' := (hb.setCell (p := ⟨w.heap.size + 1 + 1, 4, none⟩) (by simp; omega) (.int .i64 n))
          clear x y z hb p
          go_upto_region 16 with fail
          generalize (wr.setCell ⟨w.heap.size + 1 + 1, 4, none⟩ (.int .i64 n)) = W5 at *
          have fin : Bk W5 (w.heap.size + 1 + 1) 55 (bareV t a b c n k0 k1 k2 k3 KA kn kc VA vn vc (namesN t)) := by
            refine Eq.mp (congrArg (Bk W5 (w.heap.size + 1 + 1) 55) ?_) z'
            simp [opV, bareV, pick, pickN, h10]
          go_wp2_with (first
            | refine wpList_load_row rfl 55 (.tmp 3) rfl (w.heap.size + 1 + 1) rfl 55 (bareV t a b c n k0 k1 k2 k3 KA kn kc VA vn vc (namesN t)) (0, 0) _ fin Tryd.underlying55 rfl (by kernel_rfl) ?_
            | refine wpList_store_row rfl 55 (.tmp 2) (.tmp 63) rfl (w.heap.size + 1) (bareV t a b c n k0 k1 k2 k3 KA kn kc VA vn vc (namesN t)) rfl rfl 55 _ y' (by kernel_rfl) (by kernel_rfl) (by kernel_rfl) ?_)
          exact bodyPost_ret (results_cell_row rfl _ _ (w.heap.size + 1) 55 (bareV t a b c n k0 k1 k2 k3 KA kn kc VA vn vc (namesN t)) (0, 0) _ rfl (setRow_heap _ _ _ _ _ _ y') Tryd.underlying55 rfl (by kernel_rfl)) rfl ⟨rfl, below_setRow b' (by omega) _⟩

        · by_cases h6 : t = 6
          · have y' := (((y.far (p := ⟨w.heap.size + 1 + 1, 9, none⟩) (by simp) (.slice KA kn kc)).far (p := ⟨w.heap.size + 1 + 1, 10, none⟩) (by simp) (.slice VA vn vc))).drew
            have z' := (((z.set 9 (.slice KA kn kc)).set 10 (.slice VA vn vc))).drew
            have b' := (((hb.setCell (p := ⟨w.heap.size + 1 + 1, 9, none⟩) (by simp; omega) (.slice KA kn kc)).setCell (p := ⟨w.heap.size + 1 + 1, 10, none⟩) (by simp; omega) (.slice VA vn vc))).drew
            clear x y z hb p
            go_upto_region 15 with fail
            go_region
            go_upto_region 16 with fail
            generalize ((wr.setCell ⟨w.heap.size + 1 + 1, 9, none⟩ (.slice KA kn kc)).setCell ⟨w.heap.size + 1 + 1, 10, none⟩ (.slice VA vn vc)).drew = W5 at *
            have fin : Bk W5 (w.heap.size + 1 + 1) 55 (bareV t a b c n k0 k1 k2 k3 KA kn kc VA vn vc (namesN t)) := by
              refine Eq.mp (congrArg (Bk W5 (w.heap.size + 1 + 1) 55) ?_) z'
              simp [opV, bareV, pick, pickN, h6]
            go_wp2_with (first
              | refine wpList_load_row rfl 55 (.tmp 3) rfl (w.heap.size + 1 + 1) rfl 55 (bareV t a b c n k0 k1 k2 k3 KA kn kc VA vn vc (namesN t)) (0, 0) _ fin Tryd.underlying55 rfl (by kernel_rfl) ?_
              | refine wpList_store_row rfl 55 (.tmp 2) (.tmp 63) rfl (w.heap.size + 1) (bareV t a b c n k0 k1 k2 k3 KA kn kc VA vn vc (namesN t)) rfl rfl 55 _ y' (by kernel_rfl) (by kernel_rfl) (by kernel_rfl) ?_)
            exact bodyPost_ret (results_cell_row rfl _ _ (w.heap.size + 1) 55 (bareV t a b c n k0 k1 k2 k3 KA kn kc VA vn vc (namesN t)) (0, 0) _ rfl (setRow_heap _ _ _ _ _ _ y') Tryd.underlying55 rfl (by kernel_rfl)) rfl ⟨rfl, below_setRow b' (by omega) _⟩

          · have y' := y
            have z' := z
            have b' := hb
            clear x y z hb p
            go_upto_region 16 with fail
            generalize wr = W5 at *
            have fin : Bk W5 (w.heap.size + 1 + 1) 55 (bareV t a b c n k0 k1 k2 k3 KA kn kc VA vn vc (namesN t)) := by
              refine Eq.mp (congrArg (Bk W5 (w.heap.size + 1 + 1) 55) ?_) z'
              simp [opV, bareV, pick, pickN, h3, h10, h6]
            go_wp2_with (first
              | refine wpList_load_row rfl 55 (.tmp 3) rfl (w.heap.size + 1 + 1) rfl 55 (bareV t a b c n k0 k1 k2 k3 KA kn kc VA vn vc (namesN t)) (0, 0) _ fin Tryd.underlying55 rfl (by kernel_rfl) ?_
              | refine wpList_store_row rfl 55 (.tmp 2) (.tmp 63) rfl (w.heap.size + 1) (bareV t a b c n k0 k1 k2 k3 KA kn kc VA vn vc (namesN t)) rfl rfl 55 _ y' (by kernel_rfl) (by kernel_rfl) (by kernel_rfl) ?_)
            exact bodyPost_ret (results_cell_row rfl _ _ (w.heap.size + 1) 55 (bareV t a b c n k0 k1 k2 k3 KA kn kc VA vn vc (namesN t)) (0, 0) _ rfl (setRow_heap _ _ _ _ _ _ y') Tryd.underlying55 rfl (by kernel_rfl)) rfl ⟨rfl, below_setRow b' (by omega) _⟩

end Go.Proofs.YtdilgmokiclfaaaDoor
