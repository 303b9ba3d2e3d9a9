/- Chapter 24: parseOp. -/
import Derived.Test.YtdilgmokiclfaaaDoorScX0
import Derived.Test.YtdilgmokiclfaaaDoorScF
import Derived.Test.YtdilgmokiclfaaaDoorScM
import Derived.Deep.RegionHeld3
import Derived.Deep.CutBlock
namespace Go.Proofs.YtdilgmokiclfaaaDoor
open Go.RowKit
set_option linter.unusedVariables false
set_option maxRecDepth 100000

structure PoSt (w : World) (b ob : Nat) (W : World) (xs : Array Value) (bad : Bool) (ws : List ByteArray) : Prop where
  y : Bk W w.heap.size 55 (opV 0 0 0 0 0 0 0 0 0 none 0 0 none 0 0)
  x : Bk W ob 55 xs
  wd : WdS W b bad ws
  bl : Below w.heap.size w W
  hb : b < ob
  h0 : w.heap.size < b
theorem PoSt.only {w : World} {b ob : Nat} {W W' : World} {xs : Array Value} {bad bad' : Bool} {ws ws' : List ByteArray} (h : PoSt w b ob W xs bad ws) (ho : Only b W W') (hw : WdS W' b bad' ws') : PoSt w b ob W' xs bad' ws' :=
  ⟨ho.bk h.y (Nat.ne_of_lt h.h0), ho.bk h.x (Nat.ne_of_gt h.hb), hw, h.bl.trans (ho.below (Nat.le_of_lt h.h0) h.bl.size), h.hb, h.h0⟩
theorem WdS.set {w : World} {b : Nat} {bad : Bool} {ws : List ByteArray} (h : WdS w b bad ws) {g i : Nat} (hg : b < g) (v : Value) : WdS (w.setCell ⟨g, i, none⟩ v) b bad ws :=
  h.keep (fun j hj => Below.heap_setCell w ⟨g, i, none⟩ v j (by show j ≠ g; omega)) (by rw [World.size_setCell]; exact Nat.le_refl _)
theorem PoSt.set {w : World} {b ob : Nat} {W : World} {xs : Array Value} {bad : Bool} {ws : List ByteArray} (h : PoSt w b ob W xs bad ws) (i : Nat) (v : Value) : PoSt w b ob (W.setCell ⟨ob, i, none⟩ v) (xs.setIfInBounds i v) bad ws :=
  ⟨h.y.far (by show w.heap.size ≠ ob; have := h.hb; have := h.h0; omega) v, h.x.set i v, h.wd.set h.hb v, h.bl.setCell (p := ⟨ob, i, none⟩) (by have := h.hb; have := h.h0; show w.heap.size ≤ ob; omega) v, h.hb, h.h0⟩
theorem PoSt.bel {w : World} {b ob : Nat} {W W' : World} {xs : Array Value} {bad : Bool} {ws : List ByteArray} (h : PoSt w b ob W xs bad ws) (hb : Below W.heap.size W W') : PoSt w b ob W' xs bad ws :=
  ⟨h.y.bel hb, h.x.bel hb, h.wd.bel hb, h.bl.trans (hb.mono h.bl.size), h.hb, h.h0⟩
theorem PoSt.app {w : World} {b ob B k n cap g' : Nat} {e : TypeId} {W W' : World} {v : Value} {l : List Value} {xs : Array Value} {bad : Bool} {ws : List ByteArray} (h : PoSt w b ob W xs bad ws) (hA : App1 B e k W v n cap g' l W') (hv : ∀ j, v.ownBlock = some j → ob < j) : PoSt w b ob W' xs bad ws :=
  ⟨(hA.blk _ h.y.lt (fun e => by have := hv _ e.symm; have := h.hb; have := h.h0; omega)).trans h.y, (hA.blk _ h.x.lt (fun e => by have := hv _ e.symm; omega)).trans h.x,
    h.wd.keep (fun j hj => hA.blk j (by have := h.wd.lt; omega) (fun e => by have := hv _ e.symm; have := h.hb; omega)) hA.size,
    hA.below h.bl h.bl.size (fun j e => by have := hv j e; have := h.hb; have := h.h0; omega), h.hb, h.h0⟩
def TgRel (first : ByteArray) (W : World) (i : Value) (wr : World) : Prop :=
  ∃ k : Nat, 1 ≤ k ∧ k ≤ 12 ∧ i = .int .i64 (k : Int) ∧ (∀ j : Nat, 1 ≤ j → j < k → wordB (j : Int) ≠ first) ∧ wr = W
def PtRel (w : World) (b ob pb : Nat) (t : Int) (n : Nat) (s0 : St) (i : Value) (wr : World) : Prop :=
  ∃ (j : Nat) (l : List Int) (bad : Bool) (ws : List ByteArray), j ≤ n ∧ i = .int .i64 (j : Int) ∧ l.length = j ∧
    PoSt w b ob wr (opV t (l.getD 0 0) (l.getD 1 0) (l.getD 2 0) 0 0 0 0 0 none 0 0 none 0 0) bad ws ∧
    Bk wr pb 96 #[.pointer (some ⟨ob, 1, none⟩), .pointer (some ⟨ob, 2, none⟩), .pointer (some ⟨ob, 3, none⟩)] ∧
    rdN n s0 = (l ++ (rdN (n - j) (bad, ws)).1, (rdN (n - j) (bad, ws)).2) ∧ (∀ x ∈ ws, x ∈ s0.2) ∧ ws.length ≤ s0.2.length
theorem zeroOp : opV 0 0 0 0 0 0 0 0 0 none 0 0 none 0 0 = #[.int .i64 0, .int .i64 0, .int .i64 0, .int .i64 0, .int .i64 0, .int .u64 0, .int .u64 0, .int .u64 0, .int .u64 0, .slice none 0 0, .slice none 0 0] := rfl
theorem results_op {fn : Func} {p u : Tmp} {W : World} {g : Nat} {t a b c n : Int} {k0 k1 k2 k3 : Nat} {KA : Option Addr} {kn kc : Nat} {VA : Option Addr} {vn vc : Nat} (hf : fn.results = #[.cell p 55, .tmp u]) (tmps : Array Value) (hp : tmps.getD p undef = .pointer (some ⟨g, 0, none⟩)) (h : Bk W g 55 (opV t a b c n k0 k1 k2 k3 KA kn kc VA vn vc)) :
    (results fn tmps).run Tryd.prog W = .ok (.tuple #[.agg (opV t a b c n k0 k1 k2 k3 KA kn kc VA vn vc), tmps.getD u undef]) W := by
  rw [results_cell_tmp hf, hp]
  simp [asAddr, run_loadVar_row W g 55 _ (opV t a b c n k0 k1 k2 k3 KA kn kc VA vn vc) (0, 0) _ h Tryd.underlying55 rfl (by kernel_rfl), Result.andThen]
def opZ : OpE := ⟨⟨0, 0, 0, 0, 0, 0, [], []⟩, none, 0, none, 0⟩
theorem opZ_v : opZ.v = opV 0 0 0 0 0 0 0 0 0 none 0 0 none 0 0 := by kernel_rfl
theorem opZ_in (w : World) : OpIn w opZ := ⟨by decide, ⟨rfl, Nat.le_refl _, Nat.zero_le _, fun x hx => (by cases hx), fun h => (by cases h)⟩, ⟨rfl, Nat.le_refl _, Nat.zero_le _, fun h => (by cases h)⟩⟩
def intsV (vs : List Int) : List Value := vs.map fun v => .int .i64 v
theorem IntS.of_own {w : World} {B n : Nat} {v : Value} {vs : List Int} (h : w.ownsRow B 3 1 v n (intsV vs)) (hn : vs.length = n) : ∃ A c, v = .slice A n c ∧ IntS w A n c vs := by
  have hown := h
  rcases h.2 with ⟨rfl, h0⟩ | ⟨g, cap, cur, rfl, h1, h2, h3, h4, h5⟩
  · subst h0
    exact ⟨none, 0, rfl, hn, Nat.le_refl _, Nat.zero_le _, fun hp => by omega⟩
  · refine ⟨some ⟨g, 0, none⟩, cap, rfl, hn, h3, h4, fun hp => ⟨g, 0, rfl, ?_, fun i hi => ?_⟩⟩
    · rcases Nat.lt_or_ge g w.heap.size with hlt | hge
      · exact hlt
      · rw [Array.getElem?_eq_none hge] at h2; cases h2
    · have := hown.cells (g := g) rfl i (.int .i64 vs[i]) (by unfold intsV; rw [List.getElem?_map, List.getElem?_eq_getElem hi]; rfl)
      rw [add_flat3] at this
      exact this
theorem ownsRow_keep {w w' : World} {ob k n : Nat} {e : TypeId} {v : Value} {xs : List Value} (h : w.ownsRow (ob + 1) e k v n xs) (hb : ∀ j, ob < j → j < w.heap.size → w'.heap[j]? = w.heap[j]?) : w'.ownsRow (ob + 1) e k v n xs := by
  refine ⟨h.1, h.2.imp id ?_⟩
  rintro ⟨g1, cap, cur, rfl, h1, h2, h3⟩
  exact ⟨g1, cap, cur, rfl, h1, (hb g1 (by omega) (Array.getElem?_eq_some_iff.1 h2).1).trans h2, h3⟩
/-- What the switch leaves. -/
def FinSt (w : World) (b ob : Nat) (r : OpD × St) (W : World) : Prop :=
  ∃ (KA : Option Addr) (kc : Nat) (VA : Option Addr) (vc : Nat), PoSt w b ob W (opV' r.1 KA kc VA vc) r.2.1 r.2.2 ∧ OpInA ob W ⟨r.1, KA, kc, VA, vc⟩
theorem opV0 (t a b c n : Int) (ks : List Nat) (vs : List Int) (KA : Option Addr) (kc : Nat) (VA : Option Addr) (vc : Nat) : opV' ⟨t, a, b, c, n, 0, ks, vs⟩ KA kc VA vc = opV t a b c n 0 0 0 0 KA ks.length kc VA vs.length vc := by
  have z0 : nth (fl 0) 0 = 0 := by decide
  have z1 : nth (fl 0) 1 = 0 := by decide
  have z2 : nth (fl 0) 2 = 0 := by decide
  have z3 : nth (fl 0) 3 = 0 := by decide
  unfold opV'
  simp only [z0, z1, z2, z3]
theorem lim4 (a0 a1 a2 a3 : Nat) : lim .u64 [a0, a1, a2, a3] = #[.int .u64 (a0 : Nat), .int .u64 (a1 : Nat), .int .u64 (a2 : Nat), .int .u64 (a3 : Nat)] := rfl
def lenC : Option Value → Nat
  | some v => lenOf v
  | none => 0
def PpRel (w : World) (b ob : Nat) (t l0 l1 l2 : Int) (N : Nat) (s0 : St) (v : Value) (wr : World) : Prop :=
  ∃ (ks : List Nat) (vs : List Int) (bad : Bool) (us : List ByteArray) (KA : Option Addr) (kc : Nat) (VA : Option Addr) (vc : Nat),
    PoSt w b ob wr (opV t l0 l1 l2 0 0 0 0 0 KA ks.length kc VA vs.length vc) bad us ∧
    wr.ownsRow (ob + 1) 24 4 (.slice KA ks.length kc) ks.length (frCs ks) ∧ wr.ownsRow (ob + 1) 3 1 (.slice VA vs.length vc) vs.length (intsV vs) ∧ Fl4 ks ∧ vs.length = ks.length ∧ ks.length + us.length ≤ N ∧
    rdP N s0 = (ks ++ (rdP N (bad, us)).1, vs ++ (rdP N (bad, us)).2.1, (rdP N (bad, us)).2.2) ∧ (∀ x ∈ us, x ∈ s0.2)
def PkCut (w : World) (b ob : Nat) (t l0 l1 l2 : Int) (ks : List Nat) (vs : List Int) (bad : Bool) (us : List ByteArray) (VA : Option Addr) (vn vc : Nat) (v : Value) (W : World) : Prop :=
  ∃ (KA : Option Addr) (kc : Nat), PoSt w b ob W (opV t l0 l1 l2 0 0 0 0 0 KA ks.length kc VA vn vc) bad us ∧
    W.ownsRow (ob + 1) 24 4 (.slice KA ks.length kc) ks.length (frCs ks) ∧ W.ownsRow (ob + 1) 3 1 (.slice VA vn vc) vn (intsV vs)
theorem row_apart {w : World} {B B' k k' n n' : Nat} {e e' : TypeId} {v v' : Value} {xs xs' : List Value} (h : w.ownsRow B e k v n xs) (h' : w.ownsRow B' e' k' v' n' xs') (he : e ≠ e') {g : Nat} (hg : v.ownBlock = some g) : v'.ownBlock ≠ some g := fun hg' => by
  rcases h.2 with ⟨rfl, _⟩ | ⟨g1, cap, cur, rfl, h1, h2, h3⟩
  · cases hg
  · rcases h'.2 with ⟨rfl, _⟩ | ⟨g2, cap', cur', rfl, h1', h2', h3'⟩
    · cases hg'
    · have e1 : g1 = g := Option.some.inj hg
      have e2 : g2 = g := Option.some.inj hg'
      rw [e1] at h2; rw [e2, h2] at h2'
      injection h2' with h2'
      injection h2' with _ h4
      exact he h4
theorem ownsRow_app {B k n cap g' : Nat} {e : TypeId} {wr w8 : World} {v : Value} {l : List Value} (hA : App1 B e k wr v n cap g' l w8) {B' k' n' : Nat} {e' : TypeId} {v' : Value} {xs : List Value} (h : wr.ownsRow B' e' k' v' n' xs) (hv : ∀ g, v.ownBlock = some g → v'.ownBlock ≠ some g) : w8.ownsRow B' e' k' v' n' xs := by
  refine ⟨h.1, h.2.imp id ?_⟩
  rintro ⟨g, cap, cur, rfl, h1, h2, h3⟩
  refine ⟨g, cap, cur, rfl, h1, (hA.blk g (Array.getElem?_eq_some_iff.1 h2).1 (fun e => hv g e.symm rfl)).trans h2, h3⟩
theorem ownsRow_set {w : World} {B k n g i : Nat} {e : TypeId} {v : Value} {xs : List Value} (h : w.ownsRow B e k v n xs) (hg : g < B) (u : Value) : (w.setCell ⟨g, i, none⟩ u).ownsRow B e k v n xs := by
  refine ⟨h.1, h.2.imp id ?_⟩
  rintro ⟨g1, cap, cur, rfl, h1, h2, h3⟩
  exact ⟨g1, cap, cur, rfl, h1, (Below.heap_setCell w ⟨g, i, none⟩ u g1 (by show g1 ≠ g; omega)).trans h2, h3⟩
theorem intsV_snoc (vs : List Int) (v : Int) : intsV (vs ++ [v]) = intsV vs ++ [.int .i64 v] := by simp [intsV]
theorem int_info : (Tryd.prog.info? 3).map (fun i => (i.zero, i.size, i.bytes)) = some (some (.int .i64 0), 1, 8) := by kernel_rfl
theorem WdS.drew {w : World} {b : Nat} {bad : Bool} {ws : List ByteArray} (h : WdS w b bad ws) : WdS w.drew b bad ws := h.bel (Below.refl _ _).drew
theorem rdP_step {N : Nat} {s : ByteArray} {r : List ByteArray} (h : r.length + 1 ≤ N) :
    rdP N (false, s :: r) = ((numB s).getD 0 :: (rdP N ((false || (numB s).isNone) || (smallB (r.headD ⟨#[]⟩)).isNone, r.tail)).1, (smallB (r.headD ⟨#[]⟩)).getD 0 :: (rdP N ((false || (numB s).isNone) || (smallB (r.headD ⟨#[]⟩)).isNone, r.tail)).2.1, (rdP N ((false || (numB s).isNone) || (smallB (r.headD ⟨#[]⟩)).isNone, r.tail)).2.2) := by
  obtain ⟨n, rfl⟩ : ∃ k, N = k + 1 := ⟨N - 1, by omega⟩
  have e : rdP (n + 1) ((false || (numB s).isNone) || (smallB (r.headD ⟨#[]⟩)).isNone, r.tail) = rdP n ((false || (numB s).isNone) || (smallB (r.headD ⟨#[]⟩)).isNone, r.tail) := rdP_more (by show r.tail.length ≤ n; rw [List.length_tail]; omega) (by omega)
  rw [e, rdP, if_neg (by simp)]
  rfl
theorem frS_nil (w : World) : FrS w none 0 0 [] := ⟨rfl, Nat.le_refl _, Nat.zero_le _, fun x hx => (by cases hx), fun h => (by cases h)⟩
theorem intS_nil (w : World) : IntS w none 0 0 [] := ⟨rfl, Nat.le_refl _, Nat.zero_le _, fun h => (by cases h)⟩
theorem getD_lt (s : ByteArray) : (numB s).getD 0 < pw 4 := by
  cases h : numB s with
  | none => decide
  | some v => exact numB_lt h
structure Ch (W : World) (z : Nat) (xs : Array Value) (C : World) : Prop where
  bk : Bk C z 55 xs
  size : C.heap.size = W.heap.size
  far : ∀ j, j ≠ z → C.heap[j]? = W.heap[j]?
  bel : ∀ B, B ≤ z → Below B W C
theorem Ch.set {W C : World} {z : Nat} {xs : Array Value} (h : Ch W z xs C) (i : Nat) (v : Value) : Ch W z (xs.setIfInBounds i v) (C.setCell ⟨z, i, none⟩ v) :=
  ⟨h.bk.set i v, by rw [World.size_setCell]; exact h.size, fun j hj => (Below.heap_setCell _ ⟨z, i, none⟩ _ j hj).trans (h.far j hj), fun B hB => (h.bel B hB).setCell (p := ⟨z, i, none⟩) hB _⟩
theorem op_chain {W : World} {z : Nat} (y : Bk W z 55 (opV 0 0 0 0 0 0 0 0 0 none 0 0 none 0 0)) (t a b c n : Int) (k0 k1 k2 k3 : Nat) (KA : Option Addr) (kn kc : Nat) (VA : Option Addr) (vn vc : Nat) :
    Ch W z (opV t a b c n k0 k1 k2 k3 KA kn kc VA vn vc) (((((((((((W.setCell ⟨z, 0, none⟩ (.int .i64 t)).setCell ⟨z, 1, none⟩ (.int .i64 a)).setCell ⟨z, 2, none⟩ (.int .i64 b)).setCell ⟨z, 3, none⟩ (.int .i64 c)).setCell ⟨z, 4, none⟩ (.int .i64 n)).setCell ⟨z, 5, none⟩ (.int .u64 (k0 : Nat))).setCell ⟨z, 6, none⟩ (.int .u64 (k1 : Nat))).setCell ⟨z, 7, none⟩ (.int .u64 (k2 : Nat))).setCell ⟨z, 8, none⟩ (.int .u64 (k3 : Nat))).setCell ⟨z, 9, none⟩ (.slice KA kn kc)).setCell ⟨z, 10, none⟩ (.slice VA vn vc)) := by
  have h : Ch W z (opV 0 0 0 0 0 0 0 0 0 none 0 0 none 0 0) W := ⟨y, rfl, fun _ _ => rfl, fun B _ => Below.refl B W⟩
  have h0 : Ch W z (opV t 0 0 0 0 0 0 0 0 none 0 0 none 0 0) _ := h.set 0 (.int .i64 t)
  have h1 : Ch W z (opV t a 0 0 0 0 0 0 0 none 0 0 none 0 0) _ := h0.set 1 (.int .i64 a)
  have h2 : Ch W z (opV t a b 0 0 0 0 0 0 none 0 0 none 0 0) _ := h1.set 2 (.int .i64 b)
  have h3 : Ch W z (opV t a b c 0 0 0 0 0 none 0 0 none 0 0) _ := h2.set 3 (.int .i64 c)
  have h4 : Ch W z (opV t a b c n 0 0 0 0 none 0 0 none 0 0) _ := h3.set 4 (.int .i64 n)
  have h5 : Ch W z (opV t a b c n k0 0 0 0 none 0 0 none 0 0) _ := h4.set 5 (.int .u64 (k0 : Nat))
  have h6 : Ch W z (opV t a b c n k0 k1 0 0 none 0 0 none 0 0) _ := h5.set 6 (.int .u64 (k1 : Nat))
  have h7 : Ch W z (opV t a b c n k0 k1 k2 0 none 0 0 none 0 0) _ := h6.set 7 (.int .u64 (k2 : Nat))
  have h8 : Ch W z (opV t a b c n k0 k1 k2 k3 none 0 0 none 0 0) _ := h7.set 8 (.int .u64 (k3 : Nat))
  have h9 : Ch W z (opV t a b c n k0 k1 k2 k3 KA kn kc none 0 0) _ := h8.set 9 (.slice KA kn kc)
  have h10 : Ch W z (opV t a b c n k0 k1 k2 k3 KA kn kc VA vn vc) _ := h9.set 10 (.slice VA vn vc)
  exact h10
set_option maxHeartbeats 8000000 in
/-- parseOp -/
theorem parseOp_any (line : ByteArray) (w : World) (he : Env w) (hl : line.size ≤ 50000000) :
    Calls Tryd.prog 32 #[.string line] w fun e w' => ∃ E : OpE, e = .returned (.tuple #[.agg E.v, .bool (opR line).isSome]) ∧ OpInA w.heap.size w' E ∧ (∀ d, opR line = some d → E.d = d) ∧ Below w.heap.size w w' := by
  obtain ⟨m, hm⟩ := he.m
  have o1 := Bk.new w 55 (opV 0 0 0 0 0 0 0 0 0 none 0 0 none 0 0)
  have b1 := (Below.refl w.heap.size w).alloc (Nat.le_refl _) (.cells (opV 0 0 0 0 0 0 0 0 0 none 0 0 none 0 0) 55)
  have hm1 : (w.alloc (.cells (opV 0 0 0 0 0 0 0 0 0 none 0 0 none 0 0) 55)).cell? ⟨0, 0, none⟩ = some (.int .i64 m) := (b1.cell (p := ⟨0, 0, none⟩) (show 0 < w.heap.size by have := he.lt; omega)).trans hm
  rw [zeroOp] at o1 b1 hm1
  have hz1 : (w.alloc (.cells #[.int .i64 0, .int .i64 0, .int .i64 0, .int .i64 0, .int .i64 0, .int .u64 0, .int .u64 0, .int .u64 0, .int .u64 0, .slice none 0 0, .slice none 0 0] 55)).heap.size = w.heap.size + 1 := by simp
  obtain ⟨ws, hws⟩ : ∃ x, x = wordsB line := ⟨_, rfl⟩
  obtain ⟨n, hn⟩ : ∃ n, ws.length = n := ⟨_, rfl⟩
  have hn1 : Lib.countB line ⟨#[32]⟩ + 1 = n := by rw [← hn, hws, wordsB_len]
  have hnl : n ≤ 50000001 := by rw [← hn, hws]; have := wordsB_le line; omega
  have hmem : ∀ x ∈ ws, x.size ≤ 50000000 := fun x hx => Nat.le_trans (wordsB_mem (by rw [← hws]; exact hx)) hl
  have hd : Lib.splitB ⟨#[32]⟩ 0 (Lib.countB line ⟨#[32]⟩) line = ws := hws.symm
  have hor : opR line = match tagOf (ws.headD ⟨#[]⟩) with
    | none => none
    | some t => if finB (opF t ws.tail) then some (opF t ws.tail).1 else none := by rw [hws]; rfl
  obtain ⟨R, hR⟩ : ∃ x, x = opR line := ⟨_, rfl⟩
  rw [← hR] at hor ⊢
  go_enter Tryd.func32, Tryd.ntmps32
  go_upto_region 1 with fail
  generalize w.alloc (.cells #[.int .i64 0, .int .i64 0, .int .i64 0, .int .i64 0, .int .i64 0, .int .u64 0, .int .u64 0, .int .u64 0, .int .u64 0, .slice none 0 0, .slice none 0 0] 55) = W1 at *
  have D1 := Lib.hid (Tryd.strings_Split line ⟨#[32]⟩ m W1 (by omega) hm1 (by decide))
  rw [hd, hn1] at D1
  have HOR := Lib.hid hor
  have HMEM := Lib.hid hmem
  have HN := Lib.hid hn
  have hne : ws.isEmpty = false := by
    cases hws2 : ws with
    | nil => rw [hws2] at hn; simp at hn; omega
    | cons => rfl
  have h0 := WdS.new W1 ws n hn (by omega)
  have D2 := Lib.hid (next_any (W1.heap.size + 1) false ws _ h0)
  rw [hne] at D2
  have b2 := (b1.alloc b1.size (.cells (ws.map Value.string).toArray 9)).alloc (by simp; omega) (.cells #[.slice (some ⟨W1.heap.size, 0, none⟩) n n, .bool false] 93)
  have o2 := (o1.alloc (.cells (ws.map Value.string).toArray 9)).alloc (.cells #[.slice (some ⟨W1.heap.size, 0, none⟩) n n, .bool false] 93)
  have hz2 : ((W1.alloc (.cells (ws.map Value.string).toArray 9)).alloc (.cells #[.slice (some ⟨W1.heap.size, 0, none⟩) n n, .bool false] 93)).heap.size = w.heap.size + 3 := by simp [hz1]
  have HE := Lib.hid he
  have HZ1 := Lib.hid hz1
  clear hz1 hor hmem hn hne h0 hws hd hn1 hm hm1 he hR hl
  go_wp2_with fail
  refine (D1.out).mono ?_
  rintro e w1 ⟨rfl, rfl⟩
  go_upto_region 2 with fail
  generalize ((W1.alloc (.cells (ws.map Value.string).toArray 9)).alloc (.cells #[.slice (some ⟨W1.heap.size, 0, none⟩) n n, .bool false] 93)) = W2 at *
  obtain ⟨b, hb⟩ : ∃ b, W1.heap.size + 1 = b := ⟨_, rfl⟩
  rw [hb] at D2 ⊢
  have HB2 := Lib.hid (show b = w.heap.size + 2 by have := HZ1.out; omega)
  have HZ2 := Lib.hid hz2
  obtain ⟨hd, hhd⟩ : ∃ x, x = ws.headD ⟨#[]⟩ := ⟨_, rfl⟩
  rw [← hhd] at D2
  have HHD := Lib.hid hhd
  have B2 := Lib.hid b2
  have O2 := Lib.hid o2
  clear hhd b1 o1 b2 o2 D1 hb hz2
  go_wp2_with fail
  refine (D2.out).mono ?_
  rintro e w3 ⟨rfl, hw3, q3⟩
  have O3 := Lib.hid (q3.bk O2.out (by have := HB2.out; omega))
  have B3 := Lib.hid (B2.out.trans (q3.below (by have := HB2.out; omega) B2.out.size))
  have HW3 := Lib.hid hw3
  have hz3 := q3.size
  clear hw3 q3 O2 B2 D2
  have D3 := Lib.hid (fun t W => word_any t W)
  go_upto_region 4 with fail
  have hst0 : TgRel hd w3 (.int .i64 1) w3 := ⟨1, by decide, by decide, rfl, fun j h1 h2 => by omega, rfl⟩
  have Hst := Lib.hid hst0
  clear hst0
  go_loopw [6] (TgRel hd w3) (fun i _ => 12 - (intOf i).toNat)
  case atStart => exact Hst.out
  case round =>
    clear Hst
    obtain ⟨k, hk1, hk12, rfl, hne, rfl⟩ := hrel
    have HNE := Lib.hid hne
    clear hne
    by_cases hk : k = 12
    · subst hk
      have o3 := O3.out
      go_wp2_with (first
        | refine wpList_build_to rfl 55 _ rfl (opV 0 0 0 0 0 0 0 0 0 none 0 0 none 0 0) (by kernel_rfl) ?_
        | refine wpList_store_row rfl 55 (.tmp 2) (.tmp 106) rfl w.heap.size (opV 0 0 0 0 0 0 0 0 0 none 0 0 none 0 0) rfl rfl 55 _ o3 (by kernel_rfl) (by kernel_rfl) (by kernel_rfl) ?_)
      have hs := setRow_self _ _ _ _ _ o3
      have e : opV 0 0 0 0 0 0 0 0 0 none 0 0 none 0 0 = #[.int .i64 0, .int .i64 0, .int .i64 0, .int .i64 0, .int .i64 0, .int .u64 0, .int .u64 0, .int .u64 0, .int .u64 0, .slice none 0 0, .slice none 0 0] := rfl
      rw [e, hs]
      have hR : R = none := by rw [HOR.out, ← HHD.out, tagOf_miss HNE.out]
      refine bodyPost_ret (results_op rfl _ rfl o3) rfl ⟨opZ, ?_, fun _ _ _ => opZ_in _, fun d hd => (by rw [hR] at hd; cases hd), B3.out⟩
      rw [opZ_v, hR]
      rfl
    · have hk11 : (k : Int) ≤ 11 := by omega
      cases hst : decide (wordB (k : Int) = hd) with
      | false =>
        have hse := str_beq (wordB (k : Int)) hd
        rw [hst] at hse
        have hne : ((wordB (k : Int)).toList != hd.toList) = true := by simp only [bne, hse]; rfl
        have HST := Lib.hid (of_decide_eq_false hst)
        clear hst
        go_upto_region 6 with fail
        go_wp2_with fail
        refine (D3.out _ _).mono ?_
        rintro e w4 ⟨rfl, rfl⟩
        go_wp2_with fail
        refine ⟨⟨k + 1, by omega, by omega, int_eq (by omega), fun j h1 h2 => ?_, rfl⟩, by simp [intOf]; omega⟩
        rcases Nat.lt_or_ge j k with h | h
        · exact HNE.out j h1 h
        · obtain rfl : j = k := by omega
          exact HST.out
      | true =>
        have hse := str_beq (wordB (k : Int)) hd
        rw [hst] at hse
        have hne : ((wordB (k : Int)).toList != hd.toList) = false := by simp only [bne, hse]; rfl
        have HST := Lib.hid (of_decide_eq_true hst)
        clear hst
        go_upto_region 6 with fail
        go_wp2_with fail
        refine (D3.out _ _).mono ?_
        rintro e w4 ⟨rfl, rfl⟩
        obtain ⟨t, ht⟩ : ∃ t : Int, (k : Int) = t := ⟨_, rfl⟩
        rw [ht]
        rw [ht] at HST hse hne
        have HTR := Lib.hid (show 1 ≤ t ∧ t ≤ 11 by omega)
        obtain ⟨nn, hnn⟩ : ∃ n, namesN t = n := ⟨_, rfl⟩
        rw [hnn]
        have hn3 : nn ≤ 3 := by rw [← hnn]; exact namesN_le t
        have HNN := Lib.hid hnn
        obtain ⟨wd, hwd⟩ : ∃ x, wordB t = x := ⟨_, rfl⟩
        rw [hwd] at hse hne ⊢
        clear hnn ht hwd
        go_upto_region 8 with fail
        obtain ⟨ob, hob⟩ : ∃ x, w4.heap.size = x := ⟨_, rfl⟩
        have x1 := Bk.new w4 55 (opV t 0 0 0 0 0 0 0 0 none 0 0 none 0 0)
        have bb := (Below.refl w4.heap.size w4).alloc (Nat.le_refl _) (.cells (opV t 0 0 0 0 0 0 0 0 none 0 0 none 0 0) 55)
        have bb2 := B3.out.alloc B3.out.size (.cells (opV t 0 0 0 0 0 0 0 0 none 0 0 none 0 0) 55)
        rw [hob] at x1 bb
        have hz4 : (w4.alloc (.cells (opV t 0 0 0 0 0 0 0 0 none 0 0 none 0 0) 55)).heap.size = ob + 1 := by simp [hob]
        have P1 : PoSt w b ob (w4.alloc (.cells (opV t 0 0 0 0 0 0 0 0 none 0 0 none 0 0) 55)) (opV t 0 0 0 0 0 0 0 0 none 0 0 none 0 0) false ws.tail :=
          ⟨O3.out.bel (by rw [hob]; exact bb), x1, HW3.out.bel (by rw [hob]; exact bb), bb2, by have := HW3.out.lt; omega, by have := HB2.out; omega⟩
        have HP1 := Lib.hid P1
        have HOB := Lib.hid hob
        have HZ4 := Lib.hid hz4
        clear x1 bb bb2 P1 hz4
        go_upto_region 9 with (first
          | refine wpList_build_to rfl 55 _ rfl (opV t 0 0 0 0 0 0 0 0 none 0 0 none 0 0) (by kernel_rfl) ?_
          | refine wpList_store_newC rfl 55 (.tmp 9) (.tmp 31) rfl (opV t 0 0 0 0 0 0 0 0 none 0 0 none 0 0) ob rfl hob.symm rfl 55 _ (by kernel_rfl) (by kernel_rfl) (by kernel_rfl) ?_)
        generalize w4.alloc (.cells (opV t 0 0 0 0 0 0 0 0 none 0 0 none 0 0) 55) = W5 at *
        have P2 := HP1.out.bel ((Below.refl W5.heap.size W5).alloc (Nat.le_refl _) (.cells #[.pointer (some ⟨ob, 1, none⟩), .pointer (some ⟨ob, 2, none⟩), .pointer (some ⟨ob, 3, none⟩)] 96))
        have p2 := Bk.new W5 96 #[.pointer (some ⟨ob, 1, none⟩), .pointer (some ⟨ob, 2, none⟩), .pointer (some ⟨ob, 3, none⟩)]
        obtain ⟨pb, hpb⟩ : ∃ x, W5.heap.size = x := ⟨_, rfl⟩
        rw [hpb] at p2
        have hpo : pb = ob + 1 := by rw [← hpb]; exact HZ4.out
        have HPO := Lib.hid hpo
        have hst2 : PtRel w b ob pb t nn (false, ws.tail) (.int .i64 0) (W5.alloc (.cells #[.pointer (some ⟨ob, 1, none⟩), .pointer (some ⟨ob, 2, none⟩), .pointer (some ⟨ob, 3, none⟩)] 96)) :=
          ⟨0, [], false, ws.tail, Nat.zero_le _, rfl, rfl, P2, p2, by simp, fun x hx => hx, Nat.le_refl _⟩
        have Hst2 := Lib.hid hst2
        clear hst2 P2 p2 hpo
        have hn3' : (nn : Int) ≤ 3 := by omega
        go_upto_region 10 with fail
        go_loopw [39] (PtRel w b ob pb t nn (false, ws.tail)) (fun i _ => nn - (intOf i).toNat)
        case atStart => exact Hst2.out
        case round =>
          clear Hst2
          obtain ⟨j, l, bad, us, hj, rfl, hlj, hP, hp, hrd, hmemu, hulen⟩ := hrel
          have HP := Lib.hid hP
          have HRD := Lib.hid hrd
          have HMU := Lib.hid hmemu
          have HULN := Lib.hid hulen
          clear hP hrd hmemu hulen
          rcases Nat.lt_or_ge j nn with hlt | hge
          · have hjm : (j : Int) < (nn : Int) := by omega
            have hj3' : (j : Int) < 3 := by omega
            have hpc : wr.cell? ⟨pb, j, none⟩ = some (.pointer (some ⟨ob, j + 1, none⟩)) := by
              have : j = 0 ∨ j = 1 ∨ j = 2 := by omega
              rcases this with rfl | rfl | rfl <;> exact hp.cell rfl
            have D4 := Lib.hid (wsmall_any b bad us wr HP.out.wd (HE.out.below HP.out.bl HE.out.lt) (by have := HE.out.lt; have := HB2.out; omega) (by
              cases us with
              | nil => exact Nat.zero_le _
              | cons x r => have := HMEM.out x (List.mem_of_mem_tail (HMU.out x (List.mem_cons_self ..))); show x.size ≤ _; omega))
            have HPB := Lib.hid hp
            clear hp
            go_wp2_with fail
            refine (D4.out).mono ?_
            rintro e w6 ⟨rfl, hw6, q6⟩
            have P6 := Lib.hid (HP.out.only q6 hw6)
            have B6 := Lib.hid (q6.bk HPB.out (by have := HPO.out; have := HP.out.hb; omega))
            obtain ⟨z, hz⟩ : ∃ z, w6.cell? ⟨ob, j + 1, none⟩ = some (.int .i64 z) := by
              have : j = 0 ∨ j = 1 ∨ j = 2 := by omega
              rcases this with rfl | rfl | rfl <;> exact ⟨_, P6.out.x.cell rfl⟩
            have hf := P6.out.x.frozen (j + 1)
            obtain ⟨v, hv⟩ : ∃ v, v = (smallB (us.headD ⟨#[]⟩)).getD 0 := ⟨_, rfl⟩
            rw [← hv]
            have HV := Lib.hid hv
            clear hw6 q6 hv D4
            go_wp2_with fail
            have hj012 : j = 0 ∨ j = 1 ∨ j = 2 := by omega
            have hop : (opV t (l.getD 0 0) (l.getD 1 0) (l.getD 2 0) 0 0 0 0 0 none 0 0 none 0 0).setIfInBounds (j + 1) (.int .i64 v) = opV t ((l ++ [v]).getD 0 0) ((l ++ [v]).getD 1 0) ((l ++ [v]).getD 2 0) 0 0 0 0 0 none 0 0 none 0 0 := by
              rcases hj012 with rfl | rfl | rfl
              · obtain rfl := List.eq_nil_of_length_eq_zero hlj
                rfl
              · obtain ⟨a, rfl⟩ := List.length_eq_one_iff.1 hlj
                rfl
              · obtain ⟨a, c, rfl⟩ : ∃ a c, l = [a, c] := by
                  match l, hlj with
                  | [a, c], _ => exact ⟨a, c, rfl⟩
                rfl
            have P7 := P6.out.set (j + 1) (.int .i64 v)
            rw [hop] at P7
            refine ⟨⟨j + 1, l ++ [v], _, us.tail, by omega, int_eq (by omega), by simp [hlj], P7, B6.out.far (by show pb ≠ ob; have := HPO.out; omega) _, ?_, fun x hx => HMU.out x (List.mem_of_mem_tail hx), by
              have h1 : us.length ≤ ws.tail.length := HULN.out
              show us.tail.length ≤ ws.tail.length
              rw [List.length_tail (l := us)]; omega⟩, by simp [intOf]; omega⟩
            rw [HRD.out, show nn - j = (nn - (j + 1)) + 1 by omega]
            have e : rdS (bad, us) = (v, (bad || (smallB (us.headD ⟨#[]⟩)).isNone, us.tail)) := by rw [HV.out]; rfl
            simp only [rdN, e, List.append_assoc, List.singleton_append]
          · obtain rfl : j = nn := by omega
            have hjm : ¬ (j : Int) < (j : Int) := by omega
            go_upto_region 14 with fail
            have hrd := HRD.out
            rw [Nat.sub_self] at hrd
            simp only [rdN, List.append_nil] at hrd
            clear HRD hp
            rw [← HNN.out] at hrd
            have HRD2 := Lib.hid hrd
            clear hrd
            go_upto_block 4 with fail
            go_cut [48] from 18 to 105 (fun v W => FinSt w b ob (opF t ws.tail) W)
            case first =>
              by_cases h3 : t = 3
              · have q3 : (t == 3) = true := by simp [h3]
                have D5 := Lib.hid (wfield_any b bad us wr HP.out.wd (by
                  cases us with
                  | nil => exact Nat.zero_le _
                  | cons x r => have := HMEM.out x (List.mem_of_mem_tail (HMU.out x (List.mem_cons_self ..))); show x.size ≤ _; omega))
                have H3 := Lib.hid h3
                clear h3
                go_wp2_with fail
                refine (D5.out).mono ?_
                rintro e w6 ⟨rfl, hw6, q6⟩
                have P6 := Lib.hid (HP.out.only q6 hw6)
                obtain ⟨V, hV⟩ : ∃ v, v = (numB (us.headD ⟨#[]⟩)).getD 0 := ⟨_, rfl⟩
                have hV4 : V < pw 4 := by rw [hV]; exact getD_lt _
                rw [← hV]
                have HV := Lib.hid hV
                have HV4 := Lib.hid hV4
                obtain ⟨a0, a1, a2, a3, hfl⟩ := fl4 V
                rw [hfl, lim4]
                have HFL := Lib.hid hfl
                obtain ⟨x00, x01, x02, x03, x04, x05, x06, x07, x08, x09, x0a⟩ := opV_c P6.out.x
                obtain ⟨f0, f1, f2, f3, f4, f5, f6, f7, f8, f9, f10⟩ := opV_f P6.out.x
                clear hw6 q6 hV hV4 hfl D5
                go_wp2_with fail
                go_meet
                case rel =>
                  rw [opF3 H3.out HRD2.out]
                  refine ⟨none, 0, none, 0, ?_, fun _ _ _ => ⟨getD_lt _, frS_nil _, intS_nil _⟩⟩
                  have P7 := (((P6.out.set 5 (.int .u64 (a0 : Nat))).set 6 (.int .u64 (a1 : Nat))).set 7 (.int .u64 (a2 : Nat))).set 8 (.int .u64 (a3 : Nat))
                  have e : (rdF (bad, us)).1 = V := HV.out.symm
                  have e2 : opV' {op0 t l with k := (rdF (bad, us)).1} none 0 none 0 = opV t (l.getD 0 0) (l.getD 1 0) (l.getD 2 0) 0 a0 a1 a2 a3 none 0 0 none 0 0 := by
                    rw [e]
                    show opV t (l.getD 0 0) (l.getD 1 0) (l.getD 2 0) 0 (nth (fl V) 0) (nth (fl V) 1) (nth (fl V) 2) (nth (fl V) 3) none 0 0 none 0 0 = _
                    rw [HFL.out]; rfl
                  show PoSt w b ob _ (opV' {op0 t l with k := (rdF (bad, us)).1} none 0 none 0) _ _
                  rw [e2]
                  exact P7
              · by_cases h10 : t = 10
                · have q3 : (t == 3) = false := beq_eq_false_iff_ne.2 h3
                  have q10 : (t == 10) = true := by simp [h10]
                  have D5 := Lib.hid (wsmall_any b bad us wr HP.out.wd (HE.out.below HP.out.bl HE.out.lt) (by have := HE.out.lt; have := HB2.out; omega) (by
                    cases us with
                    | nil => exact Nat.zero_le _
                    | cons x r => have := HMEM.out x (List.mem_of_mem_tail (HMU.out x (List.mem_cons_self ..))); show x.size ≤ _; omega))
                  have H10 := Lib.hid h10
                  clear h3 h10
                  go_wp2_with fail
                  refine (D5.out).mono ?_
                  rintro e w6 ⟨rfl, hw6, q6⟩
                  have P6 := Lib.hid (HP.out.only q6 hw6)
                  obtain ⟨V, hV⟩ : ∃ v, v = (smallB (us.headD ⟨#[]⟩)).getD 0 := ⟨_, rfl⟩
                  rw [← hV]
                  have HV := Lib.hid hV
                  obtain ⟨x00, x01, x02, x03, x04, x05, x06, x07, x08, x09, x0a⟩ := opV_c P6.out.x
                  obtain ⟨f0, f1, f2, f3, f4, f5, f6, f7, f8, f9, f10⟩ := opV_f P6.out.x
                  clear hw6 q6 hV D5
                  go_wp2_with fail
                  go_meet
                  case rel =>
                    rw [opF10 H10.out HRD2.out]
                    refine ⟨none, 0, none, 0, ?_, fun _ _ _ => ⟨(by show 0 < pw 4; decide), frS_nil _, intS_nil _⟩⟩
                    have P7 := P6.out.set 4 (.int .i64 V)
                    have e : (rdS (bad, us)).1 = V := HV.out.symm
                    show PoSt w b ob _ (opV' {op0 t l with n := (rdS (bad, us)).1} none 0 none 0) _ _
                    rw [e, show opV' {op0 t l with n := V} none 0 none 0 = _ from opV0 t (l.getD 0 0) (l.getD 1 0) (l.getD 2 0) V [] [] none 0 none 0]
                    exact P7
                · by_cases h6 : t = 6
                  · have q3 : (t == 3) = false := beq_eq_false_iff_ne.2 h3
                    have q10 : (t == 10) = false := beq_eq_false_iff_ne.2 h10
                    have q6 : (t == 6) = true := by simp [h6]
                    have H6 := Lib.hid h6
                    clear h3 h10 h6
                    obtain ⟨l0, hl0⟩ : ∃ x, x = l.getD 0 0 := ⟨_, rfl⟩
                    obtain ⟨l1, hl1⟩ : ∃ x, x = l.getD 1 0 := ⟨_, rfl⟩
                    obtain ⟨l2, hl2⟩ : ∃ x, x = l.getD 2 0 := ⟨_, rfl⟩
                    rw [← hl0, ← hl1, ← hl2] at HP
                    have HL := Lib.hid (And.intro hl0 (And.intro hl1 hl2))
                    clear hl0 hl1 hl2
                    have hst3 : PpRel w b ob t l0 l1 l2 us.length (bad, us) (.pointer (some ⟨b, 0, none⟩)) wr :=
                      ⟨[], [], bad, us, none, 0, none, 0, HP.out, World.ownsRow_nil _ _ _ _, World.ownsRow_nil _ _ _ _, fun x hx => (by cases hx), rfl, by simp, by simp, fun x hx => hx⟩
                    have Hst3 := Lib.hid hst3
                    have hul : us.length ≤ 50000001 := by
                      have h1 : us.length ≤ ws.tail.length := HULN.out
                      have h2 : ws.tail.length ≤ ws.length := by rw [List.length_tail]; omega
                      have h3 := HN.out
                      omega
                    have HUL := Lib.hid hul
                    clear hul
                    clear hst3 HP
                    obtain ⟨N, hN⟩ : ∃ x, us.length = x := ⟨_, rfl⟩
                    rw [hN] at Hst3 HUL
                    have HNL := Lib.hid hN
                    obtain ⟨wp, hwp⟩ : ∃ x, wr = x := ⟨_, rfl⟩
                    rw [hwp] at Hst3 ⊢
                    clear hN hwp
                    go_upto_region 20 with fail
                    go_loopw [73] (PpRel w b ob t l0 l1 l2 N (bad, us)) (fun _ wr => lenC (wr.cell? ⟨b, 0, none⟩))
                    case atStart => exact Hst3.out
                    case round =>
                      clear Hst3
                      obtain ⟨ks, vs, bad2, us2, KA, kc, VA, vc, hP2, hkr, hvr, hk4, hvl, hlen, hrp, hmu2⟩ := hrel
                      have HP2 := Lib.hid hP2
                      have HKR := Lib.hid hkr
                      have HVR := Lib.hid hvr
                      have HK4 := Lib.hid hk4
                      have HVL := Lib.hid hvl
                      have HLEN := Lib.hid hlen
                      have HRP := Lib.hid hrp
                      have HMU2 := Lib.hid hmu2
                      obtain ⟨A2, c2, c0, c1⟩ := hP2.wd.c
                      have exitF : (bad2 || us2.isEmpty) = true → FinSt w b ob (opF t ws.tail) wr := fun he => by
                        have hr := HRP.out
                        rw [rdP_end (n := N) (s := (bad2, us2)) he] at hr
                        simp only [List.append_nil] at hr
                        rw [opF6 H6.out HRD2.out]
                        have hr' : rdP us.length (bad, us) = (ks, vs, bad2, us2) := by rw [HNL.out]; exact hr
                        simp only [hr']
                        refine ⟨KA, kc, VA, vc, ?_, fun W' _ hb => ?_⟩
                        rotate_left
                        · obtain ⟨A', c', e1, e2⟩ := FrS.of_own (ownsRow_keep HKR.out hb) HK4.out rfl
                          obtain ⟨A'', c'', e3, e4⟩ := IntS.of_own (ownsRow_keep HVR.out hb) rfl
                          cases e1
                          cases e3
                          exact ⟨(by show 0 < pw 4; decide), e2, e4⟩
                        rw [show opV' {op0 t l with ks := ks, vs := vs} KA kc VA vc = _ from opV0 t (l.getD 0 0) (l.getD 1 0) (l.getD 2 0) 0 ks vs KA kc VA vc, ← HL.out.1, ← HL.out.2.1, ← HL.out.2.2]
                        exact HP2.out
                      have HEX := Lib.hid exitF
                      clear hP2 hkr hvr hk4 hvl hlen hrp hmu2 exitF
                      cases us2 with
                      | nil =>
                        have hz0 : ([] : List ByteArray).length = 0 := rfl
                        rw [hz0] at c0
                        go_wp2_with fail
                        go_meet
                        case rel => exact HEX.out (by simp)
                      | cons s r =>
                        have hz1 : (s :: r).length = r.length + 1 := rfl
                        obtain ⟨q, hq⟩ : ∃ q, r.length = q := ⟨_, rfl⟩
                        rw [hz1, hq] at c0
                        have HQ := Lib.hid hq
                        have hq0 : (0 : Int) < ((q + 1 : Nat) : Int) := by omega
                        cases bad2 with
                        | true =>
                          go_wp2_with fail
                          go_meet
                          case rel => exact HEX.out (by simp)
                        | false =>
                          have hlc : lenC (wr.cell? ⟨b, 0, none⟩) = q + 1 := by rw [c0]; rfl
                          have HLC := Lib.hid hlc
                          have Pd := HP2.out.bel (Below.refl wr.heap.size wr).drew
                          have Rd := ownsRow_bel HKR.out (Below.refl wr.heap.size wr).drew
                          have Sd := ownsRow_bel HVR.out (Below.refl wr.heap.size wr).drew
                          have hs5 : s.size ≤ 50000000 := HMEM.out s (List.mem_of_mem_tail (HMU.out s (HMU2.out s (List.mem_cons_self ..))))
                          have D5 := wfield_any b false (s :: r) wr.drew Pd.wd (by show s.size ≤ _; omega)
                          obtain ⟨x, hx⟩ : ∃ x, x = (numB s).getD 0 := ⟨_, rfl⟩
                          have hhd : ((s :: r).headD ⟨#[]⟩) = s := rfl
                          have htl : (s :: r).tail = r := rfl
                          rw [hhd, htl, ← hx] at D5
                          obtain ⟨a0, a1, a2, a3, hfl⟩ := fl4 x
                          rw [hfl, lim4] at D5
                          have HFL := Lib.hid hfl
                          have hfc : frC x = [.int .u64 (a0 : Nat), .int .u64 (a1 : Nat), .int .u64 (a2 : Nat), .int .u64 (a3 : Nat)] := by unfold frC; rw [hfl]; rfl
                          have HFC := Lib.hid hfc
                          clear hfl hfc
                          obtain ⟨bd3, hbd3⟩ : ∃ x, x = (false || (numB s).isNone) := ⟨_, rfl⟩
                          rw [← hbd3] at D5
                          have DD := Lib.hid D5
                          have HX := Lib.hid hx
                          have HBD3 := Lib.hid hbd3
                          have hx4 : x < pw 4 := by rw [hx]; exact getD_lt s
                          have HX4 := Lib.hid hx4
                          clear D5 hx hbd3 hx4 hs5 hlc
                          go_upto_region 21 with fail
                          have HPD := Lib.hid Pd
                          have HRD3 := Lib.hid Rd
                          have HSD := Lib.hid Sd
                          have y9 : wr.cell? ⟨ob, 9, none⟩ = some (.slice KA ks.length kc) := (opV_c HP2.out.x).2.2.2.2.2.2.2.2.2.1
                          have y9d : wr.drew.cell? ⟨ob, 9, none⟩ = some (.slice KA ks.length kc) := y9
                          have hvb : ∀ g, (Value.slice KA ks.length kc).ownBlock = some g → ob + 1 ≤ g ∧ g < wr.drew.heap.size := fun g hg => Rd.lt g hg
                          have HVB := Lib.hid hvb
                          have hfr := frCs_snoc ks x
                          have hfx : (#[.int .u64 (a0 : Nat), .int .u64 (a1 : Nat), .int .u64 (a2 : Nat), .int .u64 (a3 : Nat)] : Array Value).size = 4 := rfl
                          have hfo : ∀ u ∈ (#[.int .u64 (a0 : Nat), .int .u64 (a1 : Nat), .int .u64 (a2 : Nat), .int .u64 (a3 : Nat)] : Array Value).toList, u.oneCell' = true := by simp [Value.oneCell']
                          have hxl : ks.length < 100000000 := by have := HLEN.out; have := HUL.out; omega
                          have hnr : ∀ g, (Value.slice VA vs.length vc).ownBlock = some g → g ≠ b := fun g hg e => by have := (Sd.lt g hg).1; have := Pd.hb; omega
                          have HNR := Lib.hid hnr
                          clear Pd Rd Sd hvb hnr
                          go_cut [74] from 61 to 87 (fun v W => PkCut w b ob t l0 l1 l2 (ks ++ [x]) vs bd3 r VA vs.length vc v W)
                          case first =>
                            go_region_law (first
                              | (refine step_app_row rfl (.tmp 75) (.tmp 78) 25 24 rfl #[.int .u64 (a0 : Nat), .int .u64 (a1 : Nat), .int .u64 (a2 : Nat), .int .u64 (a3 : Nat)] (by kernel_rfl) fr_info rfl (by decide) hfx hfo hxl (by decide) rfl rfl R6 (by have := P6.x.lt; omega) ?_
                                 intro g' cap' w8 hA
                                 have P8 := P6.app hA (fun j e => by have := (HVB.out j e).1; omega)
                                 have y8 : w8.cell? ⟨ob, 9, none⟩ = some (.slice KA ks.length kc) := (opV_c P8.x).2.2.2.2.2.2.2.2.2.1
                                 have f8 := P8.x.frozen 9)
                              | (go_simp; go_at_call 58
                                 refine (DD.out).mono ?_
                                 rintro e w6 ⟨rfl, hw6, q6⟩
                                 have P6 := HPD.out.only q6 hw6
                                 have R6 := ownsRow_only HRD3.out q6 (fun e => by have := (HVB.out _ e).1; have := HPD.out.hb; omega)
                                 have S6 := ownsRow_only HSD.out q6 (fun e => HNR.out _ e rfl)
                                 have y6 : w6.cell? ⟨ob, 9, none⟩ = some (.slice KA ks.length kc) := (opV_c P6.x).2.2.2.2.2.2.2.2.2.1
                                 have y6a : (w6.alloc (.cells #[.int .u64 (a0 : Nat), .int .u64 (a1 : Nat), .int .u64 (a2 : Nat), .int .u64 (a3 : Nat)] 24)).cell? ⟨ob, 9, none⟩ = some (.slice KA ks.length kc) := (opV_c (P6.x.alloc _)).2.2.2.2.2.2.2.2.2.1))
                            all_goals go_wp2_with fail
                            all_goals go_meet
                            all_goals case rel =>
                              refine ⟨some ⟨g', 0, none⟩, cap', ?_, ?_, ?_⟩
                              · have P9 := P8.set 9 (.slice (some ⟨g', 0, none⟩) (ks.length + 1) cap')
                                rw [List.length_append]
                                exact P9
                              · have R9 := ownsRow_set (i := 9) hA.row (Nat.lt_succ_self ob) (.slice (some ⟨g', 0, none⟩) (ks.length + 1) cap')
                                rw [hfr, HFC.out, List.length_append]
                                exact R9
                              · exact ownsRow_set (ownsRow_app hA S6 (fun g hg => row_apart R6 S6 (by decide) hg)) (Nat.lt_succ_self ob) _
                          case rest =>
                            obtain ⟨KA', kc', hP7, hR7, hS7⟩ := hcut
                            have hkl : (ks ++ [x]).length = ks.length + 1 := by simp
                            obtain ⟨kn, hkn⟩ : ∃ z, (ks ++ [x]).length = z := ⟨_, rfl⟩
                            rw [hkn] at hP7 hR7 hkl
                            have Pd := hP7.bel (Below.refl wc.heap.size wc).drew
                            have Rd := ownsRow_bel hR7 (Below.refl wc.heap.size wc).drew
                            have Sd := ownsRow_bel hS7 (Below.refl wc.heap.size wc).drew
                            have hr5 : (r.headD ⟨#[]⟩).size ≤ 50000000 := by
                              cases r with
                              | nil => exact Nat.zero_le _
                              | cons y r2 => exact HMEM.out y (List.mem_of_mem_tail (HMU.out y (HMU2.out y (List.mem_cons_of_mem _ (List.mem_cons_self ..)))))
                            have D6 := wsmall_any b bd3 r wc.drew Pd.wd (HE.out.below Pd.bl HE.out.lt) (by have := HE.out.lt; have := HB2.out; omega) (by omega)
                            obtain ⟨V, hV⟩ : ∃ v, v = (smallB (r.headD ⟨#[]⟩)).getD 0 := ⟨_, rfl⟩
                            obtain ⟨bd4, hbd4⟩ : ∃ v, v = (bd3 || (smallB (r.headD ⟨#[]⟩)).isNone) := ⟨_, rfl⟩
                            rw [← hV, ← hbd4] at D6
                            have DE := Lib.hid D6
                            have HV := Lib.hid hV
                            have HBD4 := Lib.hid hbd4
                            have HKN := Lib.hid (And.intro hkn hkl)
                            have y10 : wc.cell? ⟨ob, 10, none⟩ = some (.slice VA vs.length vc) := (opV_c hP7.x).2.2.2.2.2.2.2.2.2.2
                            have y10d : wc.drew.cell? ⟨ob, 10, none⟩ = some (.slice VA vs.length vc) := y10
                            have hvb2 : ∀ g, (Value.slice VA vs.length vc).ownBlock = some g → ob + 1 ≤ g ∧ g < wc.drew.heap.size := fun g hg => Sd.lt g hg
                            have hkb2 : ∀ g, (Value.slice KA' kn kc').ownBlock = some g → g ≠ b := fun g hg e => by have := (Rd.lt g hg).1; have := Pd.hb; omega
                            have HVB2 := Lib.hid hvb2
                            have HKB2 := Lib.hid hkb2
                            have HPE := Lib.hid Pd
                            have HRE := Lib.hid Rd
                            have HSE := Lib.hid Sd
                            have hix : (#[.int .i64 V] : Array Value).size = 1 := rfl
                            have hio : ∀ u ∈ (#[.int .i64 V] : Array Value).toList, u.oneCell' = true := by simp [Value.oneCell']
                            have hvl8 : vs.length < 100000000 := by have := HVL.out; omega
                            have hvs := intsV_snoc vs V
                            clear D6 hV hbd4 hkn hkl hvb2 hkb2 Pd Rd Sd hP7 hR7 hS7 hr5 y9 y9d hfx hfo hfr c0 c1
                            go_upto_region 22 with fail
                            go_region_law (first
                              | (refine step_app_row rfl (.tmp 82) (.tmp 85) 53 3 rfl #[.int .i64 V] (by kernel_rfl) int_info rfl (by decide) hix hio hvl8 (by decide) rfl rfl S6 (by have := P6.x.lt; omega) ?_
                                 intro g' cap' w8 hA
                                 have P8 := P6.app hA (fun j e => by have := (HVB2.out j e).1; omega)
                                 have y8 : w8.cell? ⟨ob, 10, none⟩ = some (.slice VA vs.length vc) := (opV_c P8.x).2.2.2.2.2.2.2.2.2.2
                                 have f8 := P8.x.frozen 10)
                              | (go_simp; go_at_call 59
                                 refine (DE.out).mono ?_
                                 rintro e w6 ⟨rfl, hw6, q6⟩
                                 have P6 := HPE.out.only q6 hw6
                                 have R6 := ownsRow_only HRE.out q6 (fun e => HKB2.out _ e rfl)
                                 have S6 := ownsRow_only HSE.out q6 (fun e => by have := (HVB2.out _ e).1; have := HPE.out.hb; omega)
                                 have y6 : w6.cell? ⟨ob, 10, none⟩ = some (.slice VA vs.length vc) := (opV_c P6.x).2.2.2.2.2.2.2.2.2.2
                                 have y6a : (w6.alloc (.cells #[.int .i64 V] 3)).cell? ⟨ob, 10, none⟩ = some (.slice VA vs.length vc) := (opV_c (P6.x.alloc _)).2.2.2.2.2.2.2.2.2.2))
                            all_goals go_wp2_with fail
                            all_goals (
                              have P9 := P8.set 10 (.slice (some ⟨g', 0, none⟩) (vs.length + 1) cap')
                              refine ⟨⟨ks ++ [x], vs ++ [V], bd4, r.tail, KA', kc', some ⟨g', 0, none⟩, cap', ?_, ?_, ?_, ?_, ?_, ?_, ?_, ?_⟩, ?_⟩
                              · rw [HKN.out.1, List.length_append]
                                exact P9
                              · rw [HKN.out.1]
                                exact ownsRow_set (ownsRow_app hA R6 (fun g hg => row_apart S6 R6 (by decide) hg)) (Nat.lt_succ_self ob) _
                              · rw [hvs, List.length_append]
                                exact ownsRow_set (i := 10) hA.row (Nat.lt_succ_self ob) _
                              · intro y hy
                                rcases List.mem_append.1 hy with h | h
                                · exact HK4.out y h
                                · rw [List.mem_singleton.1 h]; exact HX4.out
                              · rw [List.length_append, List.length_append, HVL.out]; rfl
                              · have h1 := HLEN.out
                                rw [List.length_append, List.length_tail]
                                simp only [List.length_cons, List.length_nil] at h1 ⊢
                                omega
                              · have h1 := HLEN.out
                                rw [HRP.out, rdP_step (N := N) (s := s) (r := r) (by simp only [List.length_cons] at h1; omega), ← HX.out, ← HBD3.out, ← HV.out, ← HBD4.out]
                                simp only [List.append_assoc, List.singleton_append]
                              · exact fun y hy => HMU2.out y (List.mem_cons_of_mem _ (List.mem_of_mem_tail hy))
                              · obtain ⟨A3, c3, d0, d1⟩ := P9.wd.c
                                rw [d0, HLC.out]
                                show r.tail.length < q + 1
                                have := HQ.out
                                rw [List.length_tail]
                                omega)
                  · have q3 : (t == 3) = false := beq_eq_false_iff_ne.2 h3
                    have q10 : (t == 10) = false := beq_eq_false_iff_ne.2 h10
                    have q6 : (t == 6) = false := beq_eq_false_iff_ne.2 h6
                    have H3 := Lib.hid h3
                    have H10 := Lib.hid h10
                    have H6 := Lib.hid h6
                    clear h3 h10 h6
                    go_wp2_with fail
                    go_meet
                    case rel =>
                      rw [opF0 H3.out H10.out H6.out HRD2.out]
                      exact ⟨none, 0, none, 0, (show opV' (op0 t l) none 0 none 0 = _ from opV0 t (l.getD 0 0) (l.getD 1 0) (l.getD 2 0) 0 [] [] none 0 none 0) ▸ HP.out, fun _ _ _ => ⟨(by show 0 < pw 4; decide), frS_nil _, intS_nil _⟩⟩
            case rest =>
              have hR : R = if finB (opF t ws.tail) then some (opF t ws.tail).1 else none := by rw [HOR.out, ← HHD.out, ← HST.out, tagOf_word HTR.out]
              generalize opF t ws.tail = r at hR hcut
              obtain ⟨⟨t', a, b', c, n', k, ks, vs⟩, bad', us'⟩ := r
              obtain ⟨KA, kc, VA, vc, hP, hin⟩ := hcut
              dsimp only at hP
              obtain ⟨V, hV⟩ : ∃ V, V = opV' ⟨t', a, b', c, n', k, ks, vs⟩ KA kc VA vc := ⟨_, rfl⟩
              have hVe := hV
              unfold opV' at hV
              dsimp only at hV
              rw [← hVe, hV] at hP
              generalize nth (fl k) 0 = k0 at *
              generalize nth (fl k) 1 = k1 at *
              generalize nth (fl k) 2 = k2 at *
              generalize nth (fl k) 3 = k3 at *
              have hpr : R.isSome = (!bad' && us'.isEmpty && opOk ⟨t', a, b', c, n', k, ks, vs⟩) := by
                rw [hR]
                show Option.isSome (if (!bad' && us'.isEmpty && opOk ⟨t', a, b', c, n', k, ks, vs⟩) = true then some (⟨t', a, b', c, n', k, ks, vs⟩ : OpD) else none) = _
                cases hq : (!bad' && us'.isEmpty && opOk ⟨t', a, b', c, n', k, ks, vs⟩) <;> rfl
              have hrd : ∀ d, R = some d → (⟨t', a, b', c, n', k, ks, vs⟩ : OpD) = d := by
                intro d hd
                rw [hR] at hd
                split at hd
                · exact Option.some.inj hd
                · cases hd
              go_upto_region 23 with fail
              have Pd := hP.bel (Below.refl wc.heap.size wc).drew
              obtain ⟨A2, c2, c0, c1⟩ := hP.wd.c
              have c0d : wc.drew.cell? ⟨b, 0, none⟩ = some (.slice A2 us'.length c2) := c0
              have c1d : wc.drew.cell? ⟨b, 1, none⟩ = some (.bool bad') := c1
              obtain ⟨x00, x01, x02, x03, x04, x05, x06, x07, x08, x09, x0a⟩ := opV_c hP.x
              obtain ⟨d00, d01, d02, d03, d04, d05, d06, d07, d08, d09, d0a⟩ := opV_c Pd.x
              obtain ⟨f0, f1, f2, f3, f4, f5, f6, f7, f8, f9, f10⟩ := opV_f hP.y
              obtain ⟨e0, e1, e2, e3, e4, e5, e6, e7, e8, e9, e10⟩ := opV_f Pd.y
              obtain ⟨v0, v1, v2, v3, v4, v5, v6, v7, v8, v9, v10⟩ := opV_c hP.y
              have hbz : ¬ b = w.heap.size := by have := HB2.out; omega
              have hobz : ¬ ob = w.heap.size := by have := HB2.out; have := Pd.hb; omega
              have HPD := Lib.hid Pd
              have HPC := Lib.hid hP
              have HIN := Lib.hid hin
              have HVE := Lib.hid hVe
              have HV := Lib.hid hV
              have HPR := Lib.hid hpr
              have HRD := Lib.hid hrd
              clear hP Pd hin hVe hV hpr hrd hR
              obtain ⟨q, hq⟩ : ∃ q, us'.length = q := ⟨_, rfl⟩
              rw [hq] at c0 c0d
              have HEV := Lib.hid (show OpE.v ⟨⟨t', a, b', c, n', k, ks, vs⟩, KA, kc, VA, vc⟩ = opV t' a b' c n' k0 k1 k2 k3 KA ks.length kc VA vs.length vc from HVE.out.symm.trans HV.out)
              have hch := op_chain HPC.out.y t' a b' c n' k0 k1 k2 k3 KA ks.length kc VA vs.length vc
              obtain ⟨C, hC⟩ : ∃ C, C = (((((((((((wc.setCell ⟨w.heap.size, 0, none⟩ (.int .i64 t')).setCell ⟨w.heap.size, 1, none⟩ (.int .i64 a)).setCell ⟨w.heap.size, 2, none⟩ (.int .i64 b')).setCell ⟨w.heap.size, 3, none⟩ (.int .i64 c)).setCell ⟨w.heap.size, 4, none⟩ (.int .i64 n')).setCell ⟨w.heap.size, 5, none⟩ (.int .u64 (k0 : Nat))).setCell ⟨w.heap.size, 6, none⟩ (.int .u64 (k1 : Nat))).setCell ⟨w.heap.size, 7, none⟩ (.int .u64 (k2 : Nat))).setCell ⟨w.heap.size, 8, none⟩ (.int .u64 (k3 : Nat))).setCell ⟨w.heap.size, 9, none⟩ (.slice KA ks.length kc)).setCell ⟨w.heap.size, 10, none⟩ (.slice VA vs.length vc)) := ⟨_, rfl⟩
              rw [← hC] at hch
              obtain ⟨hC1, hC2, hC3, hC4⟩ := hch
              have HC := Lib.hid hC
              have HC1 := Lib.hid hC1
              have HC2 := Lib.hid hC2
              have HC3 := Lib.hid hC3
              have HC4 := Lib.hid hC4
              clear hC hC1 hC2 hC3 hC4
              have hfinA : OpInA w.heap.size C.drew ⟨⟨t', a, b', c, n', k, ks, vs⟩, KA, kc, VA, vc⟩ :=
                HIN.out.to (W' := C.drew) (by have := HB2.out; have := HPC.out.hb; omega) (by show wc.heap.size ≤ C.heap.size; rw [HC2.out]; exact Nat.le_refl _) (fun j h1 h2 => HC3.out j (by have := HB2.out; have := HPC.out.hb; omega))
              have HFA := Lib.hid hfinA
              have hfinB : Below w.heap.size w C.drew := (HPC.out.bl.trans (HC4.out _ (Nat.le_refl _))).drew
              have HFB := Lib.hid hfinB
              clear hfinA hfinB
              have HQ2 := Lib.hid hq
              clear hq
              cases bad' with
              | true =>
                first | go_region_law (fail) | fail
                all_goals go_wp2_with fail
                all_goals (
                  rw [← HC.out]
                  refine bodyPost_ret (results_op rfl _ rfl HC1.out.drew) rfl ⟨⟨⟨t', a, b', c, n', k, ks, vs⟩, KA, kc, VA, vc⟩, ?_, HFA.out, HRD.out, HFB.out⟩
                  rw [HEV.out, HPR.out]
                  rfl)
              | false =>
                by_cases hq0 : q = 0
                · subst hq0
                  have hus : us' = [] := List.eq_nil_of_length_eq_zero HQ2.out
                  have I1 : OpIn wc.drew ⟨⟨t', a, b', c, n', k, ks, vs⟩, KA, kc, VA, vc⟩ := HIN.out _ (Nat.le_refl _) fun _ _ _ => rfl
                  have I2 : OpIn (((((((((((wc.setCell ⟨w.heap.size, 0, none⟩ (.int .i64 t')).setCell ⟨w.heap.size, 1, none⟩ (.int .i64 a)).setCell ⟨w.heap.size, 2, none⟩ (.int .i64 b')).setCell ⟨w.heap.size, 3, none⟩ (.int .i64 c)).setCell ⟨w.heap.size, 4, none⟩ (.int .i64 n')).setCell ⟨w.heap.size, 5, none⟩ (.int .u64 (k0 : Nat))).setCell ⟨w.heap.size, 6, none⟩ (.int .u64 (k1 : Nat))).setCell ⟨w.heap.size, 7, none⟩ (.int .u64 (k2 : Nat))).setCell ⟨w.heap.size, 8, none⟩ (.int .u64 (k3 : Nat))).setCell ⟨w.heap.size, 9, none⟩ (.slice KA ks.length kc)).setCell ⟨w.heap.size, 10, none⟩ (.slice VA vs.length vc)).drew ⟨⟨t', a, b', c, n', k, ks, vs⟩, KA, kc, VA, vc⟩ := by rw [← HC.out]; exact HFA.out.out
                  have hD : ∀ W : World, OpIn W ⟨⟨t', a, b', c, n', k, ks, vs⟩, KA, kc, VA, vc⟩ → Calls Tryd.prog 27 #[.agg (opV t' a b' c n' k0 k1 k2 k3 KA ks.length kc VA vs.length vc)] W fun e w' => e = .returned (.bool (opOk ⟨t', a, b', c, n', k, ks, vs⟩)) ∧ Below W.heap.size W w' := by
                    intro W H
                    rw [← HEV.out]
                    exact op_any _ KA kc VA vc W H.k H.ks H.vs
                  have D := Lib.hid hD
                  have HI1 := Lib.hid I1
                  have HI2 := Lib.hid I2
                  have HUS := Lib.hid hus
                  obtain ⟨ok, hok⟩ : ∃ x, opOk ⟨t', a, b', c, n', k, ks, vs⟩ = x := ⟨_, rfl⟩
                  rw [hok] at D
                  have HOK := Lib.hid hok
                  clear hD I1 I2 hus hok
                  first | go_region_law (first
                    | (go_simp; go_at_call 27
                       refine (D.out _ HI1.out).mono ?_
                       rintro e w6 ⟨rfl, b6⟩
                       have P6 := HPD.out.bel b6
                       obtain ⟨x60, x61, x62, x63, x64, x65, x66, x67, x68, x69, x6a⟩ := opV_c P6.x
                       obtain ⟨f60, f61, f62, f63, f64, f65, f66, f67, f68, f69, f6a⟩ := opV_f P6.y
                       obtain ⟨v60, v61, v62, v63, v64, v65, v66, v67, v68, v69, v6a⟩ := opV_c P6.y)
                    | (go_simp; go_at_call 27
                       refine (D.out _ HI2.out).mono ?_
                       rintro e w6 ⟨rfl, b6⟩))
                  all_goals go_wp2_with fail
                  all_goals first
                    | (have h6 := op_chain P6.y t' a b' c n' k0 k1 k2 k3 KA ks.length kc VA vs.length vc
                       have hA : OpInA w.heap.size (((((((((((w6.setCell ⟨w.heap.size, 0, none⟩ (.int .i64 t')).setCell ⟨w.heap.size, 1, none⟩ (.int .i64 a)).setCell ⟨w.heap.size, 2, none⟩ (.int .i64 b')).setCell ⟨w.heap.size, 3, none⟩ (.int .i64 c)).setCell ⟨w.heap.size, 4, none⟩ (.int .i64 n')).setCell ⟨w.heap.size, 5, none⟩ (.int .u64 (k0 : Nat))).setCell ⟨w.heap.size, 6, none⟩ (.int .u64 (k1 : Nat))).setCell ⟨w.heap.size, 7, none⟩ (.int .u64 (k2 : Nat))).setCell ⟨w.heap.size, 8, none⟩ (.int .u64 (k3 : Nat))).setCell ⟨w.heap.size, 9, none⟩ (.slice KA ks.length kc)).setCell ⟨w.heap.size, 10, none⟩ (.slice VA vs.length vc)) ⟨⟨t', a, b', c, n', k, ks, vs⟩, KA, kc, VA, vc⟩ :=
                         HIN.out.to (by have := HB2.out; have := HPC.out.hb; omega) (by rw [h6.size]; exact b6.size) (fun j h1 h2 => (h6.far j (by have := HB2.out; have := HPC.out.hb; omega)).trans (b6.block j h2))
                       have hB : Below w.heap.size w (((((((((((w6.setCell ⟨w.heap.size, 0, none⟩ (.int .i64 t')).setCell ⟨w.heap.size, 1, none⟩ (.int .i64 a)).setCell ⟨w.heap.size, 2, none⟩ (.int .i64 b')).setCell ⟨w.heap.size, 3, none⟩ (.int .i64 c)).setCell ⟨w.heap.size, 4, none⟩ (.int .i64 n')).setCell ⟨w.heap.size, 5, none⟩ (.int .u64 (k0 : Nat))).setCell ⟨w.heap.size, 6, none⟩ (.int .u64 (k1 : Nat))).setCell ⟨w.heap.size, 7, none⟩ (.int .u64 (k2 : Nat))).setCell ⟨w.heap.size, 8, none⟩ (.int .u64 (k3 : Nat))).setCell ⟨w.heap.size, 9, none⟩ (.slice KA ks.length kc)).setCell ⟨w.heap.size, 10, none⟩ (.slice VA vs.length vc)) := P6.bl.trans (h6.bel _ (Nat.le_refl _))
                       have hbk := h6.bk
                       generalize (((((((((((w6.setCell ⟨w.heap.size, 0, none⟩ (.int .i64 t')).setCell ⟨w.heap.size, 1, none⟩ (.int .i64 a)).setCell ⟨w.heap.size, 2, none⟩ (.int .i64 b')).setCell ⟨w.heap.size, 3, none⟩ (.int .i64 c)).setCell ⟨w.heap.size, 4, none⟩ (.int .i64 n')).setCell ⟨w.heap.size, 5, none⟩ (.int .u64 (k0 : Nat))).setCell ⟨w.heap.size, 6, none⟩ (.int .u64 (k1 : Nat))).setCell ⟨w.heap.size, 7, none⟩ (.int .u64 (k2 : Nat))).setCell ⟨w.heap.size, 8, none⟩ (.int .u64 (k3 : Nat))).setCell ⟨w.heap.size, 9, none⟩ (.slice KA ks.length kc)).setCell ⟨w.heap.size, 10, none⟩ (.slice VA vs.length vc)) = C6 at *
                       refine bodyPost_ret (results_op rfl _ rfl (by first | exact hbk | exact hbk.drew)) rfl ⟨⟨⟨t', a, b', c, n', k, ks, vs⟩, KA, kc, VA, vc⟩, ?_, hA, HRD.out, (by first | exact hB | exact hB.drew)⟩
                       rw [HEV.out, HPR.out, HUS.out, HOK.out]
                       rfl)
                    | (rw [← HC.out] at b6
                       have hA : OpInA w.heap.size w6 ⟨⟨t', a, b', c, n', k, ks, vs⟩, KA, kc, VA, vc⟩ :=
                         HFA.out.to' b6
                       have hB : Below w.heap.size w w6 := HFB.out.trans (b6.mono HFB.out.size)
                       have hbk := HC1.out.drew.bel b6
                       refine bodyPost_ret (results_op rfl _ rfl (by first | exact hbk | exact hbk.drew)) rfl ⟨⟨⟨t', a, b', c, n', k, ks, vs⟩, KA, kc, VA, vc⟩, ?_, hA, HRD.out, (by first | exact hB | exact hB.drew)⟩
                       rw [HEV.out, HPR.out, HUS.out, HOK.out]
                       rfl)
                    | trace_state
                · have hqb : (((q : Nat) : Int) == 0) = false := beq_eq_false_iff_ne.2 (by omega)
                  have hue : us'.isEmpty = false := by
                    cases us' with
                    | nil => exact absurd HQ2.out.symm hq0
                    | cons => rfl
                  have HUE := Lib.hid hue
                  clear hue hq0
                  first | go_region_law (fail) | fail
                  all_goals go_wp2_with fail
                  all_goals (
                    rw [← HC.out]
                    refine bodyPost_ret (results_op rfl _ rfl HC1.out.drew) rfl ⟨⟨⟨t', a, b', c, n', k, ks, vs⟩, KA, kc, VA, vc⟩, ?_, HFA.out, HRD.out, HFB.out⟩
                    rw [HEV.out, HPR.out, HUE.out]
                    rfl)
end Go.Proofs.YtdilgmokiclfaaaDoor
