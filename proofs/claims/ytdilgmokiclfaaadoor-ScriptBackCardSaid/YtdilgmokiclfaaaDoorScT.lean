/- Chapter 24: a plan that came in, opened. -/
import Derived.Test.YtdilgmokiclfaaaDoorScF
import Derived.Deep.Slices
import Derived.Deep.Strs
import Derived.Lib.SmallJoins
import Derived.OpenShut
import Derived.ProofKit
import Derived.ChangeOld
namespace Go.Proofs.YtdilgmokiclfaaaDoor
open Go.ChangeShapes Go.WideShapes Go.RowKit Go.Deep
set_option linter.unusedVariables false
set_option maxRecDepth 100000

theorem add_flat2 (b off j : Nat) : (⟨b, off, none⟩ : Addr).add j = ⟨b, off + j, none⟩ := by unfold Addr.add; split <;> simp_all
section
variable {H : Type} {enc : TypeId × Value → H} {W : World} {base : Nat} {sp : Nat → Bool} {held : Bool}
/-- A slice whose elements take k cells, opened. -/
theorem rows_of_trod {α : Type} [Inhabited α] {t e : TypeId} {k : Nat} (f : α → List Value) (Q : α → Prop) (ht : Tryd.prog.underlying t = some (.slice e)) (ce : Tryd.prog.cellsOf e = k) (hk : 0 < k) (hfl : ∀ a, (f a).length = k)
    (each : ∀ (n : Nat) (cs : List Value) (y : DataW H × List MemPlace), DataW.trod enc Tryd.prog W base sp held n e cs = some y → ∃ a, cs = f a ∧ Q a)
    {fuel : Nat} {v : Value} {y : DataW H × List MemPlace} (h : DataW.trod enc Tryd.prog W base sp held fuel t [v] = some y) :
    ∃ (A : Option Addr) (n c : Nat) (xs : List α), v = .slice A n c ∧ xs.length = n ∧ n ≤ c ∧ c ≤ maxLen ∧ (∀ a ∈ xs, Q a) ∧ Rws W A k (xs.map f) := by
  rcases open_slice ht h with ⟨hcs, _⟩ | ⟨x, l, c, m, nn, D, Pl', hcs, hb, hl, hm, hmm, _, hx⟩
  · simp only [List.cons.injEq, and_true] at hcs
    exact ⟨none, 0, 0, [], hcs, rfl, Nat.le_refl _, Nat.zero_le _, fun a ha => (by cases ha), fun hp => absurd hp (Nat.lt_irrefl 0)⟩
  · simp only [List.cons.injEq, and_true] at hcs
    have hml : l ≤ m := by rw [hmm]; split <;> omega
    have each' : ∀ i, i < l → ∃ a : α, Q a ∧ ∀ j, j < k → W.cell? ((x.add (i * k)).add j) = (f a)[j]? := by
      intro i hi
      obtain ⟨cs', h1, h2⟩ := hx i (by omega)
      rw [ce] at h1
      obtain ⟨_, hlen, hcell⟩ := World.cells?_some h1
      obtain ⟨a, rfl, hq⟩ := each nn cs' _ h2
      exact ⟨a, hq, hcell⟩
    obtain ⟨q, hq⟩ := choose_lt each'
    refine ⟨some x, l, c, (List.range l).map q, hcs, by simp, hl, hm, fun a ha => ?_, fun hp => ?_⟩
    · obtain ⟨i, hi, rfl⟩ := List.mem_map.1 ha
      exact (hq i (List.mem_range.1 hi)).1
    · have hpl : 0 < l := by simpa using hp
      obtain ⟨b, off, spot⟩ := x
      have hc0 := (hq 0 hpl).2 0 hk
      obtain ⟨v0, hv0⟩ : ∃ v0, (f (q 0))[0]? = some v0 := ⟨_, List.getElem?_eq_getElem (by rw [hfl]; exact hk)⟩
      rw [hv0] at hc0
      have hspot : spot = none := by
        have := World.cell?_spot hc0
        simpa [Addr.add] using this
      subst hspot
      refine ⟨b, off, rfl, ?_, fun i hi j v hj => ?_⟩
      · have := World.block_lt_of_cell? _ _ hc0
        simpa [Addr.add] using this
      · have hil : i < l := by simpa using hi
        have e1 : ((List.range l).map q).map f = (List.range l).map fun i => f (q i) := by rw [List.map_map]; rfl
        simp only [e1, List.getElem_map, List.getElem_range] at hj
        have hjk : j < k := by
          have := (List.getElem?_eq_some_iff.1 hj).1
          rwa [hfl] at this
        have := (hq i hil).2 j hjk
        rw [add_flat2, add_flat2] at this
        exact this.trans hj
theorem fr_of_trod {n : Nat} {cs : List Value} {y : DataW H × List MemPlace} (h : DataW.trod enc Tryd.prog W base sp held n 24 cs = some y) : ∃ v, cs = frC v ∧ v < pw 4 := by
  obtain ⟨xs, m, rfl, _, hl, hn, hi⟩ := DataW.trod_array Tryd.underlying24 h
  have ce : Tryd.prog.cellsOf 22 = 1 := by kernel_rfl
  have cf : Tryd.prog.cellsOf 24 = 4 := by kernel_rfl
  rw [cf] at hl
  match cs, hl with
  | [c0, c1, c2, c3], _ =>
    have one : ∀ i c, i < 4 → (([c0, c1, c2, c3] : List Value).drop i).take 1 = [c] → ∃ z : Nat, c = .int .u64 (z : Int) ∧ z < 18446744073709551616 := by
      intro i c hi4 hc
      have h1 := hi i (by omega)
      rw [ce, Nat.mul_one, hc, List.getElem?_eq_getElem (by omega)] at h1
      obtain ⟨z, hz1, _, hz3⟩ := DataW.trod_int Tryd.underlying22 h1
      simp only [List.cons.injEq, and_true] at hz1
      have hb := bounds_u64 hz3
      obtain ⟨z', rfl⟩ := Int.eq_ofNat_of_zero_le hb.1
      exact ⟨z', hz1, by omega⟩
    obtain ⟨z0, rfl, h0⟩ := one 0 c0 (by omega) rfl
    obtain ⟨z1, rfl, h1⟩ := one 1 c1 (by omega) rfl
    obtain ⟨z2, rfl, h2⟩ := one 2 c2 (by omega) rfl
    obtain ⟨z3, rfl, h3⟩ := one 3 c3 (by omega) rfl
    have ok : Ok [z0, z1, z2, z3] := Ok.cons h0 (Ok.cons h1 (Ok.cons h2 (Ok.cons h3 Ok.nil)))
    refine ⟨val [z0, z1, z2, z3], ?_, val_lt ok⟩
    unfold frC
    rw [← fl_of (zs := [z0, z1, z2, z3]) rfl ok rfl]
    rfl
theorem frs_of_trod {n : Nat} {v : Value} {y : DataW H × List MemPlace} (h : DataW.trod enc Tryd.prog W base sp held n 25 [v] = some y) : ∃ A n c xs, v = .slice A n c ∧ FrS W A n c xs := by
  obtain ⟨A, n, c, xs, h1, h2, h3, h4, h5, h6⟩ := rows_of_trod (k := 4) frC (fun v => v < pw 4) Tryd.underlying25 (by kernel_rfl) (by decide) frC_len (fun _ _ _ h => fr_of_trod h) h
  exact ⟨A, n, c, xs, h1, h2, h3, h4, h5, h6⟩
theorem int_of_trod {n : Nat} {cs : List Value} {y : DataW H × List MemPlace} (h : DataW.trod enc Tryd.prog W base sp held n 3 cs = some y) : ∃ z : Int, cs = [.int .i64 z] ∧ True := by
  obtain ⟨z, hz, _⟩ := DataW.trod_int Tryd.underlying3 h
  exact ⟨z, hz, trivial⟩
theorem ints_of_trod {n : Nat} {v : Value} {y : DataW H × List MemPlace} (h : DataW.trod enc Tryd.prog W base sp held n 53 [v] = some y) : ∃ A n c zs, v = .slice A n c ∧ IntS W A n c zs := by
  obtain ⟨A, n, c, zs, h1, h2, h3, h4, _, h6⟩ := rows_of_trod (k := 1) (fun z : Int => [Value.int .i64 z]) (fun _ => True) Tryd.underlying53 (by kernel_rfl) (by decide) (fun _ => rfl) (fun _ _ _ h => int_of_trod h) h
  refine ⟨A, n, c, zs, h1, h2, h3, h4, fun hp => ?_⟩
  obtain ⟨b, off, e1, e2, e3⟩ := h6 (by simpa using hp)
  refine ⟨b, off, e1, e2, fun i hi => ?_⟩
  have := e3 i (by simpa using hi) 0 (.int .i64 zs[i]) (by simp)
  simpa using this
theorem op_of_trod {n : Nat} {cs : List Value} {y : DataW H × List MemPlace} (h : DataW.trod enc Tryd.prog W base sp held n 55 cs = some y) : ∃ e : OpE, cs = e.v.toList ∧ OpIn W e := by
  obtain ⟨xs, m, rfl, _, hl, hn, hf⟩ := DataW.trod_struct Tryd.underlying55 h
  have ci : Tryd.prog.cellsOf 3 = 1 := by kernel_rfl
  have cf : Tryd.prog.cellsOf 24 = 4 := by kernel_rfl
  have c1 : Tryd.prog.cellsOf 25 = 1 := by kernel_rfl
  have c2 : Tryd.prog.cellsOf 53 = 1 := by kernel_rfl
  have co : Tryd.prog.cellsOf 55 = 11 := by kernel_rfl
  rw [co] at hl
  have hn8 : xs.length = 8 := hn
  match cs, hl with
  | [a0, a1, a2, a3, a4, a5, a6, a7, a8, a9, a10], _ =>
    have g0 : DataW.trod enc Tryd.prog W base sp held m 3 ((([a0, a1, a2, a3, a4, a5, a6, a7, a8, a9, a10] : List Value).drop 0).take (Tryd.prog.cellsOf 3)) = xs[0]? := hf 0 _ rfl
    have g1 : DataW.trod enc Tryd.prog W base sp held m 3 ((([a0, a1, a2, a3, a4, a5, a6, a7, a8, a9, a10] : List Value).drop 1).take (Tryd.prog.cellsOf 3)) = xs[1]? := hf 1 _ rfl
    have g2 : DataW.trod enc Tryd.prog W base sp held m 3 ((([a0, a1, a2, a3, a4, a5, a6, a7, a8, a9, a10] : List Value).drop 2).take (Tryd.prog.cellsOf 3)) = xs[2]? := hf 2 _ rfl
    have g3 : DataW.trod enc Tryd.prog W base sp held m 3 ((([a0, a1, a2, a3, a4, a5, a6, a7, a8, a9, a10] : List Value).drop 3).take (Tryd.prog.cellsOf 3)) = xs[3]? := hf 3 _ rfl
    have g4 : DataW.trod enc Tryd.prog W base sp held m 3 ((([a0, a1, a2, a3, a4, a5, a6, a7, a8, a9, a10] : List Value).drop 4).take (Tryd.prog.cellsOf 3)) = xs[4]? := hf 4 _ rfl
    have g5 : DataW.trod enc Tryd.prog W base sp held m 24 ((([a0, a1, a2, a3, a4, a5, a6, a7, a8, a9, a10] : List Value).drop 5).take (Tryd.prog.cellsOf 24)) = xs[5]? := hf 5 _ rfl
    have g6 : DataW.trod enc Tryd.prog W base sp held m 25 ((([a0, a1, a2, a3, a4, a5, a6, a7, a8, a9, a10] : List Value).drop 9).take (Tryd.prog.cellsOf 25)) = xs[6]? := hf 6 _ rfl
    have g7 : DataW.trod enc Tryd.prog W base sp held m 53 ((([a0, a1, a2, a3, a4, a5, a6, a7, a8, a9, a10] : List Value).drop 10).take (Tryd.prog.cellsOf 53)) = xs[7]? := hf 7 _ rfl
    rw [ci, List.getElem?_eq_getElem (by omega)] at g0 g1 g2 g3 g4
    rw [cf, List.getElem?_eq_getElem (by omega)] at g5
    rw [c1, List.getElem?_eq_getElem (by omega)] at g6
    rw [c2, List.getElem?_eq_getElem (by omega)] at g7
    simp only [List.drop_succ_cons, List.drop_zero, List.take_succ_cons, List.take_zero] at g0 g1 g2 g3 g4 g5 g6 g7
    obtain ⟨z0, e0, _⟩ := int_of_trod g0
    obtain ⟨z1, e1, _⟩ := int_of_trod g1
    obtain ⟨z2, e2, _⟩ := int_of_trod g2
    obtain ⟨z3, e3, _⟩ := int_of_trod g3
    obtain ⟨z4, e4, _⟩ := int_of_trod g4
    obtain ⟨k, e5, hk⟩ := fr_of_trod g5
    obtain ⟨KA, kn, kc, ks, e6, hK⟩ := frs_of_trod g6
    obtain ⟨VA, vn, vc, vs, e7, hV⟩ := ints_of_trod g7
    simp only [List.cons.injEq, and_true] at e0 e1 e2 e3 e4
    subst e0 e1 e2 e3 e4 e6 e7
    have hkl := hK.len
    have hvl := hV.len
    subst hkl hvl
    refine ⟨⟨⟨z0, z1, z2, z3, z4, k, ks, vs⟩, KA, kc, VA, vc⟩, ?_, hk, hK, hV⟩
    have e5' : [a5, a6, a7, a8] = [.int .u64 (nth (fl k) 0 : Nat), .int .u64 (nth (fl k) 1 : Nat), .int .u64 (nth (fl k) 2 : Nat), .int .u64 (nth (fl k) 3 : Nat)] := e5
    simp only [List.cons.injEq, and_true] at e5'
    obtain ⟨q0, q1, q2, q3⟩ := e5'
    subst q0 q1 q2 q3
    rfl
instance : Inhabited OpE := ⟨⟨⟨0, 0, 0, 0, 0, 0, [], []⟩, none, 0, none, 0⟩⟩
theorem ops_of_trod {n : Nat} {v : Value} {y : DataW H × List MemPlace} (h : DataW.trod enc Tryd.prog W base sp held n 26 [v] = some y) : ∃ A n c es, v = .slice A n c ∧ OpsS W A n c es := by
  obtain ⟨A, n, c, es, h1, h2, h3, h4, h5, h6⟩ := rows_of_trod (k := 11) (fun e : OpE => e.v.toList) (OpIn W) Tryd.underlying26 (by kernel_rfl) (by decide) (fun _ => rfl) (fun _ _ _ h => op_of_trod h) h
  exact ⟨A, n, c, es, h1, h2, h3, h4, h5, h6⟩
/-- A plan, opened. -/
theorem open_plan {r : Reach} {b0 : Nat} {v : Value} {d : DataW H} {p : List MemPlace} (hv : Value.okWide Tryd.prog W r b0 28 v) (h : DataW.Trod enc Tryd.prog W base sp held 28 v d p) :
    ∃ q : PlD, v = .agg (plV q) ∧ PlIn W q := by
  obtain ⟨cs, rfl, hsz⟩ := okWide_struct Tryd.underlying28 hv
  obtain ⟨fuel, hf0⟩ := h
  obtain ⟨xs, m, rfl, _, hl, hn, hf⟩ := DataW.trod_struct Tryd.underlying28 hf0
  have cf : Tryd.prog.cellsOf 24 = 4 := by kernel_rfl
  have c1 : Tryd.prog.cellsOf 25 = 1 := by kernel_rfl
  have c2 : Tryd.prog.cellsOf 26 = 1 := by kernel_rfl
  have co : Tryd.prog.cellsOf 28 = 7 := by kernel_rfl
  rw [co] at hl
  have hn4 : xs.length = 4 := hn
  obtain ⟨l⟩ := cs
  have hcells : (Value.agg ⟨l⟩).cells.toList = l := rfl
  rw [hcells] at hl hf
  match l, hl with
  | [a0, a1, a2, a3, a4, a5, a6], _ =>
    have g0 : DataW.trod enc Tryd.prog W base sp held m 24 ((([a0, a1, a2, a3, a4, a5, a6] : List Value).drop 0).take (Tryd.prog.cellsOf 24)) = xs[0]? := hf 0 _ rfl
    have g1 : DataW.trod enc Tryd.prog W base sp held m 25 ((([a0, a1, a2, a3, a4, a5, a6] : List Value).drop 4).take (Tryd.prog.cellsOf 25)) = xs[1]? := hf 1 _ rfl
    have g2 : DataW.trod enc Tryd.prog W base sp held m 26 ((([a0, a1, a2, a3, a4, a5, a6] : List Value).drop 5).take (Tryd.prog.cellsOf 26)) = xs[2]? := hf 2 _ rfl
    have g3 : DataW.trod enc Tryd.prog W base sp held m 25 ((([a0, a1, a2, a3, a4, a5, a6] : List Value).drop 6).take (Tryd.prog.cellsOf 25)) = xs[3]? := hf 3 _ rfl
    rw [cf, List.getElem?_eq_getElem (by omega)] at g0
    rw [c1, List.getElem?_eq_getElem (by omega)] at g1 g3
    rw [c2, List.getElem?_eq_getElem (by omega)] at g2
    simp only [List.drop_succ_cons, List.drop_zero, List.take_succ_cons, List.take_zero] at g0 g1 g2 g3
    obtain ⟨tau, e0, ht⟩ := fr_of_trod g0
    obtain ⟨BA, bn, bc, bs, e1, hB⟩ := frs_of_trod g1
    obtain ⟨OA, on, oc, os, e2, hO⟩ := ops_of_trod g2
    obtain ⟨IA, iN, ic, is, e3, hI⟩ := frs_of_trod g3
    subst e1 e2 e3
    have l1 := hB.len
    have l2 := hO.len
    have l3 := hI.len
    subst l1 l2 l3
    refine ⟨⟨tau, BA, bc, bs, OA, oc, os, IA, ic, is⟩, ?_, ht, hB, hO, hI⟩
    have e0' : [a0, a1, a2, a3] = [.int .u64 (nth (fl tau) 0 : Nat), .int .u64 (nth (fl tau) 1 : Nat), .int .u64 (nth (fl tau) 2 : Nat), .int .u64 (nth (fl tau) 3 : Nat)] := e0
    simp only [List.cons.injEq, and_true] at e0'
    obtain ⟨q0, q1, q2, q3⟩ := e0'
    subst q0 q1 q2 q3
    rfl
end
end Go.Proofs.YtdilgmokiclfaaaDoor
