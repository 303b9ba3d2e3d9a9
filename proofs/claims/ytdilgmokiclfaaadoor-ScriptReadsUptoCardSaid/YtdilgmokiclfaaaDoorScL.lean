/- Chapter 24: lines of words; Itoa, Join, String; Print's closures. -/
import Derived.Test.YtdilgmokiclfaaaDoorScH
import Derived.Test.YtdilgmokiclfaaaDoorScJ
import Derived.Test.YtdilgmokiclfaaaDoorScK
import Derived.Test.YtdilgmokiclfaaaDoorShelf
import Derived.Lib.SmallJoins
import Derived.Lib.Join
import Derived.Lib.ItoaLen
import Derived.Deep.AppendLies
namespace Go.Proofs.YtdilgmokiclfaaaDoor
open Go.RowKit
set_option linter.unusedVariables false
set_option maxRecDepth 100000

def Pow (w : World) : Prop := Lib.TabIs Tryd.prog w "internal/strconv.uint64pow10" .u64 Lib.pow10Tab
theorem pow_g : ∃ g, Tryd.prog.globalNamed "internal/strconv.uint64pow10" = some g := by
  have h : (Tryd.prog.globalNamed "internal/strconv.uint64pow10").isSome = true := by kernel_rfl
  exact Option.isSome_iff_exists.1 h
theorem Pow.below {w w' : World} {B : Nat} (h : Pow w) (hb : Below B w w') (hB : w.heap.size ≤ B) : Pow w' := by
  obtain ⟨g, hg⟩ := pow_g
  exact Joins.tab_stays hg h hb hB
theorem Pow.bel {w w' : World} (h : Pow w) (hb : Below w.heap.size w w') : Pow w' := h.below hb (Nat.le_refl _)
def itB (z : Int) : ByteArray := ⟨(Lib.itoa z).toArray⟩
theorem below_drewN_grow (w : World) (k : Nat) (os : Array Obj) : Below w.heap.size w (Sort.grow (w.drewN k) os) := by
  have h1 : Below w.heap.size w (w.drewN k) := by
    induction k with
    | zero => exact Below.refl _ _
    | succ k ih => exact ih.drew
  have h2 : Below w.heap.size (w.drewN k) (Sort.grow (w.drewN k) os) := by
    refine ⟨rfl, rfl, rfl, by simp [Sort.grow], fun j hj => ?_⟩
    have hj' : j < (w.drewN k).heap.size := by simpa using hj
    simp only [Sort.grow]
    rw [Array.getElem?_append_left hj']
  exact h1.trans h2
theorem itoa_any (z : Int) (w : World) (hp : Pow w) (hz : inB z = true) :
    Calls Tryd.prog 48 #[.int .i64 z] w fun e w' => e = .returned (.string (itB z)) ∧ Below w.heap.size w w' := by
  have h : 0 ≤ z ∧ z ≤ 1000000 := by simpa [inB] using hz
  refine (Tryd.strconv_Itoa z (by omega) (by omega) w hp).mono ?_
  rintro e w' ⟨rfl, k, os, rfl⟩
  exact ⟨rfl, below_drewN_grow w k os⟩
theorem itB_size (z : Int) (hz : inB z = true) : (itB z).size ≤ 21 := by
  have h : 0 ≤ z ∧ z ≤ 1000000 := by simpa [inB] using hz
  have := Lib.itoa_length_le z (by omega) (by omega)
  simpa [itB, ByteArray.size] using this
theorem ownsRow_bel {w w' : World} {B size n : Nat} {e : TypeId} {v : Value} {xs : List Value} (h : w.ownsRow B e size v n xs) (hb : Below w.heap.size w w') : w'.ownsRow B e size v n xs := by
  obtain ⟨hl, h⟩ := h
  refine ⟨hl, ?_⟩
  rcases h with h | ⟨g, cap, cur, hv, hg, hbk, h1, h2, h3, h4⟩
  · exact .inl h
  · exact .inr ⟨g, cap, cur, hv, hg, (hb.block g (Array.getElem?_eq_some_iff.1 hbk).1).trans hbk, h1, h2, h3, h4⟩
theorem bdAt_bel {w w' : World} {B b : Nat} {p : Value} {xs : List Value} (h : Lib.BuilderAt 42 5 B b p xs w) (hb : Below w.heap.size w w') : Lib.BuilderAt 42 5 B b p xs w' := by
  have hlt := h.lt
  obtain ⟨hB, v, hbk, hown, hne⟩ := h
  exact ⟨hB, v, (hb.block b hlt).trans hbk, ownsRow_bel hown hb, hne⟩
theorem Bd.bel {w w' : World} {B b : Nat} {bs : List Nat} (h : Bd B b bs w) (hb : Below w.heap.size w w') : Bd B b bs w' :=
  h.elim (fun h => .inl (bdAt_bel h hb)) (fun h => .inr (bdAt_bel h hb))
/-- The rest of a line, word by word. -/
def accB (s : ByteArray) : List ByteArray → ByteArray
  | [] => s
  | x :: r => accB (s ++ ⟨#[32]⟩ ++ x) r
theorem accB_append (s : ByteArray) (a b : List ByteArray) : accB s (a ++ b) = accB (accB s a) b := by
  induction a generalizing s with
  | nil => rfl
  | cons x r ih => exact ih _
def joinB (ws : List ByteArray) : ByteArray := ⟨(Lib.join (ws.map (·.data.toList)) [32]).toArray⟩
theorem ba_ext {a b : ByteArray} (h : a.data.toList = b.data.toList) : a = b := by
  cases a; cases b
  simp only [ByteArray.mk.injEq] at *
  exact Array.ext' h
theorem accB_data (s : ByteArray) (r : List ByteArray) : (accB s r).data.toList = s.data.toList ++ Lib.joinTail [32] (r.map (·.data.toList)) := by
  induction r generalizing s with
  | nil => simp [accB, Lib.joinTail]
  | cons x r ih =>
    rw [accB, ih]
    simp [Lib.joinTail, ByteArray.data_append]
theorem joinB_cons (x : ByteArray) (r : List ByteArray) : joinB (x :: r) = accB x r := by
  apply ba_ext
  rw [accB_data]
  unfold joinB
  rw [List.map_cons, Lib.join_cons]
def nlB : ByteArray := ⟨#[10]⟩
def lineB (ws : List ByteArray) : ByteArray := joinB ws ++ nlB
def strs (ws : List ByteArray) : List Value := ws.map Value.string
theorem strs_append (a b : List ByteArray) : strs a ++ strs b = strs (a ++ b) := by simp [strs]
theorem strs_length (a : List ByteArray) : (strs a).length = a.length := by simp [strs]
/-- What a slice of words holds. -/
structure StrS (w : World) (b o n c : Nat) (ws : List ByteArray) : Prop where
  len : ws.length = n
  lim : n ≤ c
  lt : b < w.heap.size
  cell : ∀ (j : Nat) x, ws[j]? = some x → w.cell? ⟨b, o + j, none⟩ = some (.string x)
theorem StrS.bel {w w' : World} {b o n c : Nat} {ws : List ByteArray} (h : StrS w b o n c ws) (hb : Below w.heap.size w w') : StrS w' b o n c ws :=
  ⟨h.1, h.2, Nat.lt_of_lt_of_le h.3 hb.size, fun j x hj => (hb.cell (p := ⟨b, o + j, none⟩) h.3).trans (h.4 j x hj)⟩
theorem StrS.of_own {w : World} {B g n cap : Nat} {ws : List ByteArray} (h : w.ownsRow B 9 1 (.slice (some ⟨g, 0, none⟩) n cap) n (strs ws)) (hg : g < w.heap.size) (hn : 0 < n) : StrS w g 0 n cap ws := by
  have hl : ws.length = n := by have := h.1; rw [strs_length] at this; omega
  refine ⟨hl, ?_, hg, fun j x hj => ?_⟩
  · rcases h.2 with ⟨e, _⟩ | ⟨g', cap', cur, e, _, _, hnc, _⟩
    · cases e
    · cases e; exact hnc
  · have := h.cells rfl j (.string x) (by unfold strs; rw [List.getElem?_map, hj]; rfl)
    rw [add_flat] at this
    exact this
theorem join_any (b o n c : Nat) (ws : List ByteArray) (w : World) (H : StrS w b o n c ws) (hn : n ≤ 1000000) (hs : (joinB ws).size ≤ 100000000) :
    Calls Tryd.prog 17 #[.slice (some ⟨b, o, none⟩) n c, .string ⟨#[32]⟩] w fun e w' => e = .returned (.string (joinB ws)) ∧ Below w.heap.size w w' := by
  obtain ⟨hl, hlim, hlt, hc⟩ := H
  subst hl
  refine Tryd.strings_Join b o c ws ⟨#[32]⟩ w hc hlt (by omega) hlim ?_
  have : (joinB ws).size = (Lib.join (ws.map (·.data.toList)) [32]).length := by simp [joinB, ByteArray.size]
  have e : (⟨#[32]⟩ : ByteArray).data.toList = [32] := rfl
  rw [e]
  omega
theorem byteCells_u8s (s : ByteArray) : Lib.byteCells s.data.toList = u8s (bytesN s) := by
  simp [Lib.byteCells, u8s, bytesN]
theorem bstr_any (B b : Nat) (s : ByteArray) (w : World) (h : Bd B b (bytesN s) w) (hBw : B ≤ w.heap.size) :
    Calls Tryd.prog 22 #[.pointer (some ⟨b, 0, none⟩)] w fun e w' => e = .returned (.string s) ∧ Below B w w' := by
  have h' : Lib.IsBuilder 42 5 B b (Lib.byteCells s.data.toList) w := by rw [byteCells_u8s]; exact h
  exact Tryd.Builder_String_any B b s.data.toList w h' hBw
set_option maxHeartbeats 1000000 in
/-- Print's first closure: a line is written. -/
theorem pline_any (B b b1 o n c : Nat) (ws : List ByteArray) (s : ByteArray) (w : World) (h : Bd B b (bytesN s) w) (H : StrS w b1 o n c ws) (hn : n ≤ 1000000) (hs : (joinB ws).size ≤ 100000000) (hs2 : s.size ≤ 10000000000) (hBw : B ≤ w.heap.size) :
    Calls Tryd.prog 15 #[.slice (some ⟨b1, o, none⟩) n c, .pointer (some ⟨b, 0, none⟩)] w fun e w' => (∃ v, e = .returned v) ∧ BdAt B b (bytesN (s ++ lineB ws)) w' ∧ Below B w w' ∧ Keep b w w' := by
  have D1 := Lib.hid (join_any b1 o n c ws w H hn hs)
  have Hs := Lib.hid hs
  have Hs2 := Lib.hid hs2
  have HB := Lib.hid h
  have HBw := Lib.hid hBw
  clear hs hs2 h hBw H
  go_enter Tryd.func15, Tryd.ntmps15
  go_wp2_with fail
  refine (D1.out).mono ?_
  rintro e w1 ⟨rfl, b1⟩
  have b1' := b1.mono HBw.out
  have h1 : Bd B b (bytesN s) w1 := HB.out.bel b1
  go_wp2_with fail
  refine (wstr_any B b (bytesN s) (joinB ws) w1 h1 (by rw [bytesN_length]; have := Hs.out; have := Hs2.out; omega) (by have := HBw.out; have := b1.size; omega)).mono ?_
  rintro e w2 ⟨⟨v2, rfl⟩, h2, b2, k2⟩
  go_wp2_with fail
  refine (wbyte_any B b (bytesN s ++ bytesN (joinB ws)) 10 w2 (.inr h2) (by rw [List.length_append, bytesN_length, bytesN_length]; have := Hs.out; have := Hs2.out; omega) (by have := HBw.out; have := b1.size; have := b2.size; omega)).mono ?_
  rintro e w3 ⟨⟨v3, rfl⟩, h3, b3, k3⟩
  go_wp2_with fail
  go_end0
  refine ⟨⟨_, rfl⟩, ?_, (b1'.trans b2).trans b3, ((Keep.of_below b1).trans k2).trans k3⟩
  have e : bytesN (s ++ lineB ws) = bytesN s ++ bytesN (joinB ws) ++ [10] := by
    rw [bytesN_append, lineB, bytesN_append, List.append_assoc]; rfl
  rw [e]
  exact h3
theorem info_str : ∃ i, Tryd.prog.info? 9 = some i ∧ i.zero = some (.string ⟨#[]⟩) ∧ i.size = 1 ∧ i.bytes = 16 := by
  have h : (Tryd.prog.info? 9).map (fun i => (i.zero, i.size, i.bytes)) = some (some (.string ⟨#[]⟩), 1, 16) := by kernel_rfl
  obtain ⟨i, h2, h345⟩ := Option.map_eq_some_iff.1 h
  exact ⟨i, h2, (Prod.mk.inj h345).1, (Prod.mk.inj (Prod.mk.inj h345).2).1, (Prod.mk.inj (Prod.mk.inj h345).2).2⟩
/-- What an append of words leaves. -/
structure AppOut (B : Nat) (W wr : World) (g n cap g' : Nat) (l : List ByteArray) (w8 : World) : Prop where
  row : w8.ownsRow B 9 1 (.slice (some ⟨g', 0, none⟩) n cap) n (strs l)
  below : Below B W w8
  ge : B ≤ g'
  lt : g' < w8.heap.size
  blk : ∀ k, k < wr.heap.size → k ≠ g → w8.heap[k]? = wr.heap[k]?
  at_ : g' = g ∨ wr.heap.size < g'
  size : wr.heap.size ≤ w8.heap.size
theorem wp_app_strs {o : Oper} {a : Act} {K : Act → World → Prop} {Q : Exit → Act → World → Prop} {W wr : World} (s x : Operand)
    (ho : o.op = .call { callee := .builtin .append, args := #[s, x], argTypes := #[43, 43] }) {B g n cap : Nat} {l ns : List ByteArray} (m : Nat) (cs : Array Value) (hcs : cs.toList = strs ns) (hm : ns.length = m) (hm0 : 0 < m) (hn : n + m ≤ 1000000)
    (hs : a.eval s = .slice (some ⟨g, 0, none⟩) n cap) (hx : a.eval x = .slice (some ⟨wr.heap.size, 0, none⟩) m m)
    (hrow : wr.ownsRow B 9 1 (.slice (some ⟨g, 0, none⟩) n cap) n (strs l)) (hb : Below B W wr) (hB : B ≤ wr.heap.size) (hg : g < wr.heap.size)
    (h : ∀ g' cap' w8, AppOut B W wr g (n + m) cap' g' (l ++ ns) w8 → K (a.put o.dst (.slice (some ⟨g', 0, none⟩) (n + m) cap')) w8) :
    Oper.wp Tryd.prog o a (wr.alloc (.cells cs 9)) K Q := by
  obtain ⟨ti, hti, hti3, hti4, hti5⟩ := info_str
  have hb1 := hb.alloc hB (.cells cs 9)
  have hz : (wr.alloc (.cells cs 9)).heap.size = wr.heap.size + 1 := by simp
  refine wp_append_lies (wr.alloc (.cells cs 9)) s x 43 ho B 9 ti (.string ⟨#[]⟩) 1 16 (by kernel_rfl) hti hti3 hti4 hti5 rfl (by decide) _ n (strs l) hs (hrow.alloc _) ⟨wr.heap.size, 0, none⟩ m m (strs ns) hx (by rw [strs_length, hm, Nat.mul_one]) ?_ ?_ hm0 (by simp only [maxLen]; omega) (by omega) (by rw [hz]; omega) _ rfl ?_
  · have := World.news_of_block (heap_alloc_new wr (.cells cs 9))
    rw [hcs] at this
    exact this
  · intro u hu
    obtain ⟨y, _, rfl⟩ := List.mem_map.1 hu
    rfl
  · intro g' cap' w8 hrow8 hgrow8 hat8 hlt8
    have hat : g' = g ∨ wr.heap.size < g' := by
      rcases hat8 with e | e
      · have e' : g = g' := Option.some.inj e
        exact .inl e'.symm
      · exact .inr (by rw [e, hz]; omega)
    have hgB : B ≤ g := by have := (hrow.lt g rfl).1; exact this
    refine h g' cap' w8 ⟨?_, ?_, ?_, hlt8, fun k hk hne => ?_, hat, ?_⟩
    · rw [strs_append] at hrow8; exact hrow8
    · exact hb1.trans ⟨hgrow8.os, hgrow8.tape, hgrow8.output, hgrow8.size, fun k hk => hgrow8.block k (by rw [hz]; omega) (fun e => by have e' : k = g := Option.some.inj e; omega)⟩
    · rcases hat with e | e <;> omega
    · exact (hgrow8.block k (by rw [hz]; omega) (fun e => by have e' : k = g := Option.some.inj e; exact hne e')).trans (heap_alloc_old wr _ hk)
    · have := hgrow8.size; rw [hz] at this; omega
theorem wpList_app_strs {ops : Array Oper} {rest : List Oper} {o : Oper} {a : Act} {Q : Exit → Act → World → Prop} {W wr : World} (hgd : o.guard = none) (s x : Operand)
    (ho : o.op = .call { callee := .builtin .append, args := #[s, x], argTypes := #[43, 43] }) {B g n cap : Nat} {l ns : List ByteArray} (m : Nat) (cs : Array Value) (hcs : cs.toList = strs ns) (hm : ns.length = m) (hm0 : 0 < m) (hn : n + m ≤ 1000000)
    (hs : a.eval s = .slice (some ⟨g, 0, none⟩) n cap) (hx : a.eval x = .slice (some ⟨wr.heap.size, 0, none⟩) m m)
    (hrow : wr.ownsRow B 9 1 (.slice (some ⟨g, 0, none⟩) n cap) n (strs l)) (hb : Below B W wr) (hB : B ≤ wr.heap.size) (hg : g < wr.heap.size)
    (h : ∀ g' cap' w8, AppOut B W wr g (n + m) cap' g' (l ++ ns) w8 → wpList Tryd.prog ops Q rest (a.put o.dst (.slice (some ⟨g', 0, none⟩) (n + m) cap')) w8) :
    wpList Tryd.prog ops Q (o :: rest) a (wr.alloc (.cells cs 9)) :=
  wpList_plain hgd fun _ hK => wp_app_strs s x ho m cs hcs hm hm0 hn hs hx hrow hb hB hg fun g' cap' w8 hA => hK _ _ (h g' cap' w8 hA)
theorem step_app_strs {ops : Array Oper} {o : Oper} {a : Act} {K : Act → World → Prop} {Q : Exit → Act → World → Prop} {E : Prop} {W wr : World} (hgd : o.guard = none) (s x : Operand)
    (ho : o.op = .call { callee := .builtin .append, args := #[s, x], argTypes := #[43, 43] }) {B g n cap : Nat} {l ns : List ByteArray} (m : Nat) (cs : Array Value) (hcs : cs.toList = strs ns) (hm : ns.length = m) (hm0 : 0 < m) (hn : n + m ≤ 1000000)
    (hs : a.eval s = .slice (some ⟨g, 0, none⟩) n cap) (hx : a.eval x = .slice (some ⟨wr.heap.size, 0, none⟩) m m)
    (hrow : wr.ownsRow B 9 1 (.slice (some ⟨g, 0, none⟩) n cap) n (strs l)) (hb : Below B W wr) (hB : B ≤ wr.heap.size) (hg : g < wr.heap.size)
    (h : ∀ g' cap' w8, AppOut B W wr g (n + m) cap' g' (l ++ ns) w8 → K (a.put o.dst (.slice (some ⟨g', 0, none⟩) (n + m) cap')) w8) :
    if Region.wanted o (yielded ops a.tmps) = true then Oper.wp Tryd.prog o a (wr.alloc (.cells cs 9)) K Q else E := by
  have hw : Region.wanted o (yielded ops a.tmps) = true := by simp [Region.wanted, hgd]
  rw [if_pos hw]
  exact wp_app_strs s x ho m cs hcs hm hm0 hn hs hx hrow hb hB hg h
end Go.Proofs.YtdilgmokiclfaaaDoor
