/- Chapter 24: append of a row; fields. -/
import Derived.Test.YtdilgmokiclfaaaDoorScV
import Derived.Deep.AppendLies
import Derived.BigQuiet
import Derived.Deep.QuietTactic
namespace Go.Proofs.YtdilgmokiclfaaaDoor
open Go.RowKit
set_option linter.unusedVariables false
set_option maxRecDepth 100000

theorem ownsRow_only {w w' : World} {B b size n : Nat} {e : TypeId} {v : Value} {xs : List Value} (h : w.ownsRow B e size v n xs) (ho : Only b w w') (hb : v.ownBlock ≠ some b) : w'.ownsRow B e size v n xs := by
  refine ⟨h.1, h.2.imp id ?_⟩
  rintro ⟨g, cap, cur, rfl, h1, h2, h3⟩
  refine ⟨g, cap, cur, rfl, h1, ?_, h3⟩
  have hl : g < w.heap.size := by
    rcases Nat.lt_or_ge g w.heap.size with hlt | hge
    · exact hlt
    · rw [Array.getElem?_eq_none hge] at h2; cases h2
  rw [ho.block g hl (fun e => hb (by rw [e]; rfl))]
  exact h2
theorem flatten_get {α : Type} {k : Nat} : ∀ {css : List (List α)} (hk : ∀ cs ∈ css, cs.length = k) (i j : Nat) (cs : List α), css[i]? = some cs → j < k → css.flatten[i * k + j]? = cs[j]?
  | [], _, i, j, cs, h, _ => by simp at h
  | c :: r, hk, 0, j, cs, h, hj => by
    have e : c = cs := by simpa using h
    subst e
    rw [List.flatten_cons, Nat.zero_mul, Nat.zero_add, List.getElem?_append_left (by rw [hk c (List.mem_cons_self ..)]; exact hj)]
  | c :: r, hk, i + 1, j, cs, h, hj => by
    have hc := hk c (List.mem_cons_self ..)
    rw [List.flatten_cons, List.getElem?_append_right (by rw [hc, Nat.add_mul, Nat.one_mul]; omega), hc, show (i + 1) * k + j - k = i * k + j by rw [Nat.add_mul, Nat.one_mul]; omega]
    exact flatten_get (fun x hx => hk x (List.mem_cons_of_mem _ hx)) i j cs (by simpa using h) hj
theorem add_flat3 (b off j : Nat) : (⟨b, off, none⟩ : Addr).add j = ⟨b, off + j, none⟩ := by unfold Addr.add; split <;> simp_all
/-- A row that is owned, as a slice that is read. -/
theorem rws_of_own {w : World} {B k n : Nat} {e : TypeId} {v : Value} {css : List (List Value)} (hk : ∀ cs ∈ css, cs.length = k) (h : w.ownsRow B e k v n css.flatten) (hn : css.length = n) :
    ∃ A c, v = .slice A n c ∧ n ≤ c ∧ c ≤ maxLen ∧ Rws w A k css := by
  have hown := h
  rcases h.2 with ⟨rfl, h0⟩ | ⟨g, cap, cur, rfl, h1, h2, h3, h4, h5⟩
  · subst h0
    exact ⟨none, 0, rfl, Nat.le_refl _, Nat.zero_le _, fun hp => by omega⟩
  · refine ⟨some ⟨g, 0, none⟩, cap, rfl, h3, h4, fun hp => ⟨g, 0, rfl, ?_, fun i hi j u hj => ?_⟩⟩
    · rcases Nat.lt_or_ge g w.heap.size with hlt | hge
      · exact hlt
      · rw [Array.getElem?_eq_none hge] at h2; cases h2
    · have hik : css[i].length = k := hk _ (List.getElem_mem hi)
      have hjk : j < k := by
        rcases Nat.lt_or_ge j k with h | h
        · exact h
        · rw [List.getElem?_eq_none (by omega)] at hj; cases hj
      have := hown.cells (g := g) rfl (i * k + j) u (by rw [flatten_get hk i j css[i] (List.getElem?_eq_getElem hi) hjk]; exact hj)
      rw [add_flat3] at this
      rw [show 0 + i * k + j = 0 + (i * k + j) by omega]
      exact this
def frCs (xs : List Nat) : List Value := (xs.map frC).flatten
theorem frCs_snoc (xs : List Nat) (x : Nat) : frCs (xs ++ [x]) = frCs xs ++ frC x := by simp [frCs]
theorem FrS.of_own {w : World} {B n : Nat} {v : Value} {xs : List Nat} (h : w.ownsRow B 24 4 v n (frCs xs)) (hx : Fl4 xs) (hn : xs.length = n) : ∃ A c, v = .slice A n c ∧ FrS w A n c xs := by
  obtain ⟨A, c, h1, h2, h3, h4⟩ := rws_of_own (fun cs hc => by obtain ⟨x, _, rfl⟩ := List.mem_map.1 hc; exact frC_len x) h (by rw [List.length_map]; exact hn)
  exact ⟨A, c, h1, hn, h2, h3, hx, h4⟩
/-- What is read of a slice, whatever is laid at the blocks below B. -/
def FrSA (B : Nat) (W : World) (A : Option Addr) (n c : Nat) (xs : List Nat) : Prop := ∀ W' : World, W.heap.size ≤ W'.heap.size → (∀ j, B ≤ j → j < W.heap.size → W'.heap[j]? = W.heap[j]?) → FrS W' A n c xs
theorem FrSA.out {B : Nat} {W : World} {A : Option Addr} {n c : Nat} {xs : List Nat} (h : FrSA B W A n c xs) : FrS W A n c xs := h W (Nat.le_refl _) fun _ _ _ => rfl
theorem ownsRow_kp {w w' : World} {B k n : Nat} {e : TypeId} {v : Value} {xs : List Value} (h : w.ownsRow B e k v n xs) (hb : ∀ j, B ≤ j → j < w.heap.size → w'.heap[j]? = w.heap[j]?) : w'.ownsRow B e k v n xs := by
  refine ⟨h.1, h.2.imp id ?_⟩
  rintro ⟨g1, cap, cur, rfl, h1, h2, h3⟩
  exact ⟨g1, cap, cur, rfl, h1, (hb g1 (by omega) (Array.getElem?_eq_some_iff.1 h2).1).trans h2, h3⟩
/-- What an append of one element leaves. -/
structure App1 (B : Nat) (e : TypeId) (k : Nat) (wr : World) (v : Value) (n cap g' : Nat) (l : List Value) (w8 : World) : Prop where
  row : w8.ownsRow B e k (.slice (some ⟨g', 0, none⟩) n cap) n l
  ge : B ≤ g'
  lt : g' < w8.heap.size
  blk : ∀ j, j < wr.heap.size → some j ≠ v.ownBlock → w8.heap[j]? = wr.heap[j]?
  os : w8.os = wr.os
  tape : w8.tape = wr.tape
  output : w8.output = wr.output
  size : wr.heap.size ≤ w8.heap.size
  at_ : v.ownBlock = some g' ∨ wr.heap.size ≤ g'
theorem wp_app_row {o : Oper} {a : Act} {K : Act → World → Prop} {Q : Exit → Act → World → Prop} {wr : World} (s x : Operand) (t e : TypeId)
    (ho : o.op = .call { callee := .builtin .append, args := #[s, x], argTypes := #[t, t] }) {B n k bytes : Nat} {v z : Value} {l : List Value} (cs : Array Value)
    (ht : Tryd.prog.underlying t = some (.slice e)) (hinfo : (Tryd.prog.info? e).map (fun i => (i.zero, i.size, i.bytes)) = some (some z, k, bytes)) (hzs : z.cells.size = k) (hk0 : 0 < k)
    (hcs : cs.size = k) (h1 : ∀ u ∈ cs.toList, u.oneCell' = true) (hn : n < 100000000) (hby : bytes ≤ 1000)
    (hs : a.eval s = v) (hx : a.eval x = .slice (some ⟨wr.heap.size, 0, none⟩) 1 1)
    (hrow : wr.ownsRow B e k v n l) (hB : B ≤ wr.heap.size)
    (h : ∀ g' cap' w8, App1 B e k wr v (n + 1) cap' g' (l ++ cs.toList) w8 → K (a.put o.dst (.slice (some ⟨g', 0, none⟩) (n + 1) cap')) w8) :
    Oper.wp Tryd.prog o a (wr.alloc (.cells cs e)) K Q := by
  obtain ⟨ti, hti, hti2⟩ := Option.map_eq_some_iff.1 hinfo
  have hti3 := (Prod.mk.inj hti2).1
  have hti4 := (Prod.mk.inj (Prod.mk.inj hti2).2).1
  have hti5 := (Prod.mk.inj (Prod.mk.inj hti2).2).2
  have hz : (wr.alloc (.cells cs e)).heap.size = wr.heap.size + 1 := by simp
  have hb : (n + 1) * bytes ≤ 100000000 * 1000 := Nat.mul_le_mul (by omega) hby
  refine wp_append_lies (wr.alloc (.cells cs e)) s x t ho B e ti z k bytes ht hti hti3 hti4 hti5 hzs hk0 v n l hs (hrow.alloc _) ⟨wr.heap.size, 0, none⟩ 1 1 cs.toList hx (by rw [Array.length_toList, hcs, Nat.one_mul]) (World.news_of_block (heap_alloc_new wr (.cells cs e))) h1 (by decide) (by simp only [maxLen]; omega) (by omega) (by rw [hz]; omega) _ rfl ?_
  intro g' cap' w8 hrow8 hgrow8 hat8 hlt8
  refine h g' cap' w8 ⟨hrow8, (hrow8.lt g' rfl).1, hlt8, fun j hj hne => (hgrow8.block j (by rw [hz]; omega) hne).trans (heap_alloc_old wr _ hj), hgrow8.os, hgrow8.tape, hgrow8.output, ?_, ?_⟩
  · have := hgrow8.size; rw [hz] at this; omega
  · rcases hat8 with e | e
    · exact .inl e
    · exact .inr (by rw [e, hz]; omega)
theorem wpList_app_row {ops : Array Oper} {rest : List Oper} {o : Oper} {a : Act} {Q : Exit → Act → World → Prop} {wr : World} (hgd : o.guard = none) (s x : Operand) (t e : TypeId)
    (ho : o.op = .call { callee := .builtin .append, args := #[s, x], argTypes := #[t, t] }) {B n k bytes : Nat} {v z : Value} {l : List Value} (cs : Array Value)
    (ht : Tryd.prog.underlying t = some (.slice e)) (hinfo : (Tryd.prog.info? e).map (fun i => (i.zero, i.size, i.bytes)) = some (some z, k, bytes)) (hzs : z.cells.size = k) (hk0 : 0 < k)
    (hcs : cs.size = k) (h1 : ∀ u ∈ cs.toList, u.oneCell' = true) (hn : n < 100000000) (hby : bytes ≤ 1000)
    (hs : a.eval s = v) (hx : a.eval x = .slice (some ⟨wr.heap.size, 0, none⟩) 1 1)
    (hrow : wr.ownsRow B e k v n l) (hB : B ≤ wr.heap.size)
    (h : ∀ g' cap' w8, App1 B e k wr v (n + 1) cap' g' (l ++ cs.toList) w8 → wpList Tryd.prog ops Q rest (a.put o.dst (.slice (some ⟨g', 0, none⟩) (n + 1) cap')) w8) :
    wpList Tryd.prog ops Q (o :: rest) a (wr.alloc (.cells cs e)) :=
  wpList_plain hgd fun _ hK => wp_app_row s x t e ho cs ht hinfo hzs hk0 hcs h1 hn hby hs hx hrow hB fun g' cap' w8 hA => hK _ _ (h g' cap' w8 hA)
theorem step_app_row {ops : Array Oper} {o : Oper} {a : Act} {K : Act → World → Prop} {Q : Exit → Act → World → Prop} {E : Prop} {wr : World} (hgd : o.guard = none) (s x : Operand) (t e : TypeId)
    (ho : o.op = .call { callee := .builtin .append, args := #[s, x], argTypes := #[t, t] }) {B n k bytes : Nat} {v z : Value} {l : List Value} (cs : Array Value)
    (ht : Tryd.prog.underlying t = some (.slice e)) (hinfo : (Tryd.prog.info? e).map (fun i => (i.zero, i.size, i.bytes)) = some (some z, k, bytes)) (hzs : z.cells.size = k) (hk0 : 0 < k)
    (hcs : cs.size = k) (h1 : ∀ u ∈ cs.toList, u.oneCell' = true) (hn : n < 100000000) (hby : bytes ≤ 1000)
    (hs : a.eval s = v) (hx : a.eval x = .slice (some ⟨wr.heap.size, 0, none⟩) 1 1)
    (hrow : wr.ownsRow B e k v n l) (hB : B ≤ wr.heap.size)
    (h : ∀ g' cap' w8, App1 B e k wr v (n + 1) cap' g' (l ++ cs.toList) w8 → K (a.put o.dst (.slice (some ⟨g', 0, none⟩) (n + 1) cap')) w8) :
    if Region.wanted o (yielded ops a.tmps) = true then Oper.wp Tryd.prog o a (wr.alloc (.cells cs e)) K Q else E := by
  have hw : Region.wanted o (yielded ops a.tmps) = true := by simp [Region.wanted, hgd]
  rw [if_pos hw]
  exact wp_app_row s x t e ho cs ht hinfo hzs hk0 hcs h1 hn hby hs hx hrow hB h
theorem App1.only {B k n cap g' : Nat} {e : TypeId} {wr w8 : World} {v : Value} {l : List Value} (h : App1 B e k wr v n cap g' l w8) {b : Nat} (hv : ∀ j, v.ownBlock = some j → j = b ∨ wr.heap.size ≤ j) : Only b wr w8 :=
  ⟨h.os, h.tape, h.output, h.size, fun j hj hb => h.blk j hj (fun e => by rcases hv j e.symm with h | h <;> omega)⟩
theorem App1.below {B B0 k n cap g' : Nat} {e : TypeId} {W wr w8 : World} {v : Value} {l : List Value} (h : App1 B e k wr v n cap g' l w8) (hb : Below B0 W wr) (hB : B0 ≤ wr.heap.size) (hv : ∀ j, v.ownBlock = some j → B0 ≤ j) : Below B0 W w8 :=
  ⟨h.os.trans hb.os, h.tape.trans hb.tape, h.output.trans hb.output, Nat.le_trans hb.size h.size, fun j hj => (h.blk j (by omega) (fun e => by have := hv j e.symm; omega)).trans (hb.block j hj)⟩
/-- The words of a line. -/
def wordsB (line : ByteArray) : List ByteArray := Lib.splitB ⟨#[32]⟩ 0 (Lib.countB line ⟨#[32]⟩) line
theorem wordsB_len (line : ByteArray) : (wordsB line).length = Lib.countB line ⟨#[32]⟩ + 1 := Lib.splitB_all ⟨#[32]⟩ (by decide) 0 _ line rfl
theorem wordsB_le (line : ByteArray) : (wordsB line).length ≤ line.size + 1 := by
  have := Lib.countB_le ⟨#[32]⟩ (by decide) line.size line (Nat.le_refl _)
  rw [wordsB_len]; omega
theorem extract_size_le (s : ByteArray) (a b : Nat) : (s.extract a b).size ≤ s.size := by
  rw [ByteArray.size_extract]; omega
theorem splitB_mem (sep : ByteArray) : ∀ (k : Nat) (s x : ByteArray), x ∈ Lib.splitB sep 0 k s → x.size ≤ s.size
  | 0, s, x, h => by
    have : x = s := by simpa [Lib.splitB] using h
    rw [this]; exact Nat.le_refl _
  | k + 1, s, x, h => by
    unfold Lib.splitB at h
    split at h
    · have : x = s := by simpa using h
      rw [this]; exact Nat.le_refl _
    · rcases List.mem_cons.1 h with rfl | h
      · exact extract_size_le _ _ _
      · exact Nat.le_trans (splitB_mem sep k _ x h) (extract_size_le _ _ _)
theorem wordsB_mem {line x : ByteArray} (h : x ∈ wordsB line) : x.size ≤ line.size := splitB_mem _ _ _ _ h
/-- All numbers of some words, if they are. -/
def numsB : List ByteArray → Option (List Nat)
  | [] => some []
  | s :: r => match numB s with
    | none => none
    | some v => (numsB r).map (v :: ·)
/-- What fields answers. -/
def fieldsR (line word : ByteArray) : Option (List Nat) := if (wordsB line).headD ⟨#[]⟩ = word then numsB (wordsB line).tail else none
theorem numB_lt {s : ByteArray} {v : Nat} (h : numB s = some v) : v < pw 4 := by
  unfold numB at h
  split at h
  · cases h
  · split at h
    · split at h
      · rename_i h1 h2 h3
        have e : hv (bytesN s) s.size = v := by simpa using h
        have := hv_lt (bytesN s) s.size (fun j hj => by
          have hl : (bytesN s).length - 1 - j < (bytesN s).length := by rw [bytesN_length]; omega
          exact List.all_eq_true.1 h2 _ (by rw [nth_eq hl]; exact List.getElem_mem hl))
        rw [e] at this
        exact Nat.lt_of_lt_of_le this (by rw [show pw 4 = 16 ^ 64 by decide +kernel]; exact Nat.pow_le_pow_right (by decide) (by omega))
      · cases h
    · cases h
theorem WdS.new (w : World) (ws : List ByteArray) (n : Nat) (hn : ws.length = n) (hl : n ≤ 100000000) : WdS ((w.alloc (.cells (ws.map Value.string).toArray 9)).alloc (.cells #[.slice (some ⟨w.heap.size, 0, none⟩) n n, .bool false] 93)) (w.heap.size + 1) false ws := by
  have h0 := Bk.new w 9 (ws.map Value.string).toArray
  refine ⟨w.heap.size, 0, n, ?_, by omega, by simp only [maxLen]; omega, by simp; omega, by omega, fun j x hj => ?_⟩
  · rw [hn]; exact Bk.new1 w _ _ _
  · have h1 := h0.alloc (.cells #[.slice (some ⟨w.heap.size, 0, none⟩) n n, .bool false] 93)
    rw [Nat.zero_add]
    exact h1.cell (i := j) (by rw [List.getElem?_toArray, List.getElem?_map, hj]; rfl)
theorem WdS.c {w : World} {b : Nat} {bad : Bool} {ws : List ByteArray} (h : WdS w b bad ws) : ∃ A c, w.cell? ⟨b, 0, none⟩ = some (.slice A ws.length c) ∧ w.cell? ⟨b, 1, none⟩ = some (.bool bad) := by
  obtain ⟨sb, so, c, h1, _⟩ := h
  exact ⟨_, c, h1.cell rfl, h1.cell rfl⟩
theorem fr_info : (Tryd.prog.info? 24).map (fun i => (i.zero, i.size, i.bytes)) = some (some (.agg #[.int .u64 0, .int .u64 0, .int .u64 0, .int .u64 0]), 4, 32) := by kernel_rfl
theorem WdS.keep {w w' : World} {b : Nat} {bad : Bool} {ws : List ByteArray} (h : WdS w b bad ws) (hk : ∀ j, j ≤ b → w'.heap[j]? = w.heap[j]?) (hs : w.heap.size ≤ w'.heap.size) : WdS w' b bad ws := by
  obtain ⟨sb, so, c, h1, h2, h3, h4, h5, h6⟩ := h
  exact ⟨sb, so, c, (hk b (Nat.le_refl _)).trans h1, h2, h3, by omega, h5, fun j x hj => (World.cell?_of_block (a := ⟨sb, so + j, none⟩) (hk sb (Nat.le_of_lt h5))).trans (h6 j x hj)⟩
def lenOf : Value → Nat
  | .slice _ n _ => n
  | _ => 0
theorem numsB_cons {s : ByteArray} {r : List ByteArray} : numsB (s :: r) = match numB s with
    | none => none
    | some v => (numsB r).map (v :: ·) := rfl
def FdRel (ws0 : List ByteArray) (b : Nat) (w : World) (v : Value) (wr : World) : Prop :=
  ∃ (xs : List Nat) (ws : List ByteArray) (bad : Bool), (∃ A c, v = .slice A xs.length c) ∧ WdS wr b bad ws ∧ wr.ownsRow (b + 1) 24 4 v xs.length (frCs xs) ∧ Fl4 xs ∧ xs.length + ws.length = ws0.length ∧ (∀ x ∈ ws, x ∈ ws0) ∧
    numsB ws0 = (if bad then none else (numsB ws).map (xs ++ ·)) ∧ Below w.heap.size w wr ∧ b < wr.heap.size
set_option maxHeartbeats 8000000 in
/-- fields -/
theorem fields_any (line word : ByteArray) (w : World) (he : Env w) (hl : line.size ≤ 50000000) :
    Calls Tryd.prog 31 #[.string line, .string word] w fun e w' => ∃ A n c, e = .returned (.tuple #[.slice A n c, .bool (fieldsR line word).isSome]) ∧ (∀ xs, fieldsR line word = some xs → FrSA w.heap.size w' A n c xs) ∧ Below w.heap.size w w' := by
  obtain ⟨m, hm⟩ := he.m
  have D1 := Lib.hid (Tryd.strings_Split line ⟨#[32]⟩ m w (by omega) hm (by decide))
  obtain ⟨ws, hws⟩ : ∃ x, x = wordsB line := ⟨_, rfl⟩
  obtain ⟨n, hn⟩ : ∃ n, ws.length = n := ⟨_, rfl⟩
  have hn1 : Lib.countB line ⟨#[32]⟩ + 1 = n := by rw [← hn, hws, wordsB_len]
  have hnl : n ≤ 50000001 := by rw [← hn, hws]; have := wordsB_le line; omega
  have hmem : ∀ x ∈ ws, x.size ≤ 50000000 := fun x hx => Nat.le_trans (wordsB_mem (by rw [← hws]; exact hx)) hl
  have hd : Lib.splitB ⟨#[32]⟩ 0 (Lib.countB line ⟨#[32]⟩) line = ws := hws.symm
  rw [hd, hn1] at D1
  have hfr : fieldsR line word = if ws.headD ⟨#[]⟩ = word then numsB ws.tail else none := by rw [hws]; rfl
  obtain ⟨R, hR⟩ : ∃ x, x = fieldsR line word := ⟨_, rfl⟩
  rw [← hR] at hfr ⊢
  have HFR := Lib.hid hfr
  have HMEM := Lib.hid hmem
  have HN := Lib.hid hn
  have hne : ws.isEmpty = false := by
    cases hws2 : ws with
    | nil => rw [hws2] at hn; simp at hn; omega
    | cons => rfl
  have HNE := Lib.hid hne
  have h0 := WdS.new w ws n hn (by omega)
  have D2 := Lib.hid (next_any (w.heap.size + 1) false ws _ h0)
  rw [hne] at D2
  have b0 := ((Below.refl w.heap.size w).alloc (Nat.le_refl _) (.cells (ws.map Value.string).toArray 9)).alloc (by simp) (.cells #[.slice (some ⟨w.heap.size, 0, none⟩) n n, .bool false] 93)
  have B0 := Lib.hid b0
  have HHE := Lib.hid he
  have hz : ((w.alloc (.cells (ws.map Value.string).toArray 9)).alloc (.cells #[.slice (some ⟨w.heap.size, 0, none⟩) n n, .bool false] 93)).heap.size = w.heap.size + 2 := by simp
  have HZ := Lib.hid hz
  clear hfr hmem hn hne h0 hws hd hn1 b0 hm he hz hR hl
  go_enter Tryd.func31, Tryd.ntmps31
  go_wp2_with fail
  refine (D1.out).mono ?_
  rintro e w1 ⟨rfl, rfl⟩
  go_upto_region 2 with fail
  generalize ((w.alloc (.cells (ws.map Value.string).toArray 9)).alloc (.cells #[.slice (some ⟨w.heap.size, 0, none⟩) n n, .bool false] 93)) = W2 at *
  obtain ⟨b, hb⟩ : ∃ b, w.heap.size + 1 = b := ⟨_, rfl⟩
  rw [hb] at D2 ⊢
  have HB := Lib.hid hb
  clear hb
  obtain ⟨hd, hhd⟩ : ∃ x, x = ws.headD ⟨#[]⟩ := ⟨_, rfl⟩
  rw [← hhd] at D2
  have HHD := Lib.hid hhd
  clear hhd
  have hse := str_beq hd word
  cases hst : decide (hd = word) with
  | false =>
    rw [hst] at hse
    have hne : (hd.toList != word.toList) = true := by simp only [bne, hse]; rfl
    have HST := Lib.hid (of_decide_eq_false hst)
    clear hst
    go_wp2_with fail
    refine (D2.out).mono ?_
    rintro e w3 ⟨rfl, hw3, q3⟩
    go_wp2_with fail
    refine bodyPost_ret (results_tmp2 rfl _ _ _) rfl ?_
    have e : R = none := by rw [HFR.out, ← HHD.out, if_neg HST.out]
    rw [e]
    exact ⟨none, 0, 0, rfl, fun xs h => (by cases h), B0.out.trans (q3.below (by have := HB.out; omega) (by have := HZ.out; omega))⟩
  | true =>
    rw [hst] at hse
    have hne : (hd.toList != word.toList) = false := by simp only [bne, hse]; rfl
    have HST := Lib.hid (of_decide_eq_true hst)
    clear hst
    go_wp2_with fail
    refine (D2.out).mono ?_
    rintro e w3 ⟨rfl, hw3, q3⟩
    go_upto_region 5 with fail
    have hst0 : FdRel ws.tail b w (.slice none 0 0) w3 := by
      refine ⟨[], ws.tail, false, ⟨none, 0, rfl⟩, hw3, World.ownsRow_nil _ _ _ _, fun x hx => (by cases hx), by simp, fun x hx => hx, ?_, B0.out.trans (q3.below (by have := HB.out; omega) (by have := HZ.out; omega)), hw3.lt⟩
      cases numsB ws.tail <;> simp
    have Hst := Lib.hid hst0
    have HT := Lib.hid (show ws.tail.length ≤ 50000000 from by rw [List.length_tail, HN.out]; omega)
    have HMEM2 := Lib.hid (fun x (hx : x ∈ ws.tail) => HMEM.out x (List.mem_of_mem_tail hx))
    have HFR2 := Lib.hid (show R = numsB ws.tail by rw [HFR.out, ← HHD.out, if_pos HST.out])
    clear hst0 hw3 q3 D1 D2
    generalize ws.tail = wt at *
    go_loopw [7] (FdRel wt b w) (fun v _ => wt.length - lenOf v)
    case atStart => exact Hst.out
    case round =>
      clear Hst
      obtain ⟨xs, vs, bad, ⟨A, c, rfl⟩, hw, hrow, hx4, hlen, hmem, hnums, hbel, hblt⟩ := hrel
      obtain ⟨A2, c2, c0, c1⟩ := hw.c
      have HW := Lib.hid hw
      have HROW := Lib.hid hrow
      have HX4 := Lib.hid hx4
      have HM := Lib.hid hmem
      have HNUM := Lib.hid hnums
      have HBEL := Lib.hid hbel
      have HLEN := Lib.hid hlen
      clear hw hrow hx4 hmem hnums hbel
      cases vs with
      | nil =>
        have hz0 : ([] : List ByteArray).length = 0 := rfl
        rw [hz0] at c0
        go_wp2_with fail
        go_quiet (fail)
        go_wp2_with fail
        go_ret2
        have hN := HNUM.out
        rw [← HFR2.out] at hN
        rw [hN]
        have bd := fun d => below_drewN (Below.refl wr.heap.size wr) d
        cases bad with
        | true => exact ⟨A, xs.length, c, rfl, fun ys h => (by cases h), below_drewN HBEL.out _⟩
        | false =>
          refine ⟨A, xs.length, c, rfl, fun ys h => ?_, below_drewN HBEL.out _⟩
          have e : xs = ys := by simpa [numsB] using h
          subst e
          intro W' hs hk
          have hr := ownsRow_kp (w' := W') HROW.out (fun j h1 h2 => (hk j (by have := HB.out; omega) (Nat.lt_of_lt_of_le h2 (bd _).size)).trans ((bd _).block j h2))
          obtain ⟨A', c', h1, h2⟩ := FrS.of_own hr HX4.out rfl
          cases h1
          exact h2
      | cons s r =>
        have hz1 : (s :: r).length = r.length + 1 := rfl
        obtain ⟨k, hk⟩ : ∃ k, r.length = k := ⟨_, rfl⟩
        rw [hz1, hk] at c0
        have hk0 : (0 : Int) < ((k + 1 : Nat) : Int) := by omega
        cases bad with
        | true =>
          go_wp2_with fail
          go_quiet (fail)
          go_wp2_with fail
          go_ret2
          have hN := HNUM.out
          rw [← HFR2.out] at hN
          rw [hN]
          exact ⟨A, xs.length, c, rfl, fun ys h => (by cases h), below_drewN HBEL.out _⟩
        | false =>
          have D3 := Lib.hid (wfield_any b false (s :: r) wr HW.out (by have := HMEM2.out s (HM.out s (List.mem_cons_self ..)); show s.size ≤ _; omega))
          go_wp2_with fail
          refine (D3.out).mono ?_
          obtain ⟨x, hx⟩ : ∃ x, x = (numB s).getD 0 := ⟨_, rfl⟩
          rintro e w4 ⟨rfl, hw4, q4⟩
          have hx4 : x < pw 4 := by
            rw [hx]
            cases hns : numB s with
            | none => decide
            | some v => exact numB_lt hns
          have hxv : ∀ v, numB s = some v → x = v := fun v hv => by rw [hx, hv]; rfl
          have hhd : ((s :: r).headD ⟨#[]⟩) = s := rfl
          rw [hhd, ← hx]
          clear hx
          have hvb : ∀ j, (Value.slice A xs.length c).ownBlock = some j → b + 1 ≤ j ∧ j < wr.heap.size := fun j hj => HROW.out.lt j hj
          have hrow4 := ownsRow_only HROW.out q4 (fun e => by have := (hvb _ e).1; omega)
          have HX := Lib.hid hx4
          have HXV := Lib.hid hxv
          have hw4b := hw4.lt
          have HW4 := Lib.hid hw4
          have HB4 := Lib.hid (HBEL.out.trans (q4.below (by have := HB.out; omega) HBEL.out.size))
          have hq4 := q4.size
          have hfr := frCs_snoc xs x
          have hfx : (lim .u64 (fl x)).size = 4 := rfl
          have hfo : ∀ u ∈ (lim .u64 (fl x)).toList, u.oneCell' = true := by simp [lim, fl, Value.oneCell']
          have hxl : xs.length < 100000000 := by have := HLEN.out; have := HT.out; omega
          clear hx4 hxv hw4 q4 D3
          go_wp2_with (refine wpList_app_row rfl (.tmp 29) (.tmp 32) 25 24 rfl (lim .u64 (fl x)) (by kernel_rfl) fr_info rfl (by decide) hfx hfo hxl (by decide) rfl rfl hrow4 (by omega) ?_; intro g' cap' w8 hA)
          have hw8 := HW4.out.keep (w' := w8) (fun j hj => hA.blk j (by omega) (fun e => by have := (hvb j e.symm).1; omega)) hA.size
          have hb8 := hA.below HB4.out (by have := HBEL.out.size; omega) (fun j e => by have := (hvb j e).1; have := HB.out; omega)
          have hrow8 : w8.ownsRow (b + 1) 24 4 (.slice (some ⟨g', 0, none⟩) (xs.length + 1) cap') (xs ++ [x]).length (frCs (xs ++ [x])) := by
            rw [hfr, List.length_append]
            exact hA.row
          have hx8 : Fl4 (xs ++ [x]) := fun y hy => by
            rcases List.mem_append.1 hy with h | h
            · exact HX4.out y h
            · rw [List.mem_singleton.1 h]; exact HX.out
          have hl8 : (xs ++ [x]).length + r.length = wt.length := by
            have := HLEN.out
            rw [List.length_append]
            simp only [List.length_cons, List.length_nil] at this ⊢
            omega
          have hs8 := hA.size
          have hN := HNUM.out
          rw [if_neg (by decide), numsB_cons] at hN
          refine ⟨⟨xs ++ [x], r, _, ⟨_, cap', by rw [List.length_append]; rfl⟩, hw8, hrow8, hx8, hl8, fun y hy => HM.out y (List.mem_cons_of_mem _ hy), ?_, hb8, by omega⟩, ?_⟩
          · rw [hN]
            show _ = if (false || (numB s).isNone) = true then none else _
            have hv := HXV.out
            change ∀ v, numB s = some v → x = v at hv
            cases hns : numB s with
            | none => rfl
            | some v =>
              rw [hv v hns]
              cases numsB r <;> simp
          · have := HLEN.out
            simp only [List.length_cons] at this
            simp only [lenOf]
            omega
end Go.Proofs.YtdilgmokiclfaaaDoor
