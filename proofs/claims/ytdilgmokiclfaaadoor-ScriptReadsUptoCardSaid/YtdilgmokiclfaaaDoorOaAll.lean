import Derived.Test.YtdilgmokiclfaaaDoorNatAll
import Derived.Test.YtdilgmokiclfaaaDoorSpAll
import Derived.Deep.Upon
import Derived.Lib.AppendStr
import Derived.Laws.AppendOwnNone
import Derived.Laws.AppendOwn
import Derived.Laws.IdiomStrings
import Derived.Lib.SmallJoins
import Derived.Laws.ResultCell
import Derived.Laws.Rows
import Derived.Deep.CutRange
import Derived.Deep.RegionWith
namespace Go.Proofs.YtdilgmokiclfaaaDoor
open Go.RowKit
set_option linter.unusedVariables false
set_option maxRecDepth 100000

def u8s (l : List Nat) : List Value := l.map fun x : Nat => Value.int .u8 (x : Int)
theorem u8s_append (a b : List Nat) : u8s a ++ u8s b = u8s (a ++ b) := by simp [u8s]
theorem u8s_length (a : List Nat) : (u8s a).length = a.length := by simp [u8s]
theorem u8s_one (a : List Nat) : ∀ u ∈ u8s a, u.oneCell' = true := by
  intro u hu
  obtain ⟨x, _, rfl⟩ := List.mem_map.1 hu
  rfl
def strN (l : List Nat) : ByteArray := ⟨(l.map UInt8.ofNat).toArray⟩
theorem strN_size (l : List Nat) : (strN l).size = l.length := by simp [strN, ByteArray.size]
theorem strN_append (a b : List Nat) : strN (a ++ b) = strN a ++ strN b := by
  have h : (strN (a ++ b)).data = (strN a ++ strN b).data := by rw [ByteArray.data_append]; simp [strN]
  cases h1 : strN (a ++ b); cases h2 : strN a ++ strN b
  rw [h1, h2] at h
  exact congrArg _ h
theorem strN_bytesN (s : ByteArray) : strN (bytesN s) = s := by
  cases s with
  | mk d =>
    unfold strN bytesN
    congr 1
    apply Array.ext'
    simp only [List.map_map]
    exact (List.map_congr_left (g := id) fun b _ => by simp).trans (List.map_id _)
theorem bytesN_strN {l : List Nat} (h : Byt l) : bytesN (strN l) = l := by
  unfold bytesN strN
  simp only [List.map_map]
  refine (List.map_congr_left (g := id) fun x hx => ?_).trans (List.map_id _)
  have := h x hx
  simp [UInt8.toNat_ofNat']
  omega
theorem bytesN_append (a b : ByteArray) : bytesN (a ++ b) = bytesN a ++ bytesN b := by simp [bytesN, ByteArray.data_append]
theorem bytesN_bytO (s : ByteArray) : Byt (bytesN s) := by
  intro x hx
  simp only [bytesN, List.mem_map] at hx
  obtain ⟨b, _, rfl⟩ := hx
  exact b.toNat_lt
theorem strCells_eq (s : ByteArray) : Lib.strCells s = u8s (bytesN s) := by
  unfold Lib.strCells u8s bytesN; rw [List.map_map]; rfl
theorem Byt.append {a b : List Nat} (ha : Byt a) (hb : Byt b) : Byt (a ++ b) := fun x hx => by
  rcases List.mem_append.1 hx with h | h
  · exact ha x h
  · exact hb x h
theorem Byt.take {a : List Nat} (ha : Byt a) (n : Nat) : Byt (a.take n) := fun x hx => ha x (List.mem_of_mem_take hx)
theorem add_flat (b off j : Nat) : (⟨b, off, none⟩ : Addr).add j = ⟨b, off + j, none⟩ := by unfold Addr.add; split <;> simp_all
/-- 'string(b)', of a slice that reads as these bytes. -/
theorem conv_sl {w : World} {A : Option Addr} {n c : Nat} {bs : List Nat} (hb : bs.length = n) (ob : Byt bs) (s : Sl w .u8 A bs) :
    (convert 40 9 (.slice A n c)).run Tryd.prog w = .ok (.string (strN bs)) w := by
  have hlen : (bs.map UInt8.ofNat).length = n := by rw [List.length_map, hb]
  cases A with
  | none =>
    have h0 : bs = [] := by
      cases bs with
      | nil => rfl
      | cons x r => obtain ⟨_, _, h, _⟩ := s (by simp); cases h
    subst h0
    exact run_convert_bytes_nil (P := Tryd.prog) w 40 5 (by kernel_rfl) (by kernel_rfl) n c 9 (by kernel_rfl)
  | some a =>
    have h := run_convert_bytes_back (P := Tryd.prog) w 40 9 5 a c (bs.map UInt8.ofNat) (by kernel_rfl) (by kernel_rfl) (by kernel_rfl) (fun j hj => ?_)
    · rw [hlen] at h; exact h
    · rw [List.length_map] at hj
      obtain ⟨b, off, e, _, hc⟩ := s (by omega)
      cases e
      rw [add_flat, hc j hj, List.getElem_map, nth_eq hj]
      have := ob bs[j] (List.getElem_mem hj)
      congr 2
      simp [UInt8.toNat_ofNat']
      omega
theorem sl_ownB {w : World} {B n : Nat} {v : Value} {xs : List Nat} (h : w.ownsRow B 5 1 v n (u8s xs)) : ∃ A c, v = .slice A n c ∧ xs.length = n ∧ n ≤ c ∧ c ≤ maxLen ∧ Sl w .u8 A xs ∧ (∀ a, A = some a → B ≤ a.block) := by
  obtain ⟨hl, h⟩ := h
  rw [u8s_length, Nat.mul_one] at hl
  rcases h with ⟨rfl, rfl⟩ | ⟨g, cap, cur, rfl, hg, hb, h1, h2, h3, h4⟩
  · exact ⟨none, 0, rfl, hl, Nat.le_refl _, Nat.zero_le _, fun hp => by omega, fun a h => by cases h⟩
  · refine ⟨some ⟨g, 0, none⟩, cap, rfl, hl, h1, h2, fun hp => ⟨g, 0, rfl, (Array.getElem?_eq_some_iff.1 hb).1, fun i hi => ?_⟩, fun a h => by cases h; exact hg⟩
    rw [Nat.zero_add, cell_of_row w g i cur _ _ hb]
    have e1 : cur[i]? = (cur.toList.take (n * 1))[i]? := by rw [List.getElem?_take_of_lt (by omega), Array.getElem?_toList]
    rw [e1, h4, u8s, List.getElem?_map, List.getElem?_eq_getElem hi, nth_eq hi]
    rfl
theorem info_u8O : (Tryd.prog.info? 5).map (fun i => (i.zero, i.size, i.bytes)) = some (some (.int .u8 0), 1, 1) := by kernel_rfl
theorem info_u8s : ∃ i, Tryd.prog.info? 5 = some i ∧ i.zero = some (.int .u8 0) ∧ i.size = 1 ∧ i.bytes = 1 := by
  obtain ⟨i, h2, h345⟩ := Option.map_eq_some_iff.1 info_u8O
  exact ⟨i, h2, by injection h345, by injection h345 with _ k; injection k, by injection h345 with _ k; injection k⟩
/-- 'append([]byte{}, b...)', 'append(out, s...)': the run. -/
theorem run_app_str {w : World} {B n : Nat} {v : Value} {xs : List Nat} (h : w.ownsRow B 5 1 v n (u8s xs)) (s : ByteArray) (hn : n + s.size ≤ 1000000) (hB : B ≤ w.heap.size) (ty : TypeId) :
    ∃ v' w', (Builtin.append_ #[40, 9] ty #[v, .string s]).run Tryd.prog w = .ok v' w' ∧ w'.ownsRow B 5 1 v' (n + s.size) (u8s (xs ++ bytesN s)) ∧ w.grownBy w' v.ownBlock := by
  obtain ⟨i, hi, hz, hsz, hby⟩ := info_u8s
  obtain ⟨v', w', h1, h2, h3, _⟩ := Lib.run_append_own_string (P := Tryd.prog) w B 40 9 ty 5 i (by kernel_rfl) (by kernel_rfl) hi hz hsz hby v n (u8s xs) h s (by unfold maxLen; omega) (by omega) hB
  rw [strCells_eq, u8s_append] at h2
  exact ⟨v', w', h1, h2, h3⟩
theorem run_app_sl {w : World} {B n m c : Nat} {v : Value} {xs ys : List Nat} {A : Option Addr} (h : w.ownsRow B 5 1 v n (u8s xs)) (hm : ys.length = m) (sy : Sl w .u8 A ys) (hv : v ≠ .slice none 0 0) (hn : n + m ≤ 1000000) (hB : B ≤ w.heap.size) (ty : TypeId) :
    ∃ v' w', (Builtin.append_ #[40, 40] ty #[v, .slice A m c]).run Tryd.prog w = .ok v' w' ∧ w'.ownsRow B 5 1 v' (n + m) (u8s (xs ++ ys)) ∧ w.grownBy w' v.ownBlock := by
  obtain ⟨i, hi, hz, hsz, hby⟩ := info_u8s
  by_cases h0 : m = 0
  · subst h0
    obtain rfl : ys = [] := List.eq_nil_of_length_eq_zero hm
    rcases h.2 with ⟨rfl, _⟩ | ⟨g, cap, cur, rfl, hb, hg, hnc, hcm, hcs, htk⟩
    · exact absurd rfl hv
    · have hsrc : Src Tryd.prog i.size 40 (.slice A 0 c) 0 [] w := by
        refine ⟨.inl ⟨5, by kernel_rfl⟩, fun w' => by simp [Builtin.lenOf], ?_, ?_, by simp, by simp⟩
        · cases A with
          | none => simp [Builtin.firstCells]
          | some b => exact run_firstCells_some (P := Tryd.prog) w i.size 0 b 0 c [] (by simp) (fun j u hj => by simp at hj)
        · cases A with
          | none => simp [Builtin.firstCells]
          | some b => exact run_firstCells_some (P := Tryd.prog) w.drew i.size 0 b 0 c [] (by simp) (fun j u hj => by simp at hj)
      have hrun := run_append_nothing (P := Tryd.prog) w 40 40 ty 5 i (by kernel_rfl) hi (some ⟨g, 0, none⟩) n cap hnc (.slice A 0 c) hsrc
      exact ⟨_, w, hrun, by simpa using h, ⟨rfl, rfl, rfl, Nat.le_refl _, fun _ _ _ => rfl⟩⟩
  · obtain ⟨b, off, rfl, _, hc⟩ := sy (by omega)
    have hsrc : ∀ (j : Nat) (u : Value), (u8s ys)[j]? = some u → w.cell? ((⟨b, off, none⟩ : Addr).add j) = some u := by
      intro j u hj
      unfold u8s at hj
      rw [List.getElem?_map] at hj
      rcases Nat.lt_or_ge j ys.length with hj' | hj'
      · rw [List.getElem?_eq_getElem hj'] at hj
        simp only [Option.map_some, Option.some.injEq] at hj
        subst hj
        rw [add_flat, hc j hj', nth_eq hj']
      · rw [List.getElem?_eq_none hj'] at hj; cases hj
    obtain ⟨v', w', h1, h2, h3, _⟩ := run_append_own (P := Tryd.prog) w B 40 ty 5 i (.int .u8 0) 1 1 (by kernel_rfl) hi hz hsz hby rfl (by decide) v n (u8s xs) h ⟨b, off, none⟩ m c (u8s ys) (by rw [u8s_length, hm, Nat.mul_one]) hsrc (u8s_one _) (by unfold maxLen; omega) (by omega) hB
    rw [u8s_append] at h2
    exact ⟨v', w', h1, h2, h3⟩

/-- A record. -/
def recN (label bytes : ByteArray) : List Nat := [label.size] ++ bytesN label ++ [bytes.size / 16777216, bytes.size / 65536 % 256, bytes.size / 256 % 256, bytes.size % 256] ++ bytesN bytes
theorem recN_length (label bytes : ByteArray) : (recN label bytes).length = label.size + bytes.size + 5 := by
  simp [recN, bytesN_length]; omega
theorem recN_byt {label bytes : ByteArray} (h : label.size ≤ 32) (h2 : bytes.size ≤ 65536) : Byt (recN label bytes) := by
  refine ((Byt.append (Byt.append ?_ (bytesN_bytO _)) ?_).append (bytesN_bytO _))
  · intro x hx; simp at hx; omega
  · intro x hx; simp at hx; omega
end Go.Proofs.YtdilgmokiclfaaaDoor
namespace Go.Proofs.YtdilgmokiclfaaaDoor
open Go.RowKit
set_option linter.unusedVariables false

theorem conv_new (w : World) (l : List Nat) {n : Nat} (hl : l.length = n) (ob : Byt l) : (convert 40 9 (.slice (some ⟨w.heap.size, 0, none⟩) n n)).run Tryd.prog (w.alloc (.cells (lim .u8 l) 5)) = .ok (.string (strN l)) (w.alloc (.cells (lim .u8 l) 5)) :=
  conv_sl hl ob (Sl.of_own (Own.new w 5 .u8 l))

end Go.Proofs.YtdilgmokiclfaaaDoor
namespace Go.Proofs.YtdilgmokiclfaaaDoor
open Go.RowKit
set_option linter.unusedVariables false

theorem own_lit8 (w : World) (l : List Nat) {n : Nat} (hl : l.length = n) (hn : n ≤ 1000) : (w.alloc (.cells (lim .u8 l) 5)).ownsRow w.heap.size 5 1 (.slice (some ⟨w.heap.size, 0, none⟩) n n) n (u8s l) := by
  have h := World.ownsRow_lit (base := w.heap.size) (e := 5) (size := 1) w (lim .u8 l) n (Nat.le_refl _) (by unfold maxLen; omega) (by rw [lim_size, hl, Nat.mul_one])
  have e : (lim .u8 l).toList = u8s l := by simp [lim, u8s]
  rw [e] at h
  exact h
theorem below_gr {B : Nat} {a w w' : World} {v : Value} {n : Nat} {zs : List Value} (h : Below B a w) (hown : w.ownsRow B 5 1 v n zs) (hg : w.grownBy w' v.ownBlock) (hB : B ≤ w.heap.size) : Below B a w' :=
  h.grown hg hB fun k hk => by have := (hown.lt k hk).1; omega
theorem ne_nilB {w : World} {B n : Nat} {v : Value} {xs : List Nat} (h : w.ownsRow B 5 1 v n (u8s xs)) (hn : 0 < n) : v ≠ .slice none 0 0 := by
  rintro rfl
  rcases h.2 with ⟨_, h0⟩ | ⟨g, _, _, h1, _⟩
  · omega
  · cases h1

theorem wpList_app_str {w : World} {ops : Array Oper} {rest : List Oper} {o : Oper} {a : Act} {Q : Exit → Act → World → Prop} (hgd : o.guard = none) (s x : Operand)
    (ho : o.op = .call { callee := .builtin .append, args := #[s, x], argTypes := #[40, 9] }) {B n : Nat} {v : Value} {xs : List Nat} (hs : a.eval s = v) (h : w.ownsRow B 5 1 v n (u8s xs)) (st : ByteArray) (hx : a.eval x = .string st)
    (hn : n + st.size ≤ 1000000) (hB : B ≤ w.heap.size) (K : ∀ v' w', w'.ownsRow B 5 1 v' (n + st.size) (u8s (xs ++ bytesN st)) → w.grownBy w' v.ownBlock → wpList Tryd.prog ops Q rest (a.put o.dst v') w') : wpList Tryd.prog ops Q (o :: rest) a w := by
  refine wpList_plain hgd fun K' hK => ?_
  obtain ⟨v', w', hr, h2, h3⟩ := run_app_str h st hn hB o.type
  unfold Oper.wp
  simp [execOp, ho, resolve, invoke, builtin, hs, hx, hr, Result.andThen]
  exact hK _ _ (K v' w' h2 h3)
theorem wpList_app_sl {w : World} {ops : Array Oper} {rest : List Oper} {o : Oper} {a : Act} {Q : Exit → Act → World → Prop} (hgd : o.guard = none) (s x : Operand)
    (ho : o.op = .call { callee := .builtin .append, args := #[s, x], argTypes := #[40, 40] }) {B n m c : Nat} {v : Value} {xs ys : List Nat} {A : Option Addr} (hs : a.eval s = v) (h : w.ownsRow B 5 1 v n (u8s xs)) (hx : a.eval x = .slice A m c) (hm : ys.length = m) (sy : Sl w .u8 A ys) (hv : v ≠ .slice none 0 0)
    (hn : n + m ≤ 1000000) (hB : B ≤ w.heap.size) (K : ∀ v' w', w'.ownsRow B 5 1 v' (n + m) (u8s (xs ++ ys)) → w.grownBy w' v.ownBlock → wpList Tryd.prog ops Q rest (a.put o.dst v') w') : wpList Tryd.prog ops Q (o :: rest) a w := by
  refine wpList_plain hgd fun K' hK => ?_
  obtain ⟨v', w', hr, h2, h3⟩ := run_app_sl (c := c) h hm sy hv hn hB o.type
  unfold Oper.wp
  simp [execOp, ho, resolve, invoke, builtin, hs, hx, hr, Result.andThen]
  exact hK _ _ (K v' w' h2 h3)

def BehRel (bs : List Nat) (n : Nat) (r : ByteArray) (w : World) (i v : Value) (wr : World) : Prop :=
  ∃ (j k : Nat) (xs : List Nat), j ≤ 1 ∧ i = .int .i64 (j : Int) ∧ wr.ownsRow w.heap.size 5 1 v k (u8s xs) ∧ Below w.heap.size w wr ∧ (j = 0 → k = n ∧ xs = bs) ∧ (j = 1 → k = n + r.size ∧ xs = bs ++ bytesN r)
end Go.Proofs.YtdilgmokiclfaaaDoor
namespace Go.Proofs.YtdilgmokiclfaaaDoor
open Go.RowKit
set_option linter.unusedVariables false

section
variable {W W' : World} {b : Nat} {v0 v1 : Value}
end
theorem Sl.up {w : World} {k : IntKind} {A : Option Addr} {xs : List Nat} (h : Sl w k A xs) {p : Addr} (hA : ∀ a, A = some a → a.block ≠ p.block) (u : Value) : Sl (w.setCell p u) k A xs := fun hp => by
  obtain ⟨b, off, rfl, hb, hc⟩ := h hp
  exact ⟨b, off, rfl, by rw [World.size_setCell]; exact hb, fun i hi => (World.cell?_of_block (a := ⟨b, off + i, none⟩) (Below.heap_setCell w p u b (hA _ rfl))).trans (hc i hi)⟩
def SayPost (n : Nat) (bs : List Nat) (asked : Int) (r : ByteArray) (w : World) (e : Ending) (w' : World) : Prop :=
  ∃ A c, e = .returned (.tuple #[.agg #[.slice A (n + r.size) c, .int .i64 asked], .int .i64 0]) ∧ n + r.size ≤ c ∧ c ≤ maxLen ∧ Sl w' .u8 A (bs ++ bytesN r) ∧ (∀ a, A = some a → w.heap.size ≤ a.block) ∧ Below w.heap.size w w'
def NoPost (w : World) (e : Ending) (w' : World) : Prop :=
  e = .returned (.tuple #[.agg #[.slice none 0 0, .int .i64 0], .int .i64 2]) ∧ Below w.heap.size w w'
/-- May it be said? -/
def MaySay (n : Nat) (label bytes : ByteArray) : Prop := label.size ≤ 32 ∧ bytes.size ≤ 65536 ∧ n ≤ 65536 ∧ n + label.size + bytes.size + 5 ≤ 65536

end Go.Proofs.YtdilgmokiclfaaaDoor
namespace Go.Proofs.YtdilgmokiclfaaaDoor
open Go.RowKit
set_option linter.unusedVariables false

def shortB (s : ByteArray) : ByteArray := if 500 < s.size ∧ s.size < 60000 then s.extract 0 500 else s
end Go.Proofs.YtdilgmokiclfaaaDoor
