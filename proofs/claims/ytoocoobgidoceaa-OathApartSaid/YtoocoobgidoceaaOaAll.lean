import Derived.Test.YtoocoobgidoceaaNatAll
import Derived.Test.YtoocoobgidoceaaSpAll
import Derived.Deep.Upon
import Derived.Lib.AppendStr
import Derived.Laws.AppendOwnNone
import Derived.Laws.AppendOwn
import Derived.Laws.IdiomStrings
import Derived.Lib.SmallJoins
import Derived.Laws.ResultCell
import Derived.Laws.Rows
import Derived.Deep.CutRange
import Derived.Deep.RegionWith
namespace Go.Proofs.Ytoocoobgidoceaa
open Go.RowKit
set_option linter.unusedVariables false

def u8s (l : List Nat) : List Value := l.map fun x : Nat => Value.int .u8 (x : Int)
theorem u8s_append (a b : List Nat) : u8s a ++ u8s b = u8s (a ++ b) := by simp [u8s]
theorem u8s_length (a : List Nat) : (u8s a).length = a.length := by simp [u8s]
theorem u8s_one (a : List Nat) : ∀ u ∈ u8s a, u.oneCell' = true := by
  intro u hu
  obtain ⟨x, _, rfl⟩ := List.mem_map.1 hu
  rfl
def strN (l : List Nat) : ByteArray := ⟨(l.map UInt8.ofNat).toArray⟩
theorem strN_size (l : List Nat) : (strN l).size = l.length := by simp [strN, ByteArray.size]
theorem strN_append (a b : List Nat) : strN (a ++ b) = strN a ++ strN b := by
  have h : (strN (a ++ b)).data = (strN a ++ strN b).data := by rw [ByteArray.data_append]; simp [strN]
  cases h1 : strN (a ++ b); cases h2 : strN a ++ strN b
  rw [h1, h2] at h
  exact congrArg _ h
theorem strN_bytesN (s : ByteArray) : strN (bytesN s) = s := by
  cases s with
  | mk d =>
    unfold strN bytesN
    congr 1
    apply Array.ext'
    simp only [List.map_map]
    exact (List.map_congr_left (g := id) fun b _ => by simp).trans (List.map_id _)
theorem bytesN_strN {l : List Nat} (h : Byt l) : bytesN (strN l) = l := by
  unfold bytesN strN
  simp only [List.map_map]
  refine (List.map_congr_left (g := id) fun x hx => ?_).trans (List.map_id _)
  have := h x hx
  simp [UInt8.toNat_ofNat']
  omega
theorem bytesN_append (a b : ByteArray) : bytesN (a ++ b) = bytesN a ++ bytesN b := by simp [bytesN, ByteArray.data_append]
theorem bytesN_bytO (s : ByteArray) : Byt (bytesN s) := by
  intro x hx
  simp only [bytesN, List.mem_map] at hx
  obtain ⟨b, _, rfl⟩ := hx
  exact b.toNat_lt
theorem strCells_eq (s : ByteArray) : Lib.strCells s = u8s (bytesN s) := by
  unfold Lib.strCells u8s bytesN; rw [List.map_map]; rfl
theorem Byt.append {a b : List Nat} (ha : Byt a) (hb : Byt b) : Byt (a ++ b) := fun x hx => by
  rcases List.mem_append.1 hx with h | h
  · exact ha x h
  · exact hb x h
theorem Byt.take {a : List Nat} (ha : Byt a) (n : Nat) : Byt (a.take n) := fun x hx => ha x (List.mem_of_mem_take hx)
theorem add_flat (b off j : Nat) : (⟨b, off, none⟩ : Addr).add j = ⟨b, off + j, none⟩ := by unfold Addr.add; split <;> simp_all
/-- 'string(b)', of a slice that reads as these bytes. -/
theorem conv_sl {w : World} {A : Option Addr} {n c : Nat} {bs : List Nat} (hb : bs.length = n) (ob : Byt bs) (s : Sl w .u8 A bs) :
    (convert 22 9 (.slice A n c)).run Try.prog w = .ok (.string (strN bs)) w := by
  have hlen : (bs.map UInt8.ofNat).length = n := by rw [List.length_map, hb]
  cases A with
  | none =>
    have h0 : bs = [] := by
      cases bs with
      | nil => rfl
      | cons x r => obtain ⟨_, _, h, _⟩ := s (by simp); cases h
    subst h0
    exact run_convert_bytes_nil (P := Try.prog) w 22 5 (by kernel_rfl) (by kernel_rfl) n c 9 (by kernel_rfl)
  | some a =>
    have h := run_convert_bytes_back (P := Try.prog) w 22 9 5 a c (bs.map UInt8.ofNat) (by kernel_rfl) (by kernel_rfl) (by kernel_rfl) (fun j hj => ?_)
    · rw [hlen] at h; exact h
    · rw [List.length_map] at hj
      obtain ⟨b, off, e, _, hc⟩ := s (by omega)
      cases e
      rw [add_flat, hc j hj, List.getElem_map, nth_eq hj]
      have := ob bs[j] (List.getElem_mem hj)
      congr 2
      simp [UInt8.toNat_ofNat']
      omega
theorem sl_ownB {w : World} {B n : Nat} {v : Value} {xs : List Nat} (h : w.ownsRow B 5 1 v n (u8s xs)) : ∃ A c, v = .slice A n c ∧ xs.length = n ∧ n ≤ c ∧ c ≤ maxLen ∧ Sl w .u8 A xs ∧ (∀ a, A = some a → B ≤ a.block) := by
  obtain ⟨hl, h⟩ := h
  rw [u8s_length, Nat.mul_one] at hl
  rcases h with ⟨rfl, rfl⟩ | ⟨g, cap, cur, rfl, hg, hb, h1, h2, h3, h4⟩
  · exact ⟨none, 0, rfl, hl, Nat.le_refl _, Nat.zero_le _, fun hp => by omega, fun a h => by cases h⟩
  · refine ⟨some ⟨g, 0, none⟩, cap, rfl, hl, h1, h2, fun hp => ⟨g, 0, rfl, (Array.getElem?_eq_some_iff.1 hb).1, fun i hi => ?_⟩, fun a h => by cases h; exact hg⟩
    rw [Nat.zero_add, cell_of_row w g i cur _ _ hb]
    have e1 : cur[i]? = (cur.toList.take (n * 1))[i]? := by rw [List.getElem?_take_of_lt (by omega), Array.getElem?_toList]
    rw [e1, h4, u8s, List.getElem?_map, List.getElem?_eq_getElem hi, nth_eq hi]
    rfl
theorem info_u8O : (Try.prog.info? 5).map (fun i => (i.zero, i.size, i.bytes)) = some (some (.int .u8 0), 1, 1) := by kernel_rfl
theorem info_u8s : ∃ i, Try.prog.info? 5 = some i ∧ i.zero = some (.int .u8 0) ∧ i.size = 1 ∧ i.bytes = 1 := by
  obtain ⟨i, h2, h345⟩ := Option.map_eq_some_iff.1 info_u8O
  exact ⟨i, h2, by injection h345, by injection h345 with _ k; injection k, by injection h345 with _ k; injection k⟩
/-- 'append([]byte{}, b...)', 'append(out, s...)': the run. -/
theorem run_app_str {w : World} {B n : Nat} {v : Value} {xs : List Nat} (h : w.ownsRow B 5 1 v n (u8s xs)) (s : ByteArray) (hn : n + s.size ≤ 1000000) (hB : B ≤ w.heap.size) (ty : TypeId) :
    ∃ v' w', (Builtin.append_ #[22, 9] ty #[v, .string s]).run Try.prog w = .ok v' w' ∧ w'.ownsRow B 5 1 v' (n + s.size) (u8s (xs ++ bytesN s)) ∧ w.grownBy w' v.ownBlock := by
  obtain ⟨i, hi, hz, hsz, hby⟩ := info_u8s
  obtain ⟨v', w', h1, h2, h3, _⟩ := Lib.run_append_own_string (P := Try.prog) w B 22 9 ty 5 i (by kernel_rfl) (by kernel_rfl) hi hz hsz hby v n (u8s xs) h s (by unfold maxLen; omega) (by omega) hB
  rw [strCells_eq, u8s_append] at h2
  exact ⟨v', w', h1, h2, h3⟩
theorem run_app_sl {w : World} {B n m c : Nat} {v : Value} {xs ys : List Nat} {A : Option Addr} (h : w.ownsRow B 5 1 v n (u8s xs)) (hm : ys.length = m) (sy : Sl w .u8 A ys) (hv : v ≠ .slice none 0 0) (hn : n + m ≤ 1000000) (hB : B ≤ w.heap.size) (ty : TypeId) :
    ∃ v' w', (Builtin.append_ #[22, 22] ty #[v, .slice A m c]).run Try.prog w = .ok v' w' ∧ w'.ownsRow B 5 1 v' (n + m) (u8s (xs ++ ys)) ∧ w.grownBy w' v.ownBlock := by
  obtain ⟨i, hi, hz, hsz, hby⟩ := info_u8s
  by_cases h0 : m = 0
  · subst h0
    obtain rfl : ys = [] := List.eq_nil_of_length_eq_zero hm
    rcases h.2 with ⟨rfl, _⟩ | ⟨g, cap, cur, rfl, hb, hg, hnc, hcm, hcs, htk⟩
    · exact absurd rfl hv
    · have hsrc : Src Try.prog i.size 22 (.slice A 0 c) 0 [] w := by
        refine ⟨.inl ⟨5, by kernel_rfl⟩, fun w' => by simp [Builtin.lenOf], ?_, ?_, by simp, by simp⟩
        · cases A with
          | none => simp [Builtin.firstCells]
          | some b => exact run_firstCells_some (P := Try.prog) w i.size 0 b 0 c [] (by simp) (fun j u hj => by simp at hj)
        · cases A with
          | none => simp [Builtin.firstCells]
          | some b => exact run_firstCells_some (P := Try.prog) w.drew i.size 0 b 0 c [] (by simp) (fun j u hj => by simp at hj)
      have hrun := run_append_nothing (P := Try.prog) w 22 22 ty 5 i (by kernel_rfl) hi (some ⟨g, 0, none⟩) n cap hnc (.slice A 0 c) hsrc
      exact ⟨_, w, hrun, by simpa using h, ⟨rfl, rfl, rfl, Nat.le_refl _, fun _ _ _ => rfl⟩⟩
  · obtain ⟨b, off, rfl, _, hc⟩ := sy (by omega)
    have hsrc : ∀ (j : Nat) (u : Value), (u8s ys)[j]? = some u → w.cell? ((⟨b, off, none⟩ : Addr).add j) = some u := by
      intro j u hj
      unfold u8s at hj
      rw [List.getElem?_map] at hj
      rcases Nat.lt_or_ge j ys.length with hj' | hj'
      · rw [List.getElem?_eq_getElem hj'] at hj
        simp only [Option.map_some, Option.some.injEq] at hj
        subst hj
        rw [add_flat, hc j hj', nth_eq hj']
      · rw [List.getElem?_eq_none hj'] at hj; cases hj
    obtain ⟨v', w', h1, h2, h3, _⟩ := run_append_own (P := Try.prog) w B 22 ty 5 i (.int .u8 0) 1 1 (by kernel_rfl) hi hz hsz hby rfl (by decide) v n (u8s xs) h ⟨b, off, none⟩ m c (u8s ys) (by rw [u8s_length, hm, Nat.mul_one]) hsrc (u8s_one _) (by unfold maxLen; omega) (by omega) hB
    rw [u8s_append] at h2
    exact ⟨v', w', h1, h2, h3⟩

/-- A record. -/
def recN (label bytes : ByteArray) : List Nat := [label.size] ++ bytesN label ++ [bytes.size / 16777216, bytes.size / 65536 % 256, bytes.size / 256 % 256, bytes.size % 256] ++ bytesN bytes
theorem recN_length (label bytes : ByteArray) : (recN label bytes).length = label.size + bytes.size + 5 := by
  simp [recN, bytesN_length]; omega
theorem recN_byt {label bytes : ByteArray} (h : label.size ≤ 32) (h2 : bytes.size ≤ 65536) : Byt (recN label bytes) := by
  refine ((Byt.append (Byt.append ?_ (bytesN_bytO _)) ?_).append (bytesN_bytO _))
  · intro x hx; simp at hx; omega
  · intro x hx; simp at hx; omega
end Go.Proofs.Ytoocoobgidoceaa
namespace Go.Proofs.Ytoocoobgidoceaa
open Go.RowKit
set_option linter.unusedVariables false

theorem conv_new (w : World) (l : List Nat) {n : Nat} (hl : l.length = n) (ob : Byt l) : (convert 22 9 (.slice (some ⟨w.heap.size, 0, none⟩) n n)).run Try.prog (w.alloc (.cells (lim .u8 l) 5)) = .ok (.string (strN l)) (w.alloc (.cells (lim .u8 l) 5)) :=
  conv_sl hl ob (Sl.of_own (Own.new w 5 .u8 l))

set_option maxHeartbeats 1000000 in
/-- oath.record -/
theorem record_ok (label bytes : ByteArray) (w : World) (h1 : label.size ≤ 32) (h2 : bytes.size ≤ 65536) :
    Calls Try.prog 17 #[.string label, .string bytes] w fun e w' => e = .returned (.tuple #[.string (strN (recN label bytes)), .int .i64 0]) ∧ Below w.heap.size w w' := by
  obtain ⟨n, hn⟩ : ∃ n, bytes.size = n := ⟨_, rfl⟩
  obtain ⟨m, hm⟩ : ∃ m, label.size = m := ⟨_, rfl⟩
  obtain ⟨q0, hq0⟩ : ∃ q, n % 256 = q := ⟨_, rfl⟩
  obtain ⟨q1, hq1⟩ : ∃ q, n / 256 % 256 = q := ⟨_, rfl⟩
  obtain ⟨q2, hq2⟩ : ∃ q, n / 65536 % 256 = q := ⟨_, rfl⟩
  obtain ⟨q3, hq3⟩ : ∃ q, n / 16777216 = q := ⟨_, rfl⟩
  have hm32 : ¬ (m : Int) > 32 := by omega
  have hn65 : ¬ (n : Int) > 65536 := by omega
  have hme : (label.size : Int) = (m : Int) := by omega
  have hne : (bytes.size : Int) = (n : Int) := by omega
  have em : IntKind.u8.wrap (m : Int) = (m : Int) := by rw [IntKind.wrap_u8]; omega
  have e0 : IntKind.u8.wrap (n : Int) = (q0 : Int) := by rw [IntKind.wrap_u8]; omega
  have e1 : IntKind.u8.wrap ((n : Int) / 2 ^ 8) = (q1 : Int) := by rw [IntKind.wrap_u8]; omega
  have e2 : IntKind.u8.wrap ((n : Int) / 2 ^ 16) = (q2 : Int) := by rw [IntKind.wrap_u8]; omega
  have e3 : IntKind.u8.wrap ((n : Int) / 2 ^ 24) = (q3 : Int) := by rw [IntKind.wrap_u8]; omega
  have e1' : (n : Int) / 256 % 256 = (q1 : Int) := by omega
  have e2' : (n : Int) / 65536 = (q2 : Int) := by omega
  have e3' : (n : Int) / 16777216 = (q3 : Int) := by omega
  obtain ⟨S1, hS1⟩ : ∃ S, strN [m] = S := ⟨_, rfl⟩
  obtain ⟨S2, hS2⟩ : ∃ S, strN [q3, q2, q1, q0] = S := ⟨_, rfl⟩
  have z1 : S1.size = 1 := by rw [← hS1, strN_size]; rfl
  have z2 : S2.size = 4 := by rw [← hS2, strN_size]; rfl
  have hc1 : (convert 22 9 (.slice (some ⟨w.heap.size, 0, none⟩) 1 1)).run Try.prog (w.alloc (.cells #[.int .u8 (m : Int)] 5)) = .ok (.string S1) (w.alloc (.cells #[.int .u8 (m : Int)] 5)) := hS1 ▸ conv_new w [m] rfl (by intro x hx; simp at hx; omega)
  have hc2 : (convert 22 9 (.slice (some ⟨w.heap.size + 1, 0, none⟩) 4 4)).run Try.prog ((w.alloc (.cells #[.int .u8 (m : Int)] 5)).alloc (.cells #[.int .u8 (q3 : Int), .int .u8 (q2 : Int), .int .u8 (q1 : Int), .int .u8 (q0 : Int)] 5)) = .ok (.string S2) ((w.alloc (.cells #[.int .u8 (m : Int)] 5)).alloc (.cells #[.int .u8 (q3 : Int), .int .u8 (q2 : Int), .int .u8 (q1 : Int), .int .u8 (q0 : Int)] 5)) := by
    have h := conv_new (w.alloc (.cells #[.int .u8 (m : Int)] 5)) [q3, q2, q1, q0] rfl (by intro x hx; simp at hx; omega)
    rw [World.size_alloc, hS2] at h
    exact h
  have HE : Hid (S1 ++ label ++ S2 ++ bytes = strN (recN label bytes)) := Lib.hid (by
    unfold recN; rw [strN_append, strN_append, strN_append, strN_bytesN, strN_bytesN, hm, hn, hq0, hq1, hq2, hq3, hS1, hS2])
  have hb := ((Below.refl w.heap.size w).alloc (Nat.le_refl _) (.cells (lim .u8 [m]) 5)).alloc (by simp) (.cells (lim .u8 [q3, q2, q1, q0]) 5)
  have l1 : m ≤ 32 := by omega
  have l2 : n ≤ 65536 := by omega
  clear hq0 hq1 hq2 hq3 h1 h2 hS1 hS2
  go_enter Try.func17, Try.ntmps17
  go_wp2_with fail
  go_ret2
  exact ⟨by rw [← HE.out]; rfl, hb⟩
set_option maxHeartbeats 1000000 in
theorem record_no (label bytes : ByteArray) (w : World) (h : ¬ (label.size ≤ 32 ∧ bytes.size ≤ 65536)) :
    Calls Try.prog 17 #[.string label, .string bytes] w fun e w' => e = .returned (.tuple #[.string { data := #[] }, .int .i64 2]) ∧ w' = w := by
  by_cases h1 : label.size ≤ 32
  · have hm32 : ¬ (label.size : Int) > 32 := by omega
    have hn65 : (bytes.size : Int) > 65536 := by omega
    clear h h1
    go_enter Try.func17, Try.ntmps17
    go_wp2_with fail
    go_ret2
    exact ⟨rfl, rfl⟩
  · have hm32 : (label.size : Int) > 32 := by omega
    clear h h1
    go_enter Try.func17, Try.ntmps17
    go_wp2_with fail
    go_ret2
    exact ⟨rfl, rfl⟩
set_option maxHeartbeats 1000000 in
/-- chirographref14.long -/
theorem long_ok (said : Nat) (label bytes : ByteArray) (w : World) (hs : said ≤ maxLen) (hl : label.size ≤ maxLen) (hb : bytes.size ≤ maxLen) (h : label.size ≤ 32 ∧ bytes.size ≤ 65536 ∧ said ≤ 65536 ∧ said + label.size + bytes.size + 5 ≤ 65536) :
    Calls Try.prog 19 #[.int .i64 (said : Int), .string label, .string bytes] w fun e w' => e = .returned (.bool false) ∧ w' = w := by
  unfold maxLen at hs hl hb
  obtain ⟨n, hn⟩ : ∃ n, bytes.size = n := ⟨_, rfl⟩
  obtain ⟨m, hm⟩ : ∃ m, label.size = m := ⟨_, rfl⟩
  have hme : (label.size : Int) = (m : Int) := by omega
  have hne : (bytes.size : Int) = (n : Int) := by omega
  rw [hn, hm] at h
  have h1' : ¬ (m : Int) > 32 := by omega
  have h2' : ¬ (n : Int) > 65536 := by omega
  have h3' : ¬ (said : Int) > 65536 := by omega
  have h4' : ¬ (said : Int) + 1 + (m : Int) + 4 + (n : Int) > 65536 := by omega
  clear h hn hm
  go_enter Try.func19, Try.ntmps19
  go_wp2_with fail
  go_ret
  exact ⟨rfl, rfl⟩
set_option maxHeartbeats 1000000 in
theorem long_no (said : Nat) (label bytes : ByteArray) (w : World) (hs : said ≤ maxLen) (hl : label.size ≤ maxLen) (hb : bytes.size ≤ maxLen) (h : ¬ (label.size ≤ 32 ∧ bytes.size ≤ 65536 ∧ said ≤ 65536 ∧ said + label.size + bytes.size + 5 ≤ 65536)) :
    Calls Try.prog 19 #[.int .i64 (said : Int), .string label, .string bytes] w fun e w' => e = .returned (.bool true) ∧ w' = w := by
  unfold maxLen at hs hl hb
  obtain ⟨n, hn⟩ : ∃ n, bytes.size = n := ⟨_, rfl⟩
  obtain ⟨m, hm⟩ : ∃ m, label.size = m := ⟨_, rfl⟩
  have hme : (label.size : Int) = (m : Int) := by omega
  have hne : (bytes.size : Int) = (n : Int) := by omega
  rw [hn, hm] at h
  by_cases h1 : m ≤ 32
  · have h1' : ¬ (m : Int) > 32 := by omega
    by_cases h2 : n ≤ 65536
    · have h2' : ¬ (n : Int) > 65536 := by omega
      by_cases h3 : said ≤ 65536
      · have h3' : ¬ (said : Int) > 65536 := by omega
        have h4' : (said : Int) + 1 + (m : Int) + 4 + (n : Int) > 65536 := by omega
        clear h hn hm
        go_enter Try.func19, Try.ntmps19
        go_wp2_with fail
        go_ret
        exact ⟨rfl, rfl⟩
      · have h3' : (said : Int) > 65536 := by omega
        clear h hn hm
        go_enter Try.func19, Try.ntmps19
        go_wp2_with fail
        go_ret
        exact ⟨rfl, rfl⟩
    · have h2' : (n : Int) > 65536 := by omega
      clear h hn hm
      go_enter Try.func19, Try.ntmps19
      go_wp2_with fail
      go_ret
      exact ⟨rfl, rfl⟩
  · have h1' : (m : Int) > 32 := by omega
    clear h hn hm
    go_enter Try.func19, Try.ntmps19
    go_wp2_with fail
    go_ret
    exact ⟨rfl, rfl⟩
end Go.Proofs.Ytoocoobgidoceaa
namespace Go.Proofs.Ytoocoobgidoceaa
open Go.RowKit
set_option linter.unusedVariables false

theorem own_lit8 (w : World) (l : List Nat) {n : Nat} (hl : l.length = n) (hn : n ≤ 1000) : (w.alloc (.cells (lim .u8 l) 5)).ownsRow w.heap.size 5 1 (.slice (some ⟨w.heap.size, 0, none⟩) n n) n (u8s l) := by
  have h := World.ownsRow_lit (base := w.heap.size) (e := 5) (size := 1) w (lim .u8 l) n (Nat.le_refl _) (by unfold maxLen; omega) (by rw [lim_size, hl, Nat.mul_one])
  have e : (lim .u8 l).toList = u8s l := by simp [lim, u8s]
  rw [e] at h
  exact h
theorem below_gr {B : Nat} {a w w' : World} {v : Value} {n : Nat} {zs : List Value} (h : Below B a w) (hown : w.ownsRow B 5 1 v n zs) (hg : w.grownBy w' v.ownBlock) (hB : B ≤ w.heap.size) : Below B a w' :=
  h.grown hg hB fun k hk => by have := (hown.lt k hk).1; omega
theorem ne_nilB {w : World} {B n : Nat} {v : Value} {xs : List Nat} (h : w.ownsRow B 5 1 v n (u8s xs)) (hn : 0 < n) : v ≠ .slice none 0 0 := by
  rintro rfl
  rcases h.2 with ⟨_, h0⟩ | ⟨g, _, _, h1, _⟩
  · omega
  · cases h1

theorem wpList_app_str {w : World} {ops : Array Oper} {rest : List Oper} {o : Oper} {a : Act} {Q : Exit → Act → World → Prop} (hgd : o.guard = none) (s x : Operand)
    (ho : o.op = .call { callee := .builtin .append, args := #[s, x], argTypes := #[22, 9] }) {B n : Nat} {v : Value} {xs : List Nat} (hs : a.eval s = v) (h : w.ownsRow B 5 1 v n (u8s xs)) (st : ByteArray) (hx : a.eval x = .string st)
    (hn : n + st.size ≤ 1000000) (hB : B ≤ w.heap.size) (K : ∀ v' w', w'.ownsRow B 5 1 v' (n + st.size) (u8s (xs ++ bytesN st)) → w.grownBy w' v.ownBlock → wpList Try.prog ops Q rest (a.put o.dst v') w') : wpList Try.prog ops Q (o :: rest) a w := by
  refine wpList_plain hgd fun K' hK => ?_
  obtain ⟨v', w', hr, h2, h3⟩ := run_app_str h st hn hB o.type
  unfold Oper.wp
  simp [execOp, ho, resolve, invoke, builtin, hs, hx, hr, Result.andThen]
  exact hK _ _ (K v' w' h2 h3)
theorem wpList_app_sl {w : World} {ops : Array Oper} {rest : List Oper} {o : Oper} {a : Act} {Q : Exit → Act → World → Prop} (hgd : o.guard = none) (s x : Operand)
    (ho : o.op = .call { callee := .builtin .append, args := #[s, x], argTypes := #[22, 22] }) {B n m c : Nat} {v : Value} {xs ys : List Nat} {A : Option Addr} (hs : a.eval s = v) (h : w.ownsRow B 5 1 v n (u8s xs)) (hx : a.eval x = .slice A m c) (hm : ys.length = m) (sy : Sl w .u8 A ys) (hv : v ≠ .slice none 0 0)
    (hn : n + m ≤ 1000000) (hB : B ≤ w.heap.size) (K : ∀ v' w', w'.ownsRow B 5 1 v' (n + m) (u8s (xs ++ ys)) → w.grownBy w' v.ownBlock → wpList Try.prog ops Q rest (a.put o.dst v') w') : wpList Try.prog ops Q (o :: rest) a w := by
  refine wpList_plain hgd fun K' hK => ?_
  obtain ⟨v', w', hr, h2, h3⟩ := run_app_sl (c := c) h hm sy hv hn hB o.type
  unfold Oper.wp
  simp [execOp, ho, resolve, invoke, builtin, hs, hx, hr, Result.andThen]
  exact hK _ _ (K v' w' h2 h3)

set_option maxHeartbeats 1000000 in
/-- chirographref14.Record -/
theorem rrecord_any (label bytes : ByteArray) (w : World) (h1 : label.size ≤ 32) (h2 : bytes.size ≤ 65536) :
    Calls Try.prog 20 #[.string label, .string bytes] w fun e w' => e = .returned (.string (strN (recN label bytes))) ∧ Below w.heap.size w w' := by
  obtain ⟨n, hn⟩ : ∃ n, bytes.size = n := ⟨_, rfl⟩
  obtain ⟨m, hm⟩ : ∃ m, label.size = m := ⟨_, rfl⟩
  obtain ⟨q0, hq0⟩ : ∃ q, n % 256 = q := ⟨_, rfl⟩
  obtain ⟨q1, hq1⟩ : ∃ q, n / 256 % 256 = q := ⟨_, rfl⟩
  obtain ⟨q2, hq2⟩ : ∃ q, n / 65536 % 256 = q := ⟨_, rfl⟩
  obtain ⟨q3, hq3⟩ : ∃ q, n / 16777216 = q := ⟨_, rfl⟩
  obtain ⟨p2, hp2⟩ : ∃ q, n / 65536 = q := ⟨_, rfl⟩
  obtain ⟨p1, hp1⟩ : ∃ q, n / 256 = q := ⟨_, rfl⟩
  have hme : (label.size : Int) = (m : Int) := by omega
  have hne : (bytes.size : Int) = (n : Int) := by omega
  have em : IntKind.u8.wrap (m : Int) = (m : Int) := by rw [IntKind.wrap_u8]; omega
  have e0 : IntKind.u8.wrap (q0 : Int) = (q0 : Int) := by rw [IntKind.wrap_u8]; omega
  have e1 : IntKind.u8.wrap (q1 : Int) = (q1 : Int) := by rw [IntKind.wrap_u8]; omega
  have e2 : IntKind.u8.wrap (q2 : Int) = (q2 : Int) := by rw [IntKind.wrap_u8]; omega
  have e3 : IntKind.u8.wrap (q3 : Int) = (q3 : Int) := by rw [IntKind.wrap_u8]; omega
  have d3 : (n : Int).tdiv 16777216 = (q3 : Int) := by rw [← hq3]; rfl
  have d3' : (n : Int) / 16777216 = (q3 : Int) := by omega
  have d2 : (n : Int).tdiv 65536 = (p2 : Int) := by rw [← hp2]; rfl
  have d2' : (n : Int) / 65536 = (p2 : Int) := by omega
  have d1 : (n : Int).tdiv 256 = (p1 : Int) := by rw [← hp1]; rfl
  have d1' : (n : Int) / 256 = (p1 : Int) := by omega
  have r2 : (p2 : Int).tmod 256 = (q2 : Int) := by rw [← hq2, hp2]; rfl
  have r2' : (p2 : Int) % 256 = (q2 : Int) := by omega
  have r1 : (p1 : Int).tmod 256 = (q1 : Int) := by rw [← hq1, hp1]; rfl
  have r1' : (p1 : Int) % 256 = (q1 : Int) := by omega
  have r0 : (n : Int).tmod 256 = (q0 : Int) := by rw [← hq0]; rfl
  have r0' : (n : Int) % 256 = (q0 : Int) := by omega
  have o0 := own_lit8 w [m] (n := 1) rfl (by omega)
  have b0 := (Below.refl w.heap.size w).alloc (Nat.le_refl _) (.cells (lim .u8 [m]) 5)
  have HE : Hid ([m] ++ bytesN label ++ [q3, q2, q1, q0] ++ bytesN bytes = recN label bytes) := Lib.hid (by unfold recN; rw [hm, hn, hq0, hq1, hq2, hq3])
  have HB := Lib.hid (recN_byt h1 h2)
  have l1 : m ≤ 32 := by omega
  have l2 : n ≤ 65536 := by omega
  clear hq0 hq1 hq2 hq3 hp1 hp2 h1 h2
  go_enter Try.func20, Try.ntmps20
  go_wp2_with (first
    | (at_builtin; refine wpList_app_str rfl (.tmp 13) (.tmp 14) rfl rfl o0 label rfl (by rw [hm]; omega) (by simp) ?_; intro v1 w1 o1 g1; have b1 := below_gr b0 o0 g1 (by simp); have o1' := o1.alloc (.cells (lim .u8 [q3, q2, q1, q0]) 5); have b1' := b1.alloc b1.size (.cells (lim .u8 [q3, q2, q1, q0]) 5); have s1 := Sl.of_own (Own.new w1 5 .u8 [q3, q2, q1, q0]))
    | (at_builtin; refine wpList_app_sl rfl (.tmp 16) (.tmp 31) rfl rfl o1' rfl rfl s1 (ne_nilB o1' (by omega)) (by rw [hm]; omega) b1'.size ?_; intro v2 w2 o2 g2; have b2 := below_gr b1' o1' g2 b1'.size)
    | (at_builtin; refine wpList_app_str rfl (.tmp 33) (.tmp 34) rfl rfl o2 bytes rfl (by rw [hm, hn]; omega) b2.size ?_; intro v3 w3 o3 g3; have b3 := below_gr b2 o2 g3 b2.size; rw [HE.out] at o3; obtain ⟨A3, c3, rfl, l3, h3, h3', s3, _⟩ := sl_ownB o3; have hcv := conv_sl (c := c3) l3 HB.out s3; rw [hm, hn] at hcv; clear o3 s3 l3 g3 o2 g2))
  go_ret
  exact ⟨rfl, b3⟩

def BehRel (bs : List Nat) (n : Nat) (r : ByteArray) (w : World) (i v : Value) (wr : World) : Prop :=
  ∃ (j k : Nat) (xs : List Nat), j ≤ 1 ∧ i = .int .i64 (j : Int) ∧ wr.ownsRow w.heap.size 5 1 v k (u8s xs) ∧ Below w.heap.size w wr ∧ (j = 0 → k = n ∧ xs = bs) ∧ (j = 1 → k = n + r.size ∧ xs = bs ++ bytesN r)
set_option maxHeartbeats 1000000 in
/-- oath.behind, of one text -/
theorem behind_any (A : Option Addr) (n c T : Nat) (bs : List Nat) (r : ByteArray) (w : World) (hb : bs.length = n) (sb : Sl w .u8 A bs) (hn : n + r.size ≤ 100000) (hT : T < w.heap.size) (hc : w.cell? ⟨T, 0, none⟩ = some (.string r)) :
    Calls Try.prog 18 #[.slice A n c, .slice (some ⟨T, 0, none⟩) 1 1] w fun e w' => ∃ A' c', e = .returned (.slice A' (n + r.size) c') ∧ n + r.size ≤ c' ∧ c' ≤ maxLen ∧ Sl w' .u8 A' (bs ++ bytesN r) ∧ (∀ a, A' = some a → w.heap.size ≤ a.block) ∧ Below w.heap.size w w' := by
  have o0 := own_lit8 w [] (n := 0) rfl (by omega)
  have b0 := (Below.refl w.heap.size w).alloc (Nat.le_refl _) (.cells (lim .u8 []) 5)
  have Sb := sb.bel b0
  have Hb := Lib.hid hb
  clear hb
  go_enter Try.func18, Try.ntmps18
  go_wp2_with (at_builtin; refine wpList_app_sl rfl (.tmp 8) (.tmp 9) rfl rfl o0 rfl Hb.out Sb (by intro h; cases h) (by omega) (by simp) ?_; intro v1 w1 o1 g1; have b1 := below_gr b0 o0 g1 (by simp); rw [List.nil_append, Nat.zero_add] at o1)
  go_loopw [13, 5] (BehRel bs n r w) (fun i _ _ => 1 - (intOf i).toNat)
  case atStart => exact ⟨0, n, bs, by omega, rfl, o1, b1, fun _ => ⟨rfl, rfl⟩, fun h => by omega⟩
  case round =>
    clear o1 b1
    obtain ⟨j, k, xs, hj, rfl, ow, hbe, hz, ho⟩ := hrel
    by_cases h0 : j = 0
    · subst h0
      obtain ⟨rfl, rfl⟩ := hz rfl
      clear hz ho
      have hct := (hbe.cell (p := ⟨T, 0, none⟩) hT).trans hc
      go_wp2_with (at_builtin; refine wpList_app_str rfl (.tmp 17) (.tmp 18) rfl rfl ow r rfl (by omega) hbe.size ?_; intro v2 w2 o2 g2; have b2 := below_gr hbe ow g2 hbe.size)
      exact ⟨⟨1, _, _, by omega, rfl, o2, b2, fun h => by omega, fun _ => ⟨rfl, rfl⟩⟩, by simp [intOf]⟩
    · obtain rfl : j = 1 := by omega
      obtain ⟨rfl, rfl⟩ := ho rfl
      obtain ⟨A', c', rfl, l', hc1, hc2, s', ha'⟩ := sl_ownB ow
      clear hz ho ow
      go_wp2_with fail
      go_ret
      exact ⟨A', c', rfl, hc1, hc2, s', ha', hbe⟩
end Go.Proofs.Ytoocoobgidoceaa
namespace Go.Proofs.Ytoocoobgidoceaa
open Go.RowKit
set_option linter.unusedVariables false

/-- A box that holds a transcript. -/
def Box2 (W : World) (b : Nat) (v0 v1 : Value) : Prop := W.heap[b]? = some (.cells #[v0, v1] 24 (0, 0))
section
variable {W W' : World} {b : Nat} {v0 v1 : Value}
theorem Box2.lt (h : Box2 W b v0 v1) : b < W.heap.size := (Array.getElem?_eq_some_iff.1 h).1
theorem Box2.bel (h : Box2 W b v0 v1) (hb : Below W.heap.size W W') : Box2 W' b v0 v1 := (hb.block b h.lt).trans h
theorem Box2.c0 (h : Box2 W b v0 v1) : W.cell? ⟨b, 0, none⟩ = some v0 := cell_of_row W b 0 _ _ (0, 0) h
theorem Box2.c1 (h : Box2 W b v0 v1) : W.cell? ⟨b, 1, none⟩ = some v1 := cell_of_row W b 1 _ _ (0, 0) h
theorem Box2.f (h : Box2 W b v0 v1) (i : Nat) : W.frozen? ⟨b, i, none⟩ = false := by simp [World.frozen?, show W.heap[b]? = _ from h]
theorem Box2.new (W : World) (v0 v1 : Value) : Box2 (W.alloc (.cells #[v0, v1] 24)) W.heap.size v0 v1 := heap_alloc_new W _
theorem Box2.set0 (h : Box2 W b v0 v1) (u : Value) : Box2 (W.setCell ⟨b, 0, none⟩ u) b u v1 := by
  have := heap_setCell_same W b 0 #[v0, v1] 24 u h
  exact this
theorem Box2.set1 (h : Box2 W b v0 v1) (u : Value) : Box2 (W.setCell ⟨b, 1, none⟩ u) b v0 u := by
  have := heap_setCell_same W b 1 #[v0, v1] 24 u h
  exact this
theorem Box2.far (h : Box2 W b v0 v1) {p : Addr} (hp : b ≠ p.block) (u : Value) : Box2 (W.setCell p u) b v0 v1 := (Below.heap_setCell W p u b hp).trans h
theorem results_oath {fn : Func} {p u : Tmp} (hf : fn.results = #[.cell p 24, .tmp u]) (tmps : Array Value) (hp : tmps.getD p undef = .pointer (some ⟨b, 0, none⟩)) (h : Box2 W b v0 v1) :
    (results fn tmps).run Try.prog W = .ok (.tuple #[.agg #[v0, v1], tmps.getD u undef]) W := by
  rw [results_cell_tmp hf, hp]
  simp [asAddr, run_loadVar_row W b 24 _ #[v0, v1] (0, 0) _ h Try.underlying24 rfl (by kernel_rfl), Result.andThen]
theorem Box2.alloc (h : Box2 W b v0 v1) (o : Obj) : Box2 (W.alloc o) b v0 v1 := (Below.heap_alloc W o b h.lt).trans h
end
theorem Sl.up {w : World} {k : IntKind} {A : Option Addr} {xs : List Nat} (h : Sl w k A xs) {p : Addr} (hA : ∀ a, A = some a → a.block ≠ p.block) (u : Value) : Sl (w.setCell p u) k A xs := fun hp => by
  obtain ⟨b, off, rfl, hb, hc⟩ := h hp
  exact ⟨b, off, rfl, by rw [World.size_setCell]; exact hb, fun i hi => (World.cell?_of_block (a := ⟨b, off + i, none⟩) (Below.heap_setCell w p u b (hA _ rfl))).trans (hc i hi)⟩
def SayPost (n : Nat) (bs : List Nat) (asked : Int) (r : ByteArray) (w : World) (e : Ending) (w' : World) : Prop :=
  ∃ A c, e = .returned (.tuple #[.agg #[.slice A (n + r.size) c, .int .i64 asked], .int .i64 0]) ∧ n + r.size ≤ c ∧ c ≤ maxLen ∧ Sl w' .u8 A (bs ++ bytesN r) ∧ (∀ a, A = some a → w.heap.size ≤ a.block) ∧ Below w.heap.size w w'
def NoPost (w : World) (e : Ending) (w' : World) : Prop :=
  e = .returned (.tuple #[.agg #[.slice none 0 0, .int .i64 0], .int .i64 2]) ∧ Below w.heap.size w w'
/-- May it be said? -/
def MaySay (n : Nat) (label bytes : ByteArray) : Prop := label.size ≤ 32 ∧ bytes.size ≤ 65536 ∧ n ≤ 65536 ∧ n + label.size + bytes.size + 5 ≤ 65536

set_option maxHeartbeats 1000000 in
/-- oath.Say -/
theorem say_ok (A : Option Addr) (n c : Nat) (asked : Int) (bs : List Nat) (label bytes : ByteArray) (w : World) (hb : bs.length = n) (sb : Sl w .u8 A bs) (hs : MaySay n label bytes) :
    Calls Try.prog 8 #[.agg #[.slice A n c, .int .i64 asked], .string label, .string bytes] w (SayPost n bs asked (strN (recN label bytes)) w) := by
  have b0 := ((Below.refl w.heap.size w).alloc (Nat.le_refl _) (.cells #[.slice A n c, .int .i64 asked] 24)).alloc (by simp) (.cells #[.slice none 0 0, .int .i64 0] 24)
  have D1 := Lib.hid (record_ok label bytes ((w.alloc (.cells #[.slice A n c, .int .i64 asked] 24)).alloc (.cells #[.slice none 0 0, .int .i64 0] 24)) hs.1 hs.2.1)
  have x0 := (Box2.new w (.slice A n c) (.int .i64 asked)).alloc (.cells #[.slice none 0 0, .int .i64 0] 24)
  have y0 : Box2 ((w.alloc (.cells #[.slice A n c, .int .i64 asked] 24)).alloc (.cells #[.slice none 0 0, .int .i64 0] 24)) (w.heap.size + 1) (.slice none 0 0) (.int .i64 0) := by
    have := Box2.new (w.alloc (.cells #[.slice A n c, .int .i64 asked] 24)) (.slice none 0 0) (.int .i64 0)
    rwa [World.size_alloc] at this
  obtain ⟨R, hR⟩ : ∃ R, strN (recN label bytes) = R := ⟨_, rfl⟩
  have hRs : R.size = label.size + bytes.size + 5 := by rw [← hR, strN_size, recN_length]
  rw [hR] at D1 ⊢
  have hle : n + R.size ≤ 65536 := by have := hs.2.2.2; omega
  have hle' : ¬ (n : Int) > 65536 - (R.size : Int) := by omega
  have Hb := Lib.hid hb
  clear hs hb hR hRs
  go_enter Try.func8, Try.ntmps8
  go_wp2_with fail
  refine (D1.out).mono ?_
  rintro e w1 ⟨rfl, b1⟩
  have x1 := x0.bel b1
  have y1 := y0.bel b1
  have c2 := b0.trans (b1.mono b0.size)
  have s1 := sb.bel c2
  have hx0 := x1.c0
  have hx1 := x1.c1
  clear b1 x0 y0 b0 D1
  go_wp2_with fail
  have s1' : Sl (w1.alloc (.cells #[.string R] 9)) .u8 A bs := s1.bel ((Below.refl _ _).alloc (Nat.le_refl _) _)
  refine (behind_any A n c w1.heap.size bs R _ Hb.out s1' (by omega) (by simp) (by simp)).mono ?_
  rintro e w2 ⟨A2, c2', rfl, hc2, hc2', s2, ha2, b2⟩
  have x2 := (x1.alloc (.cells #[.string R] 9)).bel b2
  have y2 := (y1.alloc (.cells #[.string R] 9)).bel b2
  have c3 : Below w.heap.size w w2 := c2.trans (((Below.refl w1.heap.size w1).alloc (Nat.le_refl _) (.cells #[.string R] 9)).trans (b2.mono (by simp)) |>.mono c2.size)
  have g0 := x2.c0
  have g1 := x2.c1
  have f0 := x2.f 0
  have k0 := y2.c0
  have k1 := y2.c1
  have l0 := y2.f 0
  have l1 := y2.f 1
  clear hx0 hx1 b2
  go_wp2_with fail
  have y3 := ((y2.far (p := ⟨w.heap.size, 0, none⟩) (by simp) (.slice A2 (n + R.size) c2')).set0 (.slice A2 (n + R.size) c2')).set1 (.int .i64 asked)
  refine bodyPost_ret (results_oath rfl _ rfl y3) rfl ⟨A2, c2', rfl, hc2, hc2', ?_, fun a e => by have := ha2 a e; have := c2.size; simp at *; omega, ?_⟩
  · have hlt := x1.lt
    have hlt' := y1.lt
    refine ((s2.up (fun a e => ?_) _).up (fun a e => ?_) _).up (fun a e => ?_) _ <;> (have := ha2 a e; simp at this ⊢; omega)
  · exact ((c3.setCell (p := ⟨w.heap.size, 0, none⟩) (Nat.le_refl _) _).setCell (p := ⟨w.heap.size + 1, 0, none⟩) (by simp) _).setCell (p := ⟨w.heap.size + 1, 1, none⟩) (by simp) _
end Go.Proofs.Ytoocoobgidoceaa
namespace Go.Proofs.Ytoocoobgidoceaa
open Go.RowKit
set_option linter.unusedVariables false

set_option maxHeartbeats 1000000 in
theorem say_no (A : Option Addr) (n c : Nat) (asked : Int) (label bytes : ByteArray) (w : World) (hs : ¬ MaySay n label bytes) :
    Calls Try.prog 8 #[.agg #[.slice A n c, .int .i64 asked], .string label, .string bytes] w (NoPost w) := by
  have b0 := ((Below.refl w.heap.size w).alloc (Nat.le_refl _) (.cells #[.slice A n c, .int .i64 asked] 24)).alloc (by simp) (.cells #[.slice none 0 0, .int .i64 0] 24)
  have x0 := (Box2.new w (.slice A n c) (.int .i64 asked)).alloc (.cells #[.slice none 0 0, .int .i64 0] 24)
  have y0 : Box2 ((w.alloc (.cells #[.slice A n c, .int .i64 asked] 24)).alloc (.cells #[.slice none 0 0, .int .i64 0] 24)) (w.heap.size + 1) (.slice none 0 0) (.int .i64 0) := by
    have := Box2.new (w.alloc (.cells #[.slice A n c, .int .i64 asked] 24)) (.slice none 0 0) (.int .i64 0)
    rwa [World.size_alloc] at this
  by_cases hr : label.size ≤ 32 ∧ bytes.size ≤ 65536
  · have D1 := Lib.hid (record_ok label bytes ((w.alloc (.cells #[.slice A n c, .int .i64 asked] 24)).alloc (.cells #[.slice none 0 0, .int .i64 0] 24)) hr.1 hr.2)
    obtain ⟨R, hR⟩ : ∃ R, strN (recN label bytes) = R := ⟨_, rfl⟩
    have hRs : R.size = label.size + bytes.size + 5 := by rw [← hR, strN_size, recN_length]
    rw [hR] at D1
    have hle' : (n : Int) > 65536 - (R.size : Int) := by unfold MaySay at hs; omega
    have hRl : R.size ≤ 65600 := by omega
    clear hs hR hRs hr
    go_enter Try.func8, Try.ntmps8
    go_wp2_with fail
    refine (D1.out).mono ?_
    rintro e w1 ⟨rfl, b1⟩
    have x1 := x0.bel b1
    have y1 := y0.bel b1
    have c2 := b0.trans (b1.mono b0.size)
    have hx0 := x1.c0
    have k0 := y1.c0
    have k1 := y1.c1
    have l0 := y1.f 0
    have l1 := y1.f 1
    clear b1 x0 y0 b0 D1
    go_wp2_with fail
    have y3 := (y1.set0 (.slice none 0 0)).set1 (.int .i64 0)
    exact bodyPost_ret (results_oath rfl _ rfl y3) rfl ⟨rfl, (c2.setCell (p := ⟨w.heap.size + 1, 0, none⟩) (by simp) _).setCell (p := ⟨w.heap.size + 1, 1, none⟩) (by simp) _⟩
  · have D1 := Lib.hid (record_no label bytes ((w.alloc (.cells #[.slice A n c, .int .i64 asked] 24)).alloc (.cells #[.slice none 0 0, .int .i64 0] 24)) hr)
    have k0 := y0.c0
    have k1 := y0.c1
    have l0 := y0.f 0
    have l1 := y0.f 1
    clear hs hr
    go_enter Try.func8, Try.ntmps8
    go_wp2_with fail
    refine (D1.out).mono ?_
    rintro e w1 ⟨rfl, rfl⟩
    clear D1
    go_wp2_with fail
    first
    | exact bodyPost_ret (results_oath rfl _ rfl y0) rfl ⟨rfl, b0⟩
    | exact bodyPost_ret (results_oath rfl _ rfl ((y0.set0 (.slice none 0 0)).set1 (.int .i64 0))) rfl ⟨rfl, (b0.setCell (p := ⟨w.heap.size + 1, 0, none⟩) (by simp) _).setCell (p := ⟨w.heap.size + 1, 1, none⟩) (by simp) _⟩

instance (n : Nat) (label bytes : ByteArray) : Decidable (MaySay n label bytes) := by unfold MaySay; infer_instance
/-- What a transcript is behind a record. -/
def sayR (bs : List Nat) (asked : Int) (label bytes : ByteArray) : List Nat × Int × Int :=
  if MaySay bs.length label bytes then (bs ++ recN label bytes, asked, 0) else ([], 0, 2)
def OaPost (r : List Nat × Int × Int) (w : World) (e : Ending) (w' : World) : Prop :=
  ∃ A c, e = .returned (.tuple #[.agg #[.slice A r.1.length c, .int .i64 r.2.1], .int .i64 r.2.2]) ∧ r.1.length ≤ c ∧ c ≤ maxLen ∧ Sl w' .u8 A r.1 ∧ (∀ a, A = some a → w.heap.size ≤ a.block) ∧ Below w.heap.size w w'
theorem OaPost.ok {n : Nat} {bs : List Nat} {asked : Int} {label bytes : ByteArray} {w w' : World} {e : Ending} (hb : bs.length = n) (hs : MaySay n label bytes) (h : SayPost n bs asked (strN (recN label bytes)) w e w') : OaPost (sayR bs asked label bytes) w e w' := by
  subst hb
  obtain ⟨A, c, rfl, h1, h2, h3, h5, h4⟩ := h
  have e1 : (bs ++ recN label bytes).length = bs.length + (strN (recN label bytes)).size := by rw [List.length_append, strN_size]
  rw [bytesN_strN (recN_byt hs.1 hs.2.1)] at h3
  unfold sayR
  rw [if_pos hs]
  exact ⟨A, c, by rw [e1], by rw [e1]; exact h1, h2, h3, h5, h4⟩
theorem OaPost.no {n : Nat} {bs : List Nat} {asked : Int} {label bytes : ByteArray} {w w' : World} {e : Ending} (hb : bs.length = n) (hs : ¬ MaySay n label bytes) (h : NoPost w e w') : OaPost (sayR bs asked label bytes) w e w' := by
  subst hb
  obtain ⟨rfl, h4⟩ := h
  unfold sayR
  rw [if_neg hs]
  exact ⟨none, 0, rfl, Nat.le_refl _, Nat.zero_le _, Sl.nil _ _ _, fun a h => (by cases h), h4⟩
theorem say_any (A : Option Addr) (n c : Nat) (asked : Int) (bs : List Nat) (label bytes : ByteArray) (w : World) (hb : bs.length = n) (sb : Sl w .u8 A bs) :
    Calls Try.prog 8 #[.agg #[.slice A n c, .int .i64 asked], .string label, .string bytes] w (OaPost (sayR bs asked label bytes) w) := by
  by_cases hs : MaySay n label bytes
  · exact (say_ok A n c asked bs label bytes w hb sb hs).mono fun e w' h => OaPost.ok hb hs h
  · exact (say_no A n c asked label bytes w hs).mono fun e w' h => OaPost.no hb hs h

set_option maxHeartbeats 1000000 in
/-- oath.New -/
theorem new_any (label : ByteArray) (w : World) :
    Calls Try.prog 10 #[.string label] w (OaPost (sayR [] 0 label ⟨#[]⟩) w) := by
  have b0 := (Below.refl w.heap.size w).alloc (Nat.le_refl _) (.cells #[.slice none 0 0, .int .i64 0] 24)
  have y0 := Box2.new w (.slice none 0 0) (.int .i64 0)
  have D1 := Lib.hid (say_any none 0 0 0 [] label ⟨#[]⟩ (w.alloc (.cells #[.slice none 0 0, .int .i64 0] 24)) rfl (Sl.nil _ _ _))
  generalize sayR [] 0 label ⟨#[]⟩ = r at *
  go_enter Try.func10, Try.ntmps10
  go_wp2_with fail
  refine (D1.out).mono ?_
  rintro e w1 ⟨A1, c1, rfl, h1, h2, s1, a1, b1⟩
  have y1 := y0.bel b1
  have k0 := y1.c0
  have k1 := y1.c1
  have l0 := y1.f 0
  have l1 := y1.f 1
  have c2 := b0.trans (b1.mono b0.size)
  clear D1
  go_wp2_with fail
  have hlt := y1.lt
  refine bodyPost_ret (results_oath rfl _ rfl ((y1.set0 (.slice A1 r.1.length c1)).set1 (.int .i64 r.2.1))) rfl ⟨A1, c1, rfl, h1, h2, (s1.up (fun a e => ?_) _).up (fun a e => ?_) _, fun a e => ?_, (c2.setCell (p := ⟨w.heap.size, 0, none⟩) (by simp) _).setCell (p := ⟨w.heap.size, 1, none⟩) (by simp) _⟩ <;> (have := a1 a e; simp at this ⊢; omega)

set_option maxHeartbeats 1000000 in
/-- chirographlaw14.alive -/
theorem alive14_any (w : World) :
    Calls Try.prog 11 #[] w fun e w' => e = .returned (.bool true) ∧ Below w.heap.size w w' := by
  have D1 := Lib.hid (new_any ⟨#[97]⟩ w)
  have hr : sayR [] 0 ⟨#[97]⟩ ⟨#[]⟩ = ([1, 97, 0, 0, 0, 0], 0, 0) := by rfl
  rw [hr] at D1
  go_enter Try.func11, Try.ntmps11
  go_wp2_with fail
  refine (D1.out).mono ?_
  rintro e w1 ⟨A1, c1, rfl, h1, h2, s1, a1, b1⟩
  clear D1
  go_wp2_with fail
  go_ret
  exact ⟨rfl, b1.alloc b1.size _⟩

set_option maxHeartbeats 1000000 in
/-- chirographref14.Like, of the like -/
theorem like14_any (A B : Option Addr) (n c d : Nat) (asked : Int) (bs : List Nat) (w : World) (hb : bs.length = n) (ob : Byt bs) (sa : Sl w .u8 A bs) (sb : Sl w .u8 B bs) :
    Calls Try.prog 12 #[.agg #[.slice A n c, .int .i64 asked], .agg #[.slice B n d, .int .i64 asked]] w fun e w' => e = .returned (.bool true) ∧ Below w.heap.size w w' := by
  have b0 := ((Below.refl w.heap.size w).alloc (Nat.le_refl _) (.cells #[.slice A n c, .int .i64 asked] 24)).alloc (by simp) (.cells #[.slice B n d, .int .i64 asked] 24)
  have h1 := conv_sl (c := c) hb ob (sa.bel b0)
  have h2 := conv_sl (c := d) hb ob (sb.bel b0)
  clear hb
  go_enter Try.func12, Try.ntmps12
  go_wp2_with fail
  go_ret
  exact ⟨rfl, b0⟩

def shortB (s : ByteArray) : ByteArray := if 500 < s.size ∧ s.size < 60000 then s.extract 0 500 else s
set_option maxHeartbeats 1000000 in
/-- chirographlaw14.short -/
theorem short_any (s : ByteArray) (w : World) :
    Calls Try.prog 7 #[.string s] w fun e w' => e = .returned (.string (shortB s)) ∧ w' = w := by
  obtain ⟨n, hn⟩ : ∃ n, s.size = n := ⟨_, rfl⟩
  have hne : (s.size : Int) = (n : Int) := by omega
  by_cases h1 : 500 < n
  · have h1' : (n : Int) > 500 := by omega
    by_cases h2 : n < 60000
    · have h2' : (n : Int) < 60000 := by omega
      have h3 : (500 : Int) ≤ (n : Int) := by omega
      have hr : Hid (shortB s = s.extract 0 500) := Lib.hid (by unfold shortB; rw [if_pos (by omega)])
      go_enter Try.func7, Try.ntmps7
      go_wp2_with fail
      go_ret
      exact ⟨by rw [hr.out]; rfl, rfl⟩
    · have h2' : ¬ (n : Int) < 60000 := by omega
      have hr : Hid (shortB s = s) := Lib.hid (by unfold shortB; rw [if_neg (by omega)])
      clear hn
      go_enter Try.func7, Try.ntmps7
      go_wp2_with fail
      go_ret
      exact ⟨by rw [hr.out]; rfl, rfl⟩
  · have h1' : ¬ (n : Int) > 500 := by omega
    have hr : Hid (shortB s = s) := Lib.hid (by unfold shortB; rw [if_neg (by omega)])
    clear hn
    go_enter Try.func7, Try.ntmps7
    go_wp2_with fail
    go_ret
    exact ⟨by rw [hr.out]; rfl, rfl⟩
end Go.Proofs.Ytoocoobgidoceaa
