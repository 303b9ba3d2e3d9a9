import Derived.Test.YtjcbbkkoheedpaaNatPGM
import Derived.Laws.Cover1
import Derived.Deep.Upon
import Derived.Laws.Strings2
import Derived.Lib.Strings
namespace Go.Proofs.Ytjcbbkkoheedpaa

/-- The bytes of a number are in the number's order. -/
theorem PL_toB {xs : List Nat} {n : Nat} (ox : Ok xs) : PL xs n (8 * n) = toB (val xs) (8 * n) := by
  have key : ∀ m, m ≤ 8 * n → (List.range m).map (fun t => val xs / 256 ^ (m - 1 - t) % 256) = toB (val xs) m := by
    intro m
    induction m with
    | zero => intro _; rfl
    | succ m ih =>
      intro hm
      rw [toB, ← ih (by omega), List.range_succ_eq_map, List.map_cons, List.map_map]
      congr 1
      apply List.map_congr_left
      intro t ht
      have := List.mem_range.1 ht
      show val xs / 256 ^ (m + 1 - 1 - (t + 1)) % 256 = _
      rw [show m + 1 - 1 - (t + 1) = m - 1 - t by omega]
  rw [← key (8 * n) (Nat.le_refl _)]
  unfold PL
  apply List.map_congr_left
  intro t ht
  have := List.mem_range.1 ht
  rw [pbyte, byte_limb ox _ _ (Nat.mod_lt _ (by decide))]
  rw [show 8 * ((8 * n - 1 - t) / 8) + (8 * n - 1 - t) % 8 = 8 * n - 1 - t by omega]
theorem be_PL {xs : List Nat} {n : Nat} (hx : xs.length = n) (ox : Ok xs) : be (PL xs n (8 * n)) = val xs := by
  rw [PL_toB ox, be_toB, ← pw_256, ← hx, Nat.mod_eq_of_lt (val_lt ox)]
theorem ofNat_lt {a b : Nat} (ha : a < 256) (hb : b < 256) : (UInt8.ofNat a < UInt8.ofNat b) ↔ a < b := by
  rw [UInt8.lt_iff_toNat_lt]
  simp [Nat.mod_eq_of_lt ha, Nat.mod_eq_of_lt hb]
theorem ofNat_eq {a b : Nat} (ha : a < 256) (hb : b < 256) : (UInt8.ofNat a = UInt8.ofNat b) ↔ a = b := by
  rw [← UInt8.toNat_inj]
  simp [Nat.mod_eq_of_lt ha, Nat.mod_eq_of_lt hb]
theorem be_cons (a : Nat) (l : List Nat) : be (a :: l) = 256 ^ l.length * a + be l := by
  rw [show a :: l = [a] ++ l from rfl, be_append]; simp [be]
theorem less_be : ∀ {l m : List Nat}, Bytes l → Bytes m → l.length = m.length → Op.bytesLess (l.map UInt8.ofNat) (m.map UInt8.ofNat) = decide (be l < be m)
  | [], [], _, _, _ => by simp [Op.bytesLess, be]
  | [], _ :: _, _, _, h => by simp at h
  | _ :: _, [], _, _, h => by simp at h
  | a :: l, b :: m, hl, hm, h => by
    have h' : l.length = m.length := by simpa using h
    have ha : a < 256 := hl a (by simp)
    have hb : b < 256 := hm b (by simp)
    have hl' : Bytes l := fun x hx => hl x (by simp [hx])
    have hm' : Bytes m := fun x hx => hm x (by simp [hx])
    have ih := less_be hl' hm' h'
    have b1 := be_lt hl'
    have b2 := be_lt hm'
    rw [List.map_cons, List.map_cons, Op.bytesLess, ih, be_cons, be_cons, h']
    rw [h'] at b1
    generalize 256 ^ m.length = P at *
    by_cases hab : a = b
    · subst hab
      simp
    · have e1 : (UInt8.ofNat a == UInt8.ofNat b) = false := by simp [ofNat_eq ha hb, hab]
      rw [e1]
      simp only [Bool.false_and, Bool.or_false]
      by_cases hlt : a < b
      · have h2 : P * a + P ≤ P * b := by rw [← Nat.mul_succ]; exact Nat.mul_le_mul_left _ hlt
        rw [decide_eq_true ((ofNat_lt ha hb).2 hlt), decide_eq_true (by omega)]
      · have hgt : b < a := by omega
        have h2 : P * b + P ≤ P * a := by rw [← Nat.mul_succ]; exact Nat.mul_le_mul_left _ hgt
        rw [decide_eq_false (fun k => hlt ((ofNat_lt ha hb).1 k)), decide_eq_false (by omega)]
theorem strN_data (l : List Nat) : (strN l).data.toList = l.map UInt8.ofNat := by
  unfold strN strOfNums
  simp
section
open Go.RowKit
variable {P : Program} {w : World}
/-- A row of 64-bit numbers is appended to a row of the call's own; where it has no numbers its address may be none. -/
theorem wpList_append_sl {ops : Array Oper} {rest : List Oper} {o : Oper} {a : Act} {Q : Exit → Act → World → Prop} (hgd : Region.wanted o (yielded ops a.tmps) = true) (s x : Operand) (t : TypeId)
    (ho : o.op = .call { callee := .builtin .append, args := #[s, x], argTypes := #[t, t] })
    (base : Nat) (e : TypeId) (i : TypeInfo) (z : Value) (ht : P.underlying t = some (.slice e)) (hi : P.info? e = some i) (hz : i.zero = some z)
    (hsize : i.size = 1) (hby : i.bytes = 8) (hzs : z.cells.size = 1)
    (v : Value) (n : Nat) (zs : List Nat) (hs : a.eval s = v) (hown : w.ownsRow base e 1 v n (u64s zs)) (hv : v ≠ .slice none 0 0)
    (A : Option Addr) (m c : Nat) (xs : List Nat) (hx : a.eval x = .slice A m c) (hl : xs.length = m) (hS : Sl w .u64 A xs)
    (h63 : n + m ≤ 1000) (hbase : base ≤ w.heap.size)
    (h : ∀ v' w', w'.ownsRow base e 1 v' (n + m) (u64s zs ++ u64s xs) → w.grownBy w' v.ownBlock → (v' = .slice none 0 0 ↔ v = .slice none 0 0 ∧ m = 0) → wpList P ops Q rest (a.put o.dst v') w') : wpList P ops Q (o :: rest) a w := by
  refine wpList_step fun K hK => ?_
  rw [if_pos hgd]
  by_cases h0 : m = 0
  · subst h0
    obtain rfl : xs = [] := List.eq_nil_of_length_eq_zero hl
    rcases hown.2 with ⟨rfl, _⟩ | ⟨g, cap, cur, rfl, hb, hg, hnc, hcm, hcs, htk⟩
    · exact absurd rfl hv
    · have hsrc : Src P i.size t (.slice A 0 c) 0 [] w := by
        refine ⟨.inl ⟨e, ht⟩, fun w' => by simp [Builtin.lenOf], ?_, ?_, by simp, by simp⟩
        · cases A with
          | none => simp [Builtin.firstCells]
          | some b => exact run_firstCells_some (P := P) w i.size 0 b 0 c [] (by simp) (fun j u hj => by simp at hj)
        · cases A with
          | none => simp [Builtin.firstCells]
          | some b => exact run_firstCells_some (P := P) w.drew i.size 0 b 0 c [] (by simp) (fun j u hj => by simp at hj)
      have hrun := run_append_nothing (P := P) w t t o.type e i ht hi (some ⟨g, 0, none⟩) n cap hnc (.slice A 0 c) hsrc
      unfold Oper.wp execOp
      simp only [ho, resolve, invoke, builtin, Sem.run_bind, Sem.run_pure, Result.andThen_ok, List.map_toArray, List.map_cons, List.map_nil, hs, hx, hrun]
      exact hK _ _ (h _ w (by simpa [u64s] using hown) ⟨rfl, rfl, rfl, Nat.le_refl _, fun _ _ _ => rfl⟩ (by simp [hv]))
  · obtain ⟨b, off, rfl, _, hc⟩ := hS (by omega)
    exact wp_append_own w s x t ho base e i z 1 8 ht hi hz hsize hby hzs (by decide) v n (u64s zs) hs hown ⟨b, off, none⟩ m c (u64s xs) hx (by simp [u64s, hl]) (sl_news hS) (u64s_one _) (by unfold maxLen; omega) (by omega) hbase fun v' w' h2 h3 h4 => hK _ _ (h v' w' h2 h3 h4)
end
end Go.Proofs.Ytjcbbkkoheedpaa
