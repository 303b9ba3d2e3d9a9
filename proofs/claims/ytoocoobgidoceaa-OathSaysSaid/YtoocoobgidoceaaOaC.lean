import Derived.Test.YtoocoobgidoceaaOaB
namespace Go.Proofs.Ytoocoobgidoceaa
open Go.RowKit
set_option linter.unusedVariables false

theorem own_lit8 (w : World) (l : List Nat) {n : Nat} (hl : l.length = n) (hn : n ≤ 1000) : (w.alloc (.cells (lim .u8 l) 5)).ownsRow w.heap.size 5 1 (.slice (some ⟨w.heap.size, 0, none⟩) n n) n (u8s l) := by
  have h := World.ownsRow_lit (base := w.heap.size) (e := 5) (size := 1) w (lim .u8 l) n (Nat.le_refl _) (by unfold maxLen; omega) (by rw [lim_size, hl, Nat.mul_one])
  have e : (lim .u8 l).toList = u8s l := by simp [lim, u8s]
  rw [e] at h
  exact h
theorem below_gr {B : Nat} {a w w' : World} {v : Value} {n : Nat} {zs : List Value} (h : Below B a w) (hown : w.ownsRow B 5 1 v n zs) (hg : w.grownBy w' v.ownBlock) (hB : B ≤ w.heap.size) : Below B a w' :=
  h.grown hg hB fun k hk => by have := (hown.lt k hk).1; omega
theorem ne_nilB {w : World} {B n : Nat} {v : Value} {xs : List Nat} (h : w.ownsRow B 5 1 v n (u8s xs)) (hn : 0 < n) : v ≠ .slice none 0 0 := by
  rintro rfl
  rcases h.2 with ⟨_, h0⟩ | ⟨g, _, _, h1, _⟩
  · omega
  · cases h1

theorem wpList_app_str {w : World} {ops : Array Oper} {rest : List Oper} {o : Oper} {a : Act} {Q : Exit → Act → World → Prop} (hgd : o.guard = none) (s x : Operand)
    (ho : o.op = .call { callee := .builtin .append, args := #[s, x], argTypes := #[22, 9] }) {B n : Nat} {v : Value} {xs : List Nat} (hs : a.eval s = v) (h : w.ownsRow B 5 1 v n (u8s xs)) (st : ByteArray) (hx : a.eval x = .string st)
    (hn : n + st.size ≤ 1000000) (hB : B ≤ w.heap.size) (K : ∀ v' w', w'.ownsRow B 5 1 v' (n + st.size) (u8s (xs ++ bytesN st)) → w.grownBy w' v.ownBlock → wpList Try.prog ops Q rest (a.put o.dst v') w') : wpList Try.prog ops Q (o :: rest) a w := by
  refine wpList_plain hgd fun K' hK => ?_
  obtain ⟨v', w', hr, h2, h3⟩ := run_app_str h st hn hB o.type
  unfold Oper.wp
  simp [execOp, ho, resolve, invoke, builtin, hs, hx, hr, Result.andThen]
  exact hK _ _ (K v' w' h2 h3)
theorem wpList_app_sl {w : World} {ops : Array Oper} {rest : List Oper} {o : Oper} {a : Act} {Q : Exit → Act → World → Prop} (hgd : o.guard = none) (s x : Operand)
    (ho : o.op = .call { callee := .builtin .append, args := #[s, x], argTypes := #[22, 22] }) {B n m c : Nat} {v : Value} {xs ys : List Nat} {A : Option Addr} (hs : a.eval s = v) (h : w.ownsRow B 5 1 v n (u8s xs)) (hx : a.eval x = .slice A m c) (hm : ys.length = m) (sy : Sl w .u8 A ys) (hv : v ≠ .slice none 0 0)
    (hn : n + m ≤ 1000000) (hB : B ≤ w.heap.size) (K : ∀ v' w', w'.ownsRow B 5 1 v' (n + m) (u8s (xs ++ ys)) → w.grownBy w' v.ownBlock → wpList Try.prog ops Q rest (a.put o.dst v') w') : wpList Try.prog ops Q (o :: rest) a w := by
  refine wpList_plain hgd fun K' hK => ?_
  obtain ⟨v', w', hr, h2, h3⟩ := run_app_sl (c := c) h hm sy hv hn hB o.type
  unfold Oper.wp
  simp [execOp, ho, resolve, invoke, builtin, hs, hx, hr, Result.andThen]
  exact hK _ _ (K v' w' h2 h3)

set_option maxHeartbeats 1000000 in
/-- chirographref14.Record -/
theorem rrecord_any (label bytes : ByteArray) (w : World) (h1 : label.size ≤ 32) (h2 : bytes.size ≤ 65536) :
    Calls Try.prog 20 #[.string label, .string bytes] w fun e w' => e = .returned (.string (strN (recN label bytes))) ∧ Below w.heap.size w w' := by
  obtain ⟨n, hn⟩ : ∃ n, bytes.size = n := ⟨_, rfl⟩
  obtain ⟨m, hm⟩ : ∃ m, label.size = m := ⟨_, rfl⟩
  obtain ⟨q0, hq0⟩ : ∃ q, n % 256 = q := ⟨_, rfl⟩
  obtain ⟨q1, hq1⟩ : ∃ q, n / 256 % 256 = q := ⟨_, rfl⟩
  obtain ⟨q2, hq2⟩ : ∃ q, n / 65536 % 256 = q := ⟨_, rfl⟩
  obtain ⟨q3, hq3⟩ : ∃ q, n / 16777216 = q := ⟨_, rfl⟩
  obtain ⟨p2, hp2⟩ : ∃ q, n / 65536 = q := ⟨_, rfl⟩
  obtain ⟨p1, hp1⟩ : ∃ q, n / 256 = q := ⟨_, rfl⟩
  have hme : (label.size : Int) = (m : Int) := by omega
  have hne : (bytes.size : Int) = (n : Int) := by omega
  have em : IntKind.u8.wrap (m : Int) = (m : Int) := by rw [IntKind.wrap_u8]; omega
  have e0 : IntKind.u8.wrap (q0 : Int) = (q0 : Int) := by rw [IntKind.wrap_u8]; omega
  have e1 : IntKind.u8.wrap (q1 : Int) = (q1 : Int) := by rw [IntKind.wrap_u8]; omega
  have e2 : IntKind.u8.wrap (q2 : Int) = (q2 : Int) := by rw [IntKind.wrap_u8]; omega
  have e3 : IntKind.u8.wrap (q3 : Int) = (q3 : Int) := by rw [IntKind.wrap_u8]; omega
  have d3 : (n : Int).tdiv 16777216 = (q3 : Int) := by rw [← hq3]; rfl
  have d3' : (n : Int) / 16777216 = (q3 : Int) := by omega
  have d2 : (n : Int).tdiv 65536 = (p2 : Int) := by rw [← hp2]; rfl
  have d2' : (n : Int) / 65536 = (p2 : Int) := by omega
  have d1 : (n : Int).tdiv 256 = (p1 : Int) := by rw [← hp1]; rfl
  have d1' : (n : Int) / 256 = (p1 : Int) := by omega
  have r2 : (p2 : Int).tmod 256 = (q2 : Int) := by rw [← hq2, hp2]; rfl
  have r2' : (p2 : Int) % 256 = (q2 : Int) := by omega
  have r1 : (p1 : Int).tmod 256 = (q1 : Int) := by rw [← hq1, hp1]; rfl
  have r1' : (p1 : Int) % 256 = (q1 : Int) := by omega
  have r0 : (n : Int).tmod 256 = (q0 : Int) := by rw [← hq0]; rfl
  have r0' : (n : Int) % 256 = (q0 : Int) := by omega
  have o0 := own_lit8 w [m] (n := 1) rfl (by omega)
  have b0 := (Below.refl w.heap.size w).alloc (Nat.le_refl _) (.cells (lim .u8 [m]) 5)
  have HE : Hid ([m] ++ bytesN label ++ [q3, q2, q1, q0] ++ bytesN bytes = recN label bytes) := Lib.hid (by unfold recN; rw [hm, hn, hq0, hq1, hq2, hq3])
  have HB := Lib.hid (recN_byt h1 h2)
  have l1 : m ≤ 32 := by omega
  have l2 : n ≤ 65536 := by omega
  clear hq0 hq1 hq2 hq3 hp1 hp2 h1 h2
  go_enter Try.func20, Try.ntmps20
  go_wp2_with (first
    | (at_builtin; refine wpList_app_str rfl (.tmp 13) (.tmp 14) rfl rfl o0 label rfl (by rw [hm]; omega) (by simp) ?_; intro v1 w1 o1 g1; have b1 := below_gr b0 o0 g1 (by simp); have o1' := o1.alloc (.cells (lim .u8 [q3, q2, q1, q0]) 5); have b1' := b1.alloc b1.size (.cells (lim .u8 [q3, q2, q1, q0]) 5); have s1 := Sl.of_own (Own.new w1 5 .u8 [q3, q2, q1, q0]))
    | (at_builtin; refine wpList_app_sl rfl (.tmp 16) (.tmp 31) rfl rfl o1' rfl rfl s1 (ne_nilB o1' (by omega)) (by rw [hm]; omega) b1'.size ?_; intro v2 w2 o2 g2; have b2 := below_gr b1' o1' g2 b1'.size)
    | (at_builtin; refine wpList_app_str rfl (.tmp 33) (.tmp 34) rfl rfl o2 bytes rfl (by rw [hm, hn]; omega) b2.size ?_; intro v3 w3 o3 g3; have b3 := below_gr b2 o2 g3 b2.size; rw [HE.out] at o3; obtain ⟨A3, c3, rfl, l3, h3, h3', s3, _⟩ := sl_ownB o3; have hcv := conv_sl (c := c3) l3 HB.out s3; rw [hm, hn] at hcv; clear o3 s3 l3 g3 o2 g2))
  go_ret
  exact ⟨rfl, b3⟩

def BehRel (bs : List Nat) (n : Nat) (r : ByteArray) (w : World) (i v : Value) (wr : World) : Prop :=
  ∃ (j k : Nat) (xs : List Nat), j ≤ 1 ∧ i = .int .i64 (j : Int) ∧ wr.ownsRow w.heap.size 5 1 v k (u8s xs) ∧ Below w.heap.size w wr ∧ (j = 0 → k = n ∧ xs = bs) ∧ (j = 1 → k = n + r.size ∧ xs = bs ++ bytesN r)
set_option maxHeartbeats 1000000 in
/-- oath.behind, of one text -/
theorem behind_any (A : Option Addr) (n c T : Nat) (bs : List Nat) (r : ByteArray) (w : World) (hb : bs.length = n) (sb : Sl w .u8 A bs) (hn : n + r.size ≤ 100000) (hT : T < w.heap.size) (hc : w.cell? ⟨T, 0, none⟩ = some (.string r)) :
    Calls Try.prog 18 #[.slice A n c, .slice (some ⟨T, 0, none⟩) 1 1] w fun e w' => ∃ A' c', e = .returned (.slice A' (n + r.size) c') ∧ n + r.size ≤ c' ∧ c' ≤ maxLen ∧ Sl w' .u8 A' (bs ++ bytesN r) ∧ (∀ a, A' = some a → w.heap.size ≤ a.block) ∧ Below w.heap.size w w' := by
  have o0 := own_lit8 w [] (n := 0) rfl (by omega)
  have b0 := (Below.refl w.heap.size w).alloc (Nat.le_refl _) (.cells (lim .u8 []) 5)
  have Sb := sb.bel b0
  have Hb := Lib.hid hb
  clear hb
  go_enter Try.func18, Try.ntmps18
  go_wp2_with (at_builtin; refine wpList_app_sl rfl (.tmp 8) (.tmp 9) rfl rfl o0 rfl Hb.out Sb (by intro h; cases h) (by omega) (by simp) ?_; intro v1 w1 o1 g1; have b1 := below_gr b0 o0 g1 (by simp); rw [List.nil_append, Nat.zero_add] at o1)
  go_loopw [13, 5] (BehRel bs n r w) (fun i _ _ => 1 - (intOf i).toNat)
  case atStart => exact ⟨0, n, bs, by omega, rfl, o1, b1, fun _ => ⟨rfl, rfl⟩, fun h => by omega⟩
  case round =>
    clear o1 b1
    obtain ⟨j, k, xs, hj, rfl, ow, hbe, hz, ho⟩ := hrel
    by_cases h0 : j = 0
    · subst h0
      obtain ⟨rfl, rfl⟩ := hz rfl
      clear hz ho
      have hct := (hbe.cell (p := ⟨T, 0, none⟩) hT).trans hc
      go_wp2_with (at_builtin; refine wpList_app_str rfl (.tmp 17) (.tmp 18) rfl rfl ow r rfl (by omega) hbe.size ?_; intro v2 w2 o2 g2; have b2 := below_gr hbe ow g2 hbe.size)
      exact ⟨⟨1, _, _, by omega, rfl, o2, b2, fun h => by omega, fun _ => ⟨rfl, rfl⟩⟩, by simp [intOf]⟩
    · obtain rfl : j = 1 := by omega
      obtain ⟨rfl, rfl⟩ := ho rfl
      obtain ⟨A', c', rfl, l', hc1, hc2, s', ha'⟩ := sl_ownB ow
      clear hz ho ow
      go_wp2_with fail
      go_ret
      exact ⟨A', c', rfl, hc1, hc2, s', ha', hbe⟩
end Go.Proofs.Ytoocoobgidoceaa
