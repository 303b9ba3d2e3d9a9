import Derived.Test.YtoocoobgidoceaaMontA
import Derived.StillTailTactics
namespace Go.Proofs.Ytoocoobgidoceaa
open Go.RowKit
set_option linter.unusedVariables false

/-! The plain law of one round of the Montgomery product. -/
/-- Inner step: x times a limb, added in. -/
theorem prod_in {V p o c x y R S : Nat} (h : V + p * c = R + x * S) : (V + p * loS x y o c) + (18446744073709551616 * p) * hiS x y o c = (R + p * o) + x * (S + p * y) := by
  have h2 := hi_lo x y o c
  have h3 : p * (loS x y o c + 18446744073709551616 * hiS x y o c) = p * (x * y) + p * o + p * c := by rw [h2, Nat.mul_add, Nat.mul_add]
  rw [Nat.mul_add] at h3
  have h4 : (18446744073709551616 * p) * hiS x y o c = p * (18446744073709551616 * hiS x y o c) := by rw [Nat.mul_comm 18446744073709551616 p, Nat.mul_assoc]
  have h5 : x * (S + p * y) = x * S + p * (x * y) := by rw [Nat.mul_add, Nat.mul_left_comm]
  omega
/-- The limb that makes the lowest one 0. -/
theorem prod_q {r n m0 : Nat} (h : m0 % 2 = 1) (hn : NegIs m0 n) : (r * n % 18446744073709551616 * m0 + r) % 18446744073709551616 = 0 := by
  have h1 := hn.2.2 h
  have e1 : (r * n % 18446744073709551616 * m0 + r) % 18446744073709551616 = (r * (m0 * n) + r) % 18446744073709551616 := by
    rw [Nat.add_mod, Nat.mod_mul_mod, ← Nat.add_mod, Nat.mul_assoc, Nat.mul_comm n m0]
  have e2 : (r * (m0 * n) + r) % 18446744073709551616 = (r * (m0 * n + 1)) % 18446744073709551616 := by rw [Nat.mul_add, Nat.mul_one]
  have e3 : (m0 * n + 1) % 18446744073709551616 = 0 := by omega
  rw [e1, e2, Nat.mul_mod, e3, Nat.mul_zero, Nat.zero_mod]
/-- What is carried out of the lowest limb. -/
theorem prod_c0 {q m0 r : Nat} (hq : q < 18446744073709551616) (hm : m0 < 18446744073709551616) (hr : r < 18446744073709551616) (h : (q * m0 + r) % 18446744073709551616 = 0) :
    18446744073709551616 * (mulHi q m0 + addHi (mulLo q m0) r 0) = q * m0 + r ∧ mulHi q m0 + addHi (mulLo q m0) r 0 < 18446744073709551616 := by
  have h1 := hi1_lt hq hm hr
  unfold mulHi mulLo addHi
  simp only [Nat.add_zero] at *
  omega
/-- The round's end. -/
theorem prod_end {V2 V3 p c rk cc q M T' T X : Nat} (h3 : 18446744073709551616 * (V3 + p * c) = V2 + q * M) (h2 : V2 + 18446744073709551616 * p * rk + 18446744073709551616 * (18446744073709551616 * p) * cc = T + X)
    (h4 : T' = V3 + p * addLo rk c 0 + 18446744073709551616 * p * (cc + addHi rk c 0)) : 18446744073709551616 * T' = T + X + q * M := by
  have e : addLo rk c 0 + 18446744073709551616 * addHi rk c 0 = rk + c := by unfold addLo addHi; omega
  have e2 : p * (addLo rk c 0 + 18446744073709551616 * addHi rk c 0) = p * rk + p * c := by rw [e, Nat.mul_add]
  rw [Nat.mul_add] at e2
  have e3 : p * (18446744073709551616 * addHi rk c 0) = 18446744073709551616 * (p * addHi rk c 0) := Nat.mul_left_comm _ _ _
  rw [Nat.mul_add] at h4
  have e4 : 18446744073709551616 * p * addHi rk c 0 = 18446744073709551616 * (p * addHi rk c 0) := Nat.mul_assoc _ _ _
  have e5 : 18446744073709551616 * p * cc = 18446744073709551616 * (p * cc) := Nat.mul_assoc _ _ _
  have e6 : 18446744073709551616 * p * rk = 18446744073709551616 * (p * rk) := Nat.mul_assoc _ _ _
  have e7 : 18446744073709551616 * (18446744073709551616 * p) * cc = 18446744073709551616 * (18446744073709551616 * (p * cc)) := by rw [Nat.mul_assoc, Nat.mul_assoc]
  rw [e4, e5] at h4
  rw [e6, e7] at h2
  rw [Nat.mul_add] at h3
  rw [h4]
  omega
/-- The bound that a round keeps. -/
theorem prod_bound {T' T x q Bv M : Nat} (h : 18446744073709551616 * T' = T + x * Bv + q * M) (hT : T < Bv + M) (hx : x < 18446744073709551616) (hq : q < 18446744073709551616) : T' < Bv + M := by
  have h1 : x * Bv ≤ 18446744073709551615 * Bv := Nat.mul_le_mul_right _ (by omega)
  have h2 : q * M ≤ 18446744073709551615 * M := Nat.mul_le_mul_right _ (by omega)
  omega
theorem prod_cong {p T T' x q Bv M A Q : Nat} (h : 18446744073709551616 * T' = T + x * Bv + q * M) (hA : p * T = A * Bv + Q * M) : (18446744073709551616 * p) * T' = (A + p * x) * Bv + (Q + p * q) * M := by
  have e1 : (18446744073709551616 * p) * T' = p * (18446744073709551616 * T') := by rw [Nat.mul_comm 18446744073709551616 p, Nat.mul_assoc]
  rw [e1, h, Nat.mul_add, Nat.mul_add, hA, Nat.add_mul, Nat.add_mul, Nat.mul_assoc, Nat.mul_assoc]
  omega
theorem redN_mod {T M : Nat} (h : T < 2 * M) : redN T M < M ∧ redN T M % M = T % M := by
  unfold redN
  split
  · rename_i h1
    exact ⟨by omega, by rw [Nat.mod_eq_sub_mod h1]⟩
  · exact ⟨by omega, rfl⟩

/-- The rows of the outer loop. -/
def ProdRel (xs : List Nat) (Bv M k g : Nat) (w : World) (iv : Value) (wr : World) : Prop :=
  ∃ (i Q : Nat) (rs : List Nat), i ≤ k ∧ iv = .int .i64 (i : Int) ∧ rs.length = 10 ∧ Ok rs ∧ Own wr g 78 .u64 rs ∧ Below w.heap.size w wr ∧ val (rs.take (k + 1)) < Bv + M ∧ pw i * val (rs.take (k + 1)) = val (xs.take i) * Bv + Q * M
/-- The rows of the second inner loop. -/
def ProdIn (r2 ms : List Nat) (q k g : Nat) (w : World) (jv cy : Value) (wr : World) : Prop :=
  ∃ (p c : Nat) (rs : List Nat), p + 1 ≤ k ∧ jv = .int .i64 ((p : Int) + 1) ∧ cy = .int .u64 (c : Int) ∧ c < 18446744073709551616 ∧ rs.length = 10 ∧ Ok rs ∧ Own wr g 78 .u64 rs ∧ Below w.heap.size w wr ∧
    18446744073709551616 * (val (rs.take p) + pw p * c) = val (r2.take (p + 1)) + q * val (ms.take (p + 1)) ∧ ∀ t, p ≤ t → nth rs t = nth r2 t
theorem ProdIn.step {r2 ms rs : List Nat} {q k g p c : Nat} {w wr wr' : World} {iv cv : Int} (hq : q < 18446744073709551616) (om : Ok ms) (hp : p + 2 ≤ k) (hk : k ≤ 8) (hc : c < 18446744073709551616) (hr : rs.length = 10) (or_ : Ok rs) (own : Own wr g 78 .u64 rs)
    (hb : Below w.heap.size w wr) (hg : w.heap.size ≤ g) (h : 18446744073709551616 * (val (rs.take p) + pw p * c) = val (r2.take (p + 1)) + q * val (ms.take (p + 1))) (hkeep : ∀ t, p ≤ t → nth rs t = nth r2 t)
    (ew : wr.setCell ⟨g, p, none⟩ (.int .u64 iv) = wr') (e1 : iv = (loS q (nth ms (p + 1)) (nth rs (p + 1)) c : Nat)) (e2 : cv = (hiS q (nth ms (p + 1)) (nth rs (p + 1)) c : Nat)) :
    ProdIn r2 ms q k g w (.int .i64 ((p : Int) + 1 + 1)) (.int .u64 cv) wr' := by
  subst ew e1
  refine ⟨p + 1, _, rs.set p (loS q (nth ms (p + 1)) (nth rs (p + 1)) c), by omega, int_eq (by omega), int_eq e2, hi_lt hq (om.getD _) (or_.getD _) hc, by simpa using hr, or_.set (lo_lt _ _ _ _) _, own.set _ _, hb.setCell hg _, ?_, ?_⟩
  · rw [val_set_take (by omega), val_take_succ r2 (p + 1), val_take_succ ms (p + 1), hkeep (p + 1) (by omega), pw_succ]
    rw [Nat.mul_add] at h
    have e : 18446744073709551616 * val (rs.take p) + (18446744073709551616 * pw p) * c = val (r2.take (p + 1)) + q * val (ms.take (p + 1)) := by rw [Nat.mul_assoc]; exact h
    have h5 := prod_in (y := nth ms (p + 1)) (o := nth r2 (p + 1)) e
    have e6 : 18446744073709551616 * (val (rs.take p) + pw p * loS q (nth ms (p + 1)) (nth r2 (p + 1)) c + 18446744073709551616 * pw p * hiS q (nth ms (p + 1)) (nth r2 (p + 1)) c) =
        18446744073709551616 * val (rs.take p) + 18446744073709551616 * pw p * loS q (nth ms (p + 1)) (nth r2 (p + 1)) c + 18446744073709551616 * (18446744073709551616 * pw p) * hiS q (nth ms (p + 1)) (nth r2 (p + 1)) c := by
      simp only [Nat.mul_add, Nat.mul_assoc]
    rw [e6]; exact h5
  · intro t ht
    rw [nth_set (by omega), if_neg (by omega)]
    exact hkeep t (by omega)

/-- Behind the first inner loop and the two stores. -/
theorem prod_mid {rs r1 ys : List Nat} {j c x : Nat} (hr1 : r1.length = 10) (or1 : Ok r1) (hj : 0 < j) (hj8 : j ≤ 8) (hc : c < 18446744073709551616) (hv : val (r1.take j) + pw j * c = val (rs.take j) + x * val (ys.take j)) (hk : ∀ t, j ≤ t → nth r1 t = nth rs t) (hy : ys.length = j) :
    let r2 := (r1.set j (addLo (nth r1 j) c 0)).set (j + 1) (addHi (nth r1 j) c 0)
    r2.length = 10 ∧ Ok r2 ∧ nth r2 0 = nth r1 0 ∧ nth r2 (j + 1) ≤ 1 ∧ val (r2.take (j + 1)) + pw (j + 1) * nth r2 (j + 1) = val (rs.take (j + 1)) + x * val ys := by
  intro r2
  have hj1 := or1.getD j
  have h1 : addHi (nth r1 j) c 0 ≤ 1 := by unfold addHi; omega
  have e1 : nth r2 (j + 1) = addHi (nth r1 j) c 0 := by
    show nth (List.set _ _ _) _ = _
    rw [nth_set (by rw [List.length_set]; omega), if_pos rfl]
  refine ⟨by show (List.set _ _ _).length = _; simpa using hr1, (or1.set (addLo_lt _ _ _) _).set (by omega) _, ?_, by rw [e1]; exact h1, ?_⟩
  · show nth (List.set _ _ _) _ = _
    rw [nth_set (by rw [List.length_set]; omega), if_neg (by omega), nth_set (by omega), if_neg (by omega)]
  · have e2 : val (r2.take (j + 1)) = val (r1.take j) + pw j * addLo (nth r1 j) c 0 := by
      show val (List.take (j + 1) (List.set _ _ _)) = _
      rw [List.take_set_of_le (Nat.le_refl _), val_set_take (by omega)]
    rw [e1, e2, pw_succ, val_take_succ rs, ← hk j (Nat.le_refl _)]
    rw [val_take_all ys (by omega)] at hv
    have e3 : addLo (nth r1 j) c 0 + 18446744073709551616 * addHi (nth r1 j) c 0 = nth r1 j + c := by unfold addLo addHi; omega
    have e4 : pw j * (addLo (nth r1 j) c 0 + 18446744073709551616 * addHi (nth r1 j) c 0) = pw j * nth r1 j + pw j * c := by rw [e3, Nat.mul_add]
    rw [Nat.mul_add] at e4
    have e5 : 18446744073709551616 * pw j * addHi (nth r1 j) c 0 = pw j * (18446744073709551616 * addHi (nth r1 j) c 0) := by rw [Nat.mul_comm 18446744073709551616, Nat.mul_assoc]
    omega

/-- The rows behind a round. -/
theorem prod_fin {rs r2 r3 ys ms xs : List Nat} {p c q i Q : Nat} (hr3 : r3.length = 10) (or3 : Ok r3) (hp8 : p + 1 ≤ 8) (hc : c < 18446744073709551616) (hq : q < 18446744073709551616) (ox : Ok xs)
    (hm : ms.length = p + 1) (h3 : 18446744073709551616 * (val (r3.take p) + pw p * c) = val (r2.take (p + 1)) + q * val (ms.take (p + 1))) (hk3 : ∀ t, p ≤ t → nth r3 t = nth r2 t)
    (hv2 : val (r2.take (p + 1 + 1)) + pw (p + 1 + 1) * nth r2 (p + 1 + 1) = val (rs.take (p + 1 + 1)) + nth xs i * val ys) (hcc : nth r2 (p + 1 + 1) ≤ 1) (hbd : val (rs.take (p + 1 + 1)) < val ys + val ms)
    (hcg : pw i * val (rs.take (p + 1 + 1)) = val (xs.take i) * val ys + Q * val ms) :
    let r5 := (r3.set p (addLo (nth r3 (p + 1)) c 0)).set (p + 1) (nth r3 (p + 1 + 1) + addHi (nth r3 (p + 1)) c 0)
    r5.length = 10 ∧ Ok r5 ∧ val (r5.take (p + 1 + 1)) < val ys + val ms ∧ pw (i + 1) * val (r5.take (p + 1 + 1)) = val (xs.take (i + 1)) * val ys + (Q + pw i * q) * val ms := by
  intro r5
  have h1 : addHi (nth r3 (p + 1)) c 0 ≤ 1 := by have := or3.getD (p + 1); unfold addHi; omega
  have h2 : nth r3 (p + 1 + 1) ≤ 1 := by rw [hk3 _ (by omega)]; exact hcc
  have e1 : val (r5.take (p + 1 + 1)) = val (r3.take p) + pw p * addLo (nth r3 (p + 1)) c 0 + 18446744073709551616 * pw p * (nth r3 (p + 1 + 1) + addHi (nth r3 (p + 1)) c 0) := by
    show val (List.take (p + 1 + 1) (List.set _ _ _)) = _
    rw [val_set_take (by rw [List.length_set]; omega), val_set_take (by omega), pw_succ]
  rw [val_take_all ms (by omega)] at h3
  rw [val_take_succ r2, pw_succ (p + 1), pw_succ p, ← hk3 (p + 1) (by omega), ← hk3 (p + 1 + 1) (by omega)] at hv2
  have e2 := prod_end h3 hv2 e1
  refine ⟨by show (List.set _ _ _).length = _; simpa using hr3, (or3.set (addLo_lt _ _ _) _).set (by omega) _, prod_bound e2 hbd (ox.getD i) hq, ?_⟩
  rw [pw_succ, val_take_succ xs]
  exact prod_cong e2 hcg
/-- What the whole product comes to. -/
theorem prod_all {rs xs ys ms : List Nat} {k Q : Nat} (hx : xs.length = k) (hlt : val ys < val ms) (hbd : val (rs.take (k + 1)) < val ys + val ms) (hcg : pw k * val (rs.take (k + 1)) = val (xs.take k) * val ys + Q * val ms) :
    redN (val (rs.take (k + 1))) (val ms) < val ms ∧ redN (val (rs.take (k + 1))) (val ms) * pw k % val ms = val xs * val ys % val ms := by
  obtain ⟨h1, h2⟩ := redN_mod (T := val (rs.take (k + 1))) (M := val ms) (by omega)
  refine ⟨h1, ?_⟩
  rw [val_take_all xs (by omega)] at hcg
  rw [Nat.mul_mod, h2, ← Nat.mul_mod, Nat.mul_comm, hcg, Nat.add_mul_mod_self_right]

def ProdPost (go k : Nat) (T : TypeId) (A B M : Nat) (w : World) (e : Ending) (w' : World) : Prop :=
  ∃ zs : List Nat, e = .returned (.tuple #[]) ∧ Own w' go T .u64 zs ∧ zs.length = k ∧ Ok zs ∧ val zs < M ∧ val zs * pw k % M = A * B % M ∧ w.grownBy w' (some go)

set_option maxHeartbeats 2000000 in
set_option maxRecDepth 100000 in
/-- mont.Product -/
theorem product_any (go k co ca cb cm n : Nat) (T : TypeId) (A B M : Option Addr) (zo xs ys ms : List Nat) (w : World) (hk0 : 0 < k) (hk : k ≤ 8) (own : Own w go T .u64 zo) (hzo : zo.length = k)
    (hx : xs.length = k) (hy : ys.length = k) (hms : ms.length = k) (ox : Ok xs) (oy : Ok ys) (om : Ok ms) (sx : Sl w .u64 A xs) (sy : Sl w .u64 B ys) (sm : Sl w .u64 M ms) (hcm : k ≤ cm) (hn : NegIs (nth ms 0) n) (hodd : nth ms 0 % 2 = 1)
    (hlt : val ys < val ms) :
    Calls Try.prog 39 #[.slice (some ⟨go, 0, none⟩) k co, .slice A k ca, .slice B k cb, .slice M k cm, .int .u64 (n : Int)] w (ProdPost go k T (val xs) (val ys) (val ms) w) := by
  have Hx := Lib.hid hx
  have Hy := Lib.hid hy
  have Hm := Lib.hid hms
  have Hzo := Lib.hid hzo
  have Hown := Lib.hid own
  have Hn := Lib.hid hn
  have Hodd := Lib.hid hodd
  have Hlt := Lib.hid hlt
  have hnl := hn.1
  clear hx hy hms hzo own hn hodd hlt
  go_enter Try.func39, Try.ntmps39
  go_wp2_with fail
  go_loopw [30] (ProdRel xs (val ys) (val ms) k w.heap.size w) (fun i _ => k - (intOf i).toNat)
  case atStart => exact ⟨0, 0, List.replicate 10 0, Nat.zero_le _, rfl, List.length_replicate, Ok.replicate _, Own.new w 78 .u64 (List.replicate 10 0), (Below.refl _ _).alloc (Nat.le_refl _) _, by rw [List.take_replicate, val_replicate]; have := Hlt.out; omega, by rw [List.take_replicate, val_replicate]; simp [val]⟩
  case round =>
    obtain ⟨i, Q, rs, hi, rfl, hr, or_, ownr, hb, hbd, hcg⟩ := hrel
    have Hr := Lib.hid hr
    have Hbd := Lib.hid hbd
    have Hcg := Lib.hid hcg
    have Hownr := Lib.hid ownr
    clear hr hbd hcg ownr
    by_cases hlt : i < k
    · obtain ⟨ba, offa, rfl, hla, hca⟩ := sx.at2 hb (by have := Hx.out; omega)
      have hc1 := hca i (by have := Hx.out; omega)
      have bx := ox.getD i
      clear hca
      go_wp2_with fail
      clear hc1
      obtain ⟨wo, rfl⟩ : ∃ wo : World, wo = wr := ⟨_, rfl⟩
      go_loopw [38, 14] (RwRel (fun j V c => V + pw j * c = val (rs.take j) + nth xs i * val (ys.take j)) rs k 10 w.heap.size 78 w) (fun j _ _ => k - (intOf j).toNat)
      case atStart => exact ⟨0, 0, rs, Nat.zero_le _, rfl, rfl, by decide, Hr.out, or_, Hownr.out, hb, by simp [val], fun t ht => rfl⟩
      case round =>
        obtain ⟨j, cy, r1, hj, rfl, rfl, hcy, hr1, or1, own1, hb1, hval1, hkeep1⟩ := hrel
        have Hv1 := Lib.hid hval1
        have Hr1 := Lib.hid hr1
        have Hown1 := Lib.hid own1
        have Hk1 := Lib.hid hkeep1
        clear hval1 hkeep1
        by_cases hjl : j < k
        · obtain ⟨bb, offb, rfl, hlb', hcb'⟩ := sy.at2 hb1 (by have := Hy.out; omega)
          have hc2 := hcb' j (by have := Hy.out; omega)
          have by' := oy.getD j
          have hcell := own1.cell (i := j) (by omega)
          have hfr := own1.frozen j
          have ha1 := add64_0 (mulLo (nth xs i) (nth ys j)) (nth r1 j) (mulLo_lt _ _) (or1.getD _)
          have ha2 := add64_0 (addLo (mulLo (nth xs i) (nth ys j)) (nth r1 j) 0) cy (addLo_lt _ _ _) hcy
          have hj10 : (j : Int) < 10 := by omega
          clear hcb' own1 hr1
          go_wp2_with fail
          refine (mul64_at (nth xs i) (nth ys j) bx by' _).mono ?_
          rintro e w' ⟨rfl, rfl⟩
          go_wp2_with fail
          refine ⟨RwRel.step hjl (by omega) Hr1.out or1 Hown1.out hb1 (Nat.le_refl _) Hk1.out rfl (congrArg _ (round_lo _ _ _ _)) (lo_lt _ _ _ _) (round_hi bx by' (or1.getD _) hcy) (hi_lt bx by' (or1.getD _) hcy) ?_, by simp [intOf]; omega⟩
          rw [val_take_succ rs, val_take_succ ys, pw_succ, Hk1.out j (Nat.le_refl _)]
          exact prod_in Hv1.out
        · obtain rfl : j = k := by omega
          have hcell := own1.cell (i := j) (by omega)
          have hfr := own1.frozen j
          have hfr1 := own1.frozen (j + 1)
          have hj10 : (j : Int) < 10 := by omega
          have hj11 : (j : Int) + 1 < 10 := by omega
          have ha1 := add64_0 (nth r1 j) cy (or1.getD _) hcy
          have o2 := own1.set j (addLo (nth r1 j) cy 0)
          have hcell1 := o2.cell (i := j + 1) (by simp; omega)
          have hcell0 := own1.cell (i := 0) (by omega)
          obtain ⟨bm, offm, rfl, hlm, hcmm⟩ := sm.at2 hb1 (by have := Hm.out; omega)
          have hm0 := hcmm 0 (by have := Hm.out; omega)
          rw [Nat.add_zero] at hm0
          obtain ⟨q, hq⟩ : ∃ q, nth r1 0 * n % 18446744073709551616 = q := ⟨_, rfl⟩
          have hqe : IntKind.u64.wrap (((nth r1 0 : Nat) : Int) * (n : Int)) = (q : Int) := by rw [← hq, IntKind.wrap_u64, ← Int.natCast_mul]; rfl
          have hql : q < 18446744073709551616 := by omega
          have Hq := Lib.hid hq
          have O3 := Lib.hid (o2.set (j + 1) (addHi (nth r1 j) cy 0))
          have hb3 := (hb1.setCell (p := ⟨w.heap.size, j, none⟩) (Nat.le_refl _) (.int .u64 (addLo (nth r1 j) cy 0 : Nat))).setCell (p := ⟨w.heap.size, j + 1, none⟩) (Nat.le_refl _) (.int .u64 (addHi (nth r1 j) cy 0 : Nat))
          have bm0 := om.getD 0
          have Br0 := Lib.hid (or1.getD 0)
          obtain ⟨hl2, ok2, hr20, hcc, hv2⟩ := prod_mid Hr1.out or1 hk0 hk hcy Hv1.out Hk1.out Hy.out
          have V2 := Lib.hid hv2
          have R20 := Lib.hid hr20
          have L2 := Lib.hid hl2
          have CC := Lib.hid hcc
          clear own1 hr1 o2 hq hcmm hv2 hr20 hl2 hcc
          go_wp2_with fail
          generalize (wr.setCell ⟨w.heap.size, j, none⟩ (.int .u64 (addLo (nth r1 j) cy 0 : Nat))).setCell ⟨w.heap.size, j + 1, none⟩ (.int .u64 (addHi (nth r1 j) cy 0 : Nat)) = W2 at O3 hb3 ⊢
          generalize (r1.set j (addLo (nth r1 j) cy 0)).set (j + 1) (addHi (nth r1 j) cy 0) = r2 at O3 V2 R20 L2 CC ok2
          refine (mul64_at q (nth ms 0) hql bm0 _).mono ?_
          rintro e w' ⟨rfl, rfl⟩
          have hcell20 := O3.out.cell (i := 0) (by have := L2.out; omega)
          rw [R20.out] at hcell20
          have hqz := prod_q (r := nth r1 0) Hodd.out Hn.out
          rw [Hq.out] at hqz
          obtain ⟨hc0, hc0l⟩ := prod_c0 hql bm0 Br0.out hqz
          have Hc0 := Lib.hid hc0
          have ha3 := add64_0 (mulLo q (nth ms 0)) (nth r1 0) (mulLo_lt _ _) Br0.out
          clear hcell hfr hfr1 hcell1 hcell0 hm0 ha1 hqe hqz hc0
          go_wp2_with fail
          clear hcell20 ha3
          obtain ⟨wp, rfl⟩ : ∃ wp : World, wp = W2 := ⟨_, rfl⟩
          go_loopw [23, 14] (ProdIn r2 ms q j w.heap.size w) (fun jv _ _ => j + 1 - (intOf jv).toNat)
          case atStart =>
            refine ⟨0, mulHi q (nth ms 0) + addHi (mulLo q (nth ms 0)) (nth r1 0) 0, r2, by omega, rfl, ?_, hc0l, L2.out, ok2, O3.out, hb3, ?_, fun t ht => rfl⟩
            · first | exact int_eq (by omega) | exact int_eq (by rw [IntWalk.u64_in _ (by omega)]; omega)
            · have h := Hc0.out
              rw [val_take_succ r2 0, val_take_succ ms 0, R20.out]
              simp only [List.take_zero, val_nil, pw_zero, Nat.one_mul, Nat.zero_add]
              omega
          case round =>
            obtain ⟨p, c, r3, hp, rfl, rfl, hc, hr3, or3, own3, hb3', hv3, hkeep3⟩ := hrel
            have Hv3 := Lib.hid hv3
            have Hr3 := Lib.hid hr3
            have Hown3 := Lib.hid own3
            have Hk3 := Lib.hid hkeep3
            clear hv3 hkeep3
            by_cases hpl : p + 1 < j
            · have hpl' : (p : Int) + 1 < (j : Int) := by omega
              obtain ⟨bm', offm', hbm, hlm', hcm'⟩ := sm.at2 hb3' (by have := Hm.out; omega)
              injection hbm with hbm
              injection hbm with hbm1 hbm2
              subst hbm1
              subst hbm2
              have hc2 := hcm' (p + 1) (by have := Hm.out; omega)
              have bmp := om.getD (p + 1)
              have hcell := own3.cell (i := p + 1) (by omega)
              have hcellp := own3.cell (i := p) (by omega)
              have hfr := own3.frozen p
              have ha1 := add64_0 (mulLo q (nth ms (p + 1))) (nth r3 (p + 1)) (mulLo_lt _ _) (or3.getD _)
              have ha2 := add64_0 (addLo (mulLo q (nth ms (p + 1))) (nth r3 (p + 1)) 0) c (addLo_lt _ _ _) hc
              have hp10 : (p : Int) + 1 < 10 := by omega
              clear hcm' own3 hr3
              go_wp2_with fail
              refine (mul64_at q (nth ms (p + 1)) hql bmp _).mono ?_
              rintro e w' ⟨rfl, rfl⟩
              go_wp2_with fail
              exact ⟨ProdIn.step hql om (by omega) hk hc Hr3.out or3 Hown3.out hb3' (Nat.le_refl _) Hv3.out Hk3.out rfl (congrArg _ (round_lo _ _ _ _)) (round_hi hql bmp (or3.getD _) hc), by simp [intOf]; omega⟩
            · obtain rfl : j = p + 1 := by omega
              have hcell := own3.cell (i := p + 1) (by omega)
              have hcellp := own3.cell (i := p) (by omega)
              have hcell2 := own3.cell (i := p + 1 + 1) (by omega)
              have hfr := own3.frozen p
              have hfr1 := own3.frozen (p + 1)
              have ha1 := add64_0 (nth r3 (p + 1)) c (or3.getD _) hc
              have hcc1 : nth r3 (p + 1 + 1) ≤ 1 := by have := CC.out; rw [Hk3.out _ (by omega)]; exact this
              have hhi1 : addHi (nth r3 (p + 1)) c 0 ≤ 1 := by have := or3.getD (p + 1); unfold addHi; omega
              have hp8 : (p : Int) + 1 ≤ 8 := by omega
              have o4 := own3.set p (addLo (nth r3 (p + 1)) c 0)
              have O5 := Lib.hid (o4.set (p + 1) (nth r3 (p + 1 + 1) + addHi (nth r3 (p + 1)) c 0))
              have hb5 := (hb3'.setCell (p := ⟨w.heap.size, p, none⟩) (Nat.le_refl _) (.int .u64 (addLo (nth r3 (p + 1)) c 0 : Nat))).setCell (p := ⟨w.heap.size, p + 1, none⟩) (Nat.le_refl _) (.int .u64 (nth r3 (p + 1 + 1) + addHi (nth r3 (p + 1)) c 0 : Nat))
              have hcell1b := o4.cell (i := p + 1) (by simp; omega)
              have Hb5 := Lib.hid hb5
              obtain ⟨hl5, ok5, hbd5, hcg5⟩ := prod_fin Hr3.out or3 hk hc hql ox Hm.out Hv3.out Hk3.out V2.out CC.out Hbd.out Hcg.out
              have L5 := Lib.hid hl5
              have B5 := Lib.hid hbd5
              have C5 := Lib.hid hcg5
              clear own3 hr3 o4 hb5 hl5 hbd5 hcg5
              go_wp2_with fail
              exact ⟨⟨i + 1, _, _, by omega, rfl, L5.out, ok5, O5.out, Hb5.out, B5.out, C5.out⟩, by simp [intOf]; omega⟩
    · obtain rfl : i = k := by omega
      have hal : Try.prog.arrayLen 78 = 10 := by kernel_rfl
      have hcell := Hownr.out.cell (i := i) (by have := Hr.out; omega)
      have hi10 : (i : Int) ≤ 10 := by omega
      have hi10' : (i : Int) < 10 := by omega
      obtain ⟨hpl, hpm⟩ := prod_all Hx.out Hlt.out Hbd.out Hcg.out
      have Hpl := Lib.hid hpl
      have Hpm := Lib.hid hpm
      have hT : val (rs.take i) + pw i * nth rs i < 2 * val ms := by
        have h1 := Hbd.out
        have h2 := Hlt.out
        rw [val_take_succ] at h1
        omega
      have hown' := Hown.out.bel hb
      have hbd1 := hb.drew
      have smd := sm.bel hbd1
      have hownd : Own wr.drew go T .u64 zo := hown'
      have Hred := Lib.hid (reduce_any go i co 10 cm (nth rs i) T (some ⟨w.heap.size, 0, none⟩) M zo (rs.take i) ms wr.drew hk0 hk hcm hownd Hzo.out (by rw [List.length_take, Hr.out]; omega) Hm.out (or_.take i) om ((Sl.of_own (Own.drew Hownr.out)).take i) smd (or_.getD i) hT)
      clear hpl hpm hT hown' hownd
      go_wp2_with fail
      go_still_tail 7, (by kernel_rfl)
      go_wp2_with fail
      refine (Hred.out).mono ?_
      rintro e w3 ⟨zs, rfl, ownz, hz, oz, hvz, hgz⟩
      have Hz := Lib.hid hz
      have Hvz := Lib.hid hvz
      clear hz hvz
      go_wp2_with fail
      go_end0
      have hT : val (rs.take i) + pw i * nth rs i = val (rs.take (i + 1)) := (val_take_succ rs i).symm
      have h := Hvz.out
      rw [hT] at h
      refine ⟨zs, rfl, ownz, Hz.out, oz, ?_, ?_, grown_of_below hbd1 hgz⟩
      · rw [h]; exact Hpl.out
      · rw [h]; exact Hpm.out
end Go.Proofs.Ytoocoobgidoceaa
