import Derived.Test.YtoocoobgidoceaaFrAll
namespace Go.Proofs.Ytoocoobgidoceaa
open Go.RowKit
set_option linter.unusedVariables false

theorem round_hi0 {x y o : Nat} (hx : x < 18446744073709551616) (hy : y < 18446744073709551616) (ho : o < 18446744073709551616) :
    IntKind.u64.wrap ((mulHi x y : Nat) + (addHi (mulLo x y) o 0 : Nat)) = (hiS x y o 0 : Nat) := by
  have h1 := hi1_lt hx hy ho
  have h2 := hi_lt hx hy ho (show (0 : Nat) < 18446744073709551616 by decide)
  have h3 := hi_lo x y o 0
  have h4 := lo_lt x y o 0
  rw [IntKind.wrap_u64]
  unfold hiS loS at *
  unfold mulHi addHi mulLo
  omega
theorem round_lo0 (x y o : Nat) : addLo (mulLo x y) o 0 = loS x y o 0 := by unfold addLo mulLo loS; omega
theorem times_val {x q t0 t1 t2 t3 b0 b1 b2 b3 l0 l1 l2 l3 u0 u1 u2 u3 d0 d1 d2 d3 z0 z1 z2 : Nat}
    (e0 : l0 + 18446744073709551616 * u0 = x * b0 + t0 + 0) (f0 : 0 + 18446744073709551616 * d0 = q * 18446744069414584321 + l0 + 0)
    (e1 : l1 + 18446744073709551616 * u1 = x * b1 + t1 + u0) (f1 : z0 + 18446744073709551616 * d1 = q * 6034159408538082302 + l1 + d0)
    (e2 : l2 + 18446744073709551616 * u2 = x * b2 + t2 + u1) (f2 : z1 + 18446744073709551616 * d2 = q * 3691218898639771653 + l2 + d1)
    (e3 : l3 + 18446744073709551616 * u3 = x * b3 + t3 + u2) (f3 : z2 + 18446744073709551616 * d3 = q * 8353516859464449352 + l3 + d2) :
    18446744073709551616 * val [z0, z1, z2, d3 + u3] = val [t0, t1, t2, t3] + x * val [b0, b1, b2, b3] + q * rN := by
  simp only [val, rN, Nat.mul_add, Nat.mul_zero, Nat.add_zero, Nat.mul_left_comm x] at *
  generalize x * b0 = p0 at *
  generalize x * b1 = p1 at *
  generalize x * b2 = p2 at *
  generalize x * b3 = p3 at *
  omega
theorem times_lt {x q T B V : Nat} (hx : x < 18446744073709551616) (hq : q < 18446744073709551616) (hB : B < rN) (hT : T < B + rN) (h : 18446744073709551616 * V = T + x * B + q * rN) : V < B + rN := by
  have h1 : x * B ≤ 18446744073709551615 * B := Nat.mul_le_mul_right _ (by omega)
  have h2 : q * rN ≤ 18446744073709551615 * rN := Nat.mul_le_mul_right _ (by omega)
  omega
theorem times_top {z0 z1 z2 t B : Nat} (hB : B < rN) (h : val [z0, z1, z2, t] < B + rN) : t < 18446744073709551616 := by
  have h2 := rN_two
  simp only [show pw 4 = 18446744073709551616 * (18446744073709551616 * (18446744073709551616 * 18446744073709551616)) from rfl] at h2
  simp only [val] at h
  omega
theorem times_cong {x q T B V P A : Nat} (h : 18446744073709551616 * V = T + x * B + q * rN) (hT : T * P % rN = A * B % rN) : V * (18446744073709551616 * P) % rN = (A + P * x) * B % rN := by
  have e : V * (18446744073709551616 * P) = T * P + (P * x) * B + rN * (q * P) := by
    rw [← Nat.mul_assoc, Nat.mul_comm V, h, Nat.add_mul, Nat.add_mul]
    congr 1
    · congr 1
      rw [Nat.mul_comm (x * B), Nat.mul_assoc]
    · rw [Nat.mul_comm q, Nat.mul_assoc]
  rw [e, Nat.add_mul_mod_self_left, Nat.add_mod, hT, ← Nat.add_mod, ← Nat.add_mul]
theorem run_index_lim4 (zs : List Nat) (j : Nat) (w : World) (h : zs.length = 4) (hj : j < 4) :
    (Instr.index 60 (.agg (lim .u64 zs)) (.int .i64 (j : Int))).run Try.prog w = .ok (.int .u64 (nth zs j : Nat)) w := by
  have hu : Try.prog.underlying 60 = some (.array 4 33) := by kernel_rfl
  have hix := lim_get (k := .u64) (zs := zs) (i := j) (by omega)
  have hj' : (j : Int) < 4 := by omega
  simp [Instr.index, run_underlying hu, asIntOf, hix, go_sem]
  intro h; omega
def TmRel (xs ys : List Nat) (W : World) (i c0 c1 c2 c3 : Value) (wr : World) : Prop :=
  ∃ k t0 t1 t2 t3 : Nat, k ≤ 4 ∧ i = .int .i64 (k : Int) ∧ c0 = .int .u64 (t0 : Int) ∧ c1 = .int .u64 (t1 : Int) ∧ c2 = .int .u64 (t2 : Int) ∧ c3 = .int .u64 (t3 : Int) ∧
    Ok [t0, t1, t2, t3] ∧ val [t0, t1, t2, t3] < val ys + rN ∧ val [t0, t1, t2, t3] * pw k % rN = val (xs.take k) * val ys % rN ∧ wr = W

set_option maxHeartbeats 4000000 in
set_option maxRecDepth 100000 in
/-- core.S.Times -/
theorem stimes_any (a b : Nat) (w : World) :
    Calls Try.prog 27 #[.agg (lim .u64 (fl (mgt a))), .agg (lim .u64 (fl (mgt b)))] w (FrPost (mgt (a * b)) w) := by
  have va := mgt_val a
  have vb := mgt_val b
  have lb := mgt_lt b
  have oa := fl_ok (mgt a)
  have ob := fl_ok (mgt b)
  have la4 := fl_len (mgt a)
  generalize fl (mgt a) = xs at *
  obtain ⟨b0, b1, b2, b3, hb⟩ : ∃ b0 b1 b2 b3, fl (mgt b) = [b0, b1, b2, b3] := ⟨_, _, _, _, rfl⟩
  rw [← vb] at lb
  rw [hb] at ob vb lb ⊢
  clear hb
  have Va := Lib.hid va
  have Vb := Lib.hid vb
  have Lb := Lib.hid lb
  have y0 : b0 < 18446744073709551616 := ob.head
  have y1 : b1 < 18446744073709551616 := ob.tail.head
  have y2 : b2 < 18446744073709551616 := ob.tail.tail.head
  have y3 : b3 < 18446744073709551616 := ob.tail.tail.tail.head
  clear va vb lb ob
  have hal2 : Try.prog.arrayLen 60 = 4 := by kernel_rfl
  have La := Lib.hid la4
  clear la4
  obtain ⟨W, hW⟩ : ∃ W, ((w.alloc (.cells (lim .u64 xs) 60)).alloc (.cells (lim .u64 [b0, b1, b2, b3]) 60)).alloc (.cells (lim .u64 [0, 0, 0, 0]) 60) = W := ⟨_, rfl⟩
  have o1 : Own W w.heap.size 60 .u64 xs := by rw [← hW]; exact ((Own.new w _ _ _).alloc _).alloc _
  have o2 : Own W (w.heap.size + 1) 60 .u64 [b0, b1, b2, b3] := by rw [← hW]; exact (own_new1 w _ _ _ _).alloc _
  have o3 : Own W (w.heap.size + 1 + 1) 60 .u64 [0, 0, 0, 0] := by rw [← hW]; exact own_new2 w _ _ _ _ _
  have b0' : Below w.heap.size w W := by rw [← hW]; exact (((Below.refl w.heap.size w).alloc (Nat.le_refl _) _).alloc (by simp) _).alloc (by simp; omega) _
  have cb0 : W.cell? ⟨w.heap.size + 1, 0, none⟩ = some (.int .u64 (b0 : Nat)) := o2.cell (i := 0) (by simp)
  have cb1 : W.cell? ⟨w.heap.size + 1, 1, none⟩ = some (.int .u64 (b1 : Nat)) := o2.cell (i := 1) (by simp)
  have cb2 : W.cell? ⟨w.heap.size + 1, 2, none⟩ = some (.int .u64 (b2 : Nat)) := o2.cell (i := 2) (by simp)
  have cb3 : W.cell? ⟨w.heap.size + 1, 3, none⟩ = some (.int .u64 (b3 : Nat)) := o2.cell (i := 3) (by simp)
  go_enter Try.func27, Try.ntmps27
  go_upto_region 1 with fail
  rw [show ((w.alloc (.cells (lim .u64 xs) 60)).alloc (.cells (lim .u64 [b0, b1, b2, b3]) 60)).alloc (.cells #[.int .u64 0, .int .u64 0, .int .u64 0, .int .u64 0] 60) = W from hW]
  clear hW
  go_wp2_with (refine own_load o1 rfl 60 (.tmp 2) rfl rfl 4 33 La.out (by kernel_rfl) (by kernel_rfl) ?_)
  go_loopw [19, 5, 6, 7, 8] (fun i a b c d wr => TmRel xs [b0, b1, b2, b3] W i a b c d wr) (fun i _ _ _ _ _ => 4 - (intOf i).toNat)
  case atStart => exact ⟨0, 0, 0, 0, 0, by decide, rfl, rfl, rfl, rfl, rfl, Ok.replicate 4, by have := rN_pos; simp only [val]; omega, by simp [val], rfl⟩
  case round =>
    obtain ⟨k, t0, t1, t2, t3, hk, rfl, rfl, rfl, rfl, rfl, ot, hlt, hcg, rfl⟩ := hrel
    have Hlt := Lib.hid hlt
    have Hcg := Lib.hid hcg
    have g0 : t0 < 18446744073709551616 := ot.head
    have g1 : t1 < 18446744073709551616 := ot.tail.head
    have g2 : t2 < 18446744073709551616 := ot.tail.tail.head
    have g3 : t3 < 18446744073709551616 := ot.tail.tail.tail.head
    clear hlt hcg
    by_cases hk4 : k < 4
    · have hk4' : (k : Int) < 4 := by omega
      have hix := run_index_lim4 xs k wr La.out hk4
      have gx := oa.getD k
      obtain ⟨x, hx⟩ : ∃ x, nth xs k = x := ⟨_, rfl⟩
      rw [hx] at hix gx
      have Hx := Lib.hid hx
      clear hx ot
      -- stage 0
      have a0 := add64_0 (mulLo x b0) t0 (mulLo_lt _ _) g0
      have h0 := round_hi0 gx y0 g0
      have e0 := hi_lo x b0 t0 0
      have l0 := lo_lt x b0 t0 0
      have v0 := hi_lt gx y0 g0 (show (0 : Nat) < 18446744073709551616 by decide)
      rw [round_lo0] at a0
      generalize loS x b0 t0 0 = L0 at a0 e0 l0
      generalize hiS x b0 t0 0 = U0 at h0 e0 v0
      have E0 := Lib.hid e0
      clear e0
      obtain ⟨q, hq⟩ : ∃ q, L0 * 18446744069414584319 % 18446744073709551616 = q := ⟨_, rfl⟩
      have hqe : IntKind.u64.wrap ((L0 : Int) * 18446744069414584319) = (q : Int) := by rw [← hq, IntKind.wrap_u64]; omega
      have hql : q < 18446744073709551616 := by omega
      have p0 := add64_0 (mulLo q 18446744069414584321) L0 (mulLo_lt _ _) l0
      have r0 := round_hi0 hql (show 18446744069414584321 < 18446744073709551616 by decide) l0
      have f0 := hi_lo q 18446744069414584321 L0 0
      have m0 := hi_lt hql (show 18446744069414584321 < 18446744073709551616 by decide) l0 (show (0 : Nat) < 18446744073709551616 by decide)
      have z0 : loS q 18446744069414584321 L0 0 = 0 := by unfold loS; omega
      rw [z0] at f0
      generalize hiS q 18446744069414584321 L0 0 = D0 at r0 f0 m0
      have F0 := Lib.hid f0
      clear f0 z0 hq
      -- stage 1
      have a1 := add64_0 (mulLo x b1) t1 (mulLo_lt _ _) g1
      have c1 := add64_0 (addLo (mulLo x b1) t1 0) U0 (addLo_lt _ _ _) v0
      have h1 := round_hi gx y1 g1 v0
      have e1 := hi_lo x b1 t1 U0
      have l1 := lo_lt x b1 t1 U0
      have v1 := hi_lt gx y1 g1 v0
      rw [round_lo] at c1
      generalize loS x b1 t1 U0 = L1 at c1 e1 l1
      generalize hiS x b1 t1 U0 = U1 at h1 e1 v1
      have E1 := Lib.hid e1
      clear e1
      have p1 := add64_0 (mulLo q 6034159408538082302) L1 (mulLo_lt _ _) l1
      have d1 := add64_0 (addLo (mulLo q 6034159408538082302) L1 0) D0 (addLo_lt _ _ _) m0
      have r1 := round_hi hql (show 6034159408538082302 < 18446744073709551616 by decide) l1 m0
      have f1 := hi_lo q 6034159408538082302 L1 D0
      have n1 := lo_lt q 6034159408538082302 L1 D0
      have m1 := hi_lt hql (show 6034159408538082302 < 18446744073709551616 by decide) l1 m0
      rw [round_lo] at d1
      generalize loS q 6034159408538082302 L1 D0 = Z0 at d1 f1 n1
      generalize hiS q 6034159408538082302 L1 D0 = D1 at r1 f1 m1
      have F1 := Lib.hid f1
      clear f1
      -- stage 2
      have a2 := add64_0 (mulLo x b2) t2 (mulLo_lt _ _) g2
      have c2 := add64_0 (addLo (mulLo x b2) t2 0) U1 (addLo_lt _ _ _) v1
      have h2 := round_hi gx y2 g2 v1
      have e2 := hi_lo x b2 t2 U1
      have l2 := lo_lt x b2 t2 U1
      have v2 := hi_lt gx y2 g2 v1
      rw [round_lo] at c2
      generalize loS x b2 t2 U1 = L2 at c2 e2 l2
      generalize hiS x b2 t2 U1 = U2 at h2 e2 v2
      have E2 := Lib.hid e2
      clear e2
      have p2 := add64_0 (mulLo q 3691218898639771653) L2 (mulLo_lt _ _) l2
      have d2 := add64_0 (addLo (mulLo q 3691218898639771653) L2 0) D1 (addLo_lt _ _ _) m1
      have r2 := round_hi hql (show 3691218898639771653 < 18446744073709551616 by decide) l2 m1
      have f2 := hi_lo q 3691218898639771653 L2 D1
      have n2 := lo_lt q 3691218898639771653 L2 D1
      have m2 := hi_lt hql (show 3691218898639771653 < 18446744073709551616 by decide) l2 m1
      rw [round_lo] at d2
      generalize loS q 3691218898639771653 L2 D1 = Z1 at d2 f2 n2
      generalize hiS q 3691218898639771653 L2 D1 = D2 at r2 f2 m2
      have F2 := Lib.hid f2
      clear f2
      -- stage 3
      have a3 := add64_0 (mulLo x b3) t3 (mulLo_lt _ _) g3
      have c3 := add64_0 (addLo (mulLo x b3) t3 0) U2 (addLo_lt _ _ _) v2
      have h3 := round_hi gx y3 g3 v2
      have e3 := hi_lo x b3 t3 U2
      have l3 := lo_lt x b3 t3 U2
      have v3 := hi_lt gx y3 g3 v2
      rw [round_lo] at c3
      generalize loS x b3 t3 U2 = L3 at c3 e3 l3
      generalize hiS x b3 t3 U2 = U3 at h3 e3 v3
      have E3 := Lib.hid e3
      clear e3
      have p3 := add64_0 (mulLo q 8353516859464449352) L3 (mulLo_lt _ _) l3
      have d3 := add64_0 (addLo (mulLo q 8353516859464449352) L3 0) D2 (addLo_lt _ _ _) m2
      have r3 := round_hi hql (show 8353516859464449352 < 18446744073709551616 by decide) l3 m2
      have f3 := hi_lo q 8353516859464449352 L3 D2
      have n3 := lo_lt q 8353516859464449352 L3 D2
      have m3 := hi_lt hql (show 8353516859464449352 < 18446744073709551616 by decide) l3 m2
      rw [round_lo] at d3
      generalize loS q 8353516859464449352 L3 D2 = Z2 at d3 f3 n3
      generalize hiS q 8353516859464449352 L3 D2 = D3 at r3 f3 m3
      have F3 := Lib.hid f3
      clear f3
      have hV := times_val E0.out F0.out E1.out F1.out E2.out F2.out E3.out F3.out
      have hVl := times_lt gx hql Lb.out Hlt.out hV
      have hVt := times_top Lb.out hVl
      have hVc := times_cong hV Hcg.out
      have hw3 : IntKind.u64.wrap ((D3 : Int) + (U3 : Int)) = ((D3 + U3 : Nat) : Int) := by rw [IntKind.wrap_u64]; omega
      have HVl := Lib.hid hVl
      have HVc := Lib.hid hVc
      clear hV hVl hVc
      go_wp2_with fail
      refine (mul64_at x b0 gx y0 _).mono ?_
      rintro e w' ⟨rfl, rfl⟩
      go_wp2_with fail
      refine (mul64_at q 18446744069414584321 hql (by decide) _).mono ?_
      rintro e w' ⟨rfl, rfl⟩
      go_wp2_with fail
      refine (mul64_at x b1 gx y1 _).mono ?_
      rintro e w' ⟨rfl, rfl⟩
      go_wp2_with fail
      refine (mul64_at q 6034159408538082302 hql (by decide) _).mono ?_
      rintro e w' ⟨rfl, rfl⟩
      go_wp2_with fail
      refine (mul64_at x b2 gx y2 _).mono ?_
      rintro e w' ⟨rfl, rfl⟩
      go_wp2_with fail
      refine (mul64_at q 3691218898639771653 hql (by decide) _).mono ?_
      rintro e w' ⟨rfl, rfl⟩
      go_wp2_with fail
      refine (mul64_at x b3 gx y3 _).mono ?_
      rintro e w' ⟨rfl, rfl⟩
      go_wp2_with fail
      refine (mul64_at q 8353516859464449352 hql (by decide) _).mono ?_
      rintro e w' ⟨rfl, rfl⟩
      go_wp2_with fail
      refine ⟨⟨k + 1, Z0, Z1, Z2, D3 + U3, by omega, rfl, rfl, rfl, rfl, by rw [Int.natCast_add], Ok.cons n1 (Ok.cons n2 (Ok.cons n3 (Ok.cons hVt Ok.nil))), HVl.out, ?_, rfl⟩, by simp [intOf]; omega⟩
      rw [pw_succ, val_take_succ, Hx.out]
      exact HVc.out
    · obtain rfl : k = 4 := by omega
      have hcg := Hcg.out
      rw [val_take_all _ (by have := La.out; omega), Va.out, Vb.out] at hcg
      have hl := Hlt.out
      have hlb := Lb.out
      have hres : val [t0, t1, t2, t3] % rN = mgt (a * b) := mgt_prod (Nat.mod_lt _ rN_pos) (by rw [Nat.mod_mul_mod, hcg])
      have D1 := Lib.hid (fun W => reduceds_any [t0, t1, t2, t3] W rfl ot (by omega))
      rw [hres] at D1
      have Hl := Lib.hid (fl_len (mgt (a * b)))
      clear hcg hl hlb hres
      go_wp2_with fail
      refine (D1.out _).mono ?_
      rintro e w5 ⟨rfl, b5⟩
      have r3 := o3.bel b5
      have bb := b0'.trans (b5.mono b0'.size)
      generalize hf : fl (mgt (a * b)) = zs at *
      have Hf := Lib.hid hf
      clear D1 hf
      go_wp2_with (refine wpList_store_row rfl 60 (.tmp 4) (.tmp 207) rfl (w.heap.size + 1 + 1) (lim .u64 zs) rfl rfl 60 _ r3 (by rw [lim_size, Hl.out]; kernel_rfl) (by rw [lim_size, lim_size, Hl.out]; rfl) (lim_one _ _) ?_)
      have q2' : Own (w5.setRow (w.heap.size + 1 + 1) (lim .u64 zs)) (w.heap.size + 1 + 1) 60 .u64 zs := setRow_heap _ _ _ _ _ _ r3
      exact bodyPost_ret (results_cell_row rfl _ _ (w.heap.size + 1 + 1) 60 (lim .u64 zs) (0, 0) (.array 4 33) rfl q2' (by kernel_rfl) rfl (by rw [lim_size, Hl.out]; kernel_rfl)) rfl ⟨by rw [Hf.out], below_setRow bb (by omega) _⟩
end Go.Proofs.Ytoocoobgidoceaa
