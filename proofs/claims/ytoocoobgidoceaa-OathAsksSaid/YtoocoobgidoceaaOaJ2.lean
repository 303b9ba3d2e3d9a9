import Derived.Test.YtoocoobgidoceaaOaI
namespace Go.Proofs.Ytoocoobgidoceaa
open Go.RowKit
set_option linter.unusedVariables false

set_option maxHeartbeats 4000000 in
set_option maxRecDepth 20000 in
theorem oathAsks_large (A : Option Addr) (n c : Nat) (asked : Int) (bs : List Nat) (label : ByteArray) (w : World) (hb : bs.length = n) (ob : Byt bs) (sb : Sl w .u8 A bs) (hn : n ≤ c) (hc : c ≤ maxLen) (hl : label.size ≤ maxLen) (hk : 60000 ≤ n) :
    Calls Try.prog 4 #[.agg #[.slice A n c, .int .i64 asked], .string label] w fun e w' => e = .returned (.bool true) ∧ Below w.heap.size w w' := by
  have hb' := hb
  have ob' := ob
  have s' := sb
  have hn' : n ≤ maxLen := Nat.le_trans hn hc
  have hk' : (n : Int) > 500 := by omega
  have hk2 : ¬ (n : Int) < 60000 := by omega
  clear hk
  have D1 := Lib.hid (fun W (s : Sl W .u8 A bs) => ask_any A n c asked bs label W hb' ob' s)
  have D2 := Lib.hid (fun W (s : Sl W .u8 A bs) => rask_any A n c asked bs label W hb' ob' s hn' hl)
  have B1 := askR_byt bs asked label
  obtain ⟨r, hr⟩ : ∃ r, askR bs asked label = r := ⟨_, rfl⟩
  rw [hr] at D1 D2 B1
  obtain ⟨f0, f1, f2, f3, hf⟩ := fl4 r.2.2.1
  have D1 := Lib.hid (fun W s => (D1.out W s).mono fun e w' h => h.e hf)
  have D2 := Lib.hid (fun W s => (D2.out W s).mono fun e w' h => h.e hf)
  clear hr hf
  have b0 := (Below.refl w.heap.size w).alloc (Nat.le_refl _) (.cells #[.slice A n c, .int .i64 asked] 24)
  have x0 := Box2.new w (.slice A n c) (.int .i64 asked)
  have s0 := s'.bel b0
  have hx0 := x0.c0
  have hx1 := x0.c1
  have hxf := x0.f 0
  have he2 : (r.2.2.2 == r.2.2.2) = true := by simp
  have hcn : n ≤ c := hn
  clear ob ob' sb s' hb hb' hn hn' hl
  unfold maxLen at hc
  go_enter Try.func4, Try.ntmps4
  go_wp2_with fail
  refine (D1.out _ s0).mono ?_
  rintro e w1 ⟨A1, c1, rfl, h1, h1', s1, a1, b1⟩
  have d1 := (b1.alloc b1.size (.cells #[.slice A1 r.1.length c1, .int .i64 r.2.1] 24)).alloc (Nat.le_trans b1.size (by simp)) (.cells #[.int .u64 (f0 : Nat), .int .u64 (f1 : Nat), .int .u64 (f2 : Nat), .int .u64 (f3 : Nat)] 35)
  have d1' := ((Below.refl w1.heap.size w1).alloc (Nat.le_refl _) (.cells #[.slice A1 r.1.length c1, .int .i64 r.2.1] 24)).alloc (by simp) (.cells #[.int .u64 (f0 : Nat), .int .u64 (f1 : Nat), .int .u64 (f2 : Nat), .int .u64 (f3 : Nat)] 35)
  have x1 := x0.bel d1
  have p1 := (Box2.new w1 (.slice A1 r.1.length c1) (.int .i64 r.2.1)).alloc (.cells #[.int .u64 (f0 : Nat), .int .u64 (f1 : Nat), .int .u64 (f2 : Nat), .int .u64 (f3 : Nat)] 35)
  have q1 : Own ((w1.alloc (.cells #[.slice A1 r.1.length c1, .int .i64 r.2.1] 24)).alloc (.cells #[.int .u64 (f0 : Nat), .int .u64 (f1 : Nat), .int .u64 (f2 : Nat), .int .u64 (f3 : Nat)] 35)) (w1.heap.size + 1) 35 .u64 [f0, f1, f2, f3] := own_new1 w1 (.cells #[.slice A1 r.1.length c1, .int .i64 r.2.1] 24) 35 .u64 [f0, f1, f2, f3]
  have t1 := b0.trans (d1.mono b0.size)
  have s2 := s0.bel d1
  have s1' := s1.bel d1'
  clear hx0 hx1 hxf x0 b0 s0 s1 d1 d1' b1 D1
  have hx0 := x1.c0
  have hx1 := x1.c1
  go_wp2_with fail
  generalize (w1.alloc (.cells #[.slice A1 r.1.length c1, .int .i64 r.2.1] 24)).alloc (.cells #[.int .u64 (f0 : Nat), .int .u64 (f1 : Nat), .int .u64 (f2 : Nat), .int .u64 (f3 : Nat)] 35) = U1 at *
  refine (D2.out _ s2).mono ?_
  rintro e w2 ⟨A2, c2, rfl, h2, h2', s3, a2, b2⟩
  have d2 := (b2.alloc b2.size (.cells #[.slice A2 r.1.length c2, .int .i64 r.2.1] 24)).alloc (Nat.le_trans b2.size (by simp)) (.cells #[.int .u64 (f0 : Nat), .int .u64 (f1 : Nat), .int .u64 (f2 : Nat), .int .u64 (f3 : Nat)] 35)
  have d2' := ((Below.refl w2.heap.size w2).alloc (Nat.le_refl _) (.cells #[.slice A2 r.1.length c2, .int .i64 r.2.1] 24)).alloc (by simp) (.cells #[.int .u64 (f0 : Nat), .int .u64 (f1 : Nat), .int .u64 (f2 : Nat), .int .u64 (f3 : Nat)] 35)
  have p2 := p1.bel d2
  have q2 := q1.bel d2
  have p2' := (Box2.new w2 (.slice A2 r.1.length c2) (.int .i64 r.2.1)).alloc (.cells #[.int .u64 (f0 : Nat), .int .u64 (f1 : Nat), .int .u64 (f2 : Nat), .int .u64 (f3 : Nat)] 35)
  have q2' : Own ((w2.alloc (.cells #[.slice A2 r.1.length c2, .int .i64 r.2.1] 24)).alloc (.cells #[.int .u64 (f0 : Nat), .int .u64 (f1 : Nat), .int .u64 (f2 : Nat), .int .u64 (f3 : Nat)] 35)) (w2.heap.size + 1) 35 .u64 [f0, f1, f2, f3] := own_new1 w2 (.cells #[.slice A2 r.1.length c2, .int .i64 r.2.1] 24) 35 .u64 [f0, f1, f2, f3]
  have t2 := t1.trans (d2.mono t1.size)
  have s4 := s1'.bel d2
  have s3' := s3.bel d2'
  clear hx0 hx1 x1 p1 q1 t1 s2 s1' s3 d2 d2' b2 D2
  go_wp2_with fail
  generalize (w2.alloc (.cells #[.slice A2 r.1.length c2, .int .i64 r.2.1] 24)).alloc (.cells #[.int .u64 (f0 : Nat), .int .u64 (f1 : Nat), .int .u64 (f2 : Nat), .int .u64 (f3 : Nat)] 35) = U2 at *
  refine (alive14_any _).mono ?_
  rintro e w5 ⟨rfl, b5⟩
  have p5 := p2.bel b5
  have q5 := q2.bel b5
  have p5' := p2'.bel b5
  have q5' := q2'.bel b5
  have t5 := t2.trans (b5.mono t2.size)
  have s5 := s4.bel b5
  have s5' := s3'.bel b5
  obtain ⟨k0, k1, k2, k3⟩ := q5.c4
  obtain ⟨l0, l1, l2, l3⟩ := q5'.c4
  have m0 := p5.c0
  have m1 := p5.c1
  have n0 := p5'.c0
  have n1 := p5'.c1
  have hef := eq_four f0 f1 f2 f3 w5
  clear p2 q2 p2' q2' t2 s4 s3' b5
  go_wp2_with fail
  refine (like14_any A1 A2 _ c1 c2 _ r.1 _ rfl B1 s5 s5').mono ?_
  rintro e w6 ⟨rfl, b6⟩
  go_wp2_with fail
  go_ret
  exact ⟨rfl, t5.trans (b6.mono t5.size)⟩
end Go.Proofs.Ytoocoobgidoceaa
