import Derived.Test.YtoocoobgidoceaaOaF
namespace Go.Proofs.Ytoocoobgidoceaa
open Go.RowKit
set_option linter.unusedVariables false

theorem shortB_size (s : ByteArray) : (shortB s).size ≤ s.size := by
  unfold shortB
  split
  · rw [ByteArray.size_extract]; omega
  · exact Nat.le_refl _
set_option maxHeartbeats 1600000 in
theorem oathSays_any (A : Option Addr) (n c : Nat) (asked : Int) (bs : List Nat) (label bytes : ByteArray) (w : World) (hb : bs.length = n) (ob : Byt bs) (sb : Sl w .u8 A bs) (hn : n ≤ maxLen) (hl : label.size ≤ maxLen) (hy : bytes.size ≤ maxLen) :
    Calls Try.prog 3 #[.agg #[.slice A n c, .int .i64 asked], .string label, .string bytes] w fun e w' => e = .returned (.bool true) ∧ Below w.heap.size w w' := by
  have b0 := (Below.refl w.heap.size w).alloc (Nat.le_refl _) (.cells #[.slice A n c, .int .i64 asked] 24)
  have x0 := Box2.new w (.slice A n c) (.int .i64 asked)
  have hs := shortB_size bytes
  have D1 := Lib.hid (fun W (s : Sl W .u8 A bs) => say_any A n c asked bs label (shortB bytes) W hb s)
  have D2 := Lib.hid (fun W (s : Sl W .u8 A bs) => rsay_any A n c asked bs label (shortB bytes) W hb ob s hn hl (by omega))
  have D3 := Lib.hid (fun W => new_any label W)
  have D4 := Lib.hid (fun W => rsay_any none 0 0 0 [] label ⟨#[]⟩ W rfl (fun x h => by cases h) (Sl.nil _ _ _) (Nat.zero_le _) hl (Nat.zero_le _))
  have B1 := sayR_byt ob asked label (shortB bytes)
  have B2 := sayR_byt (bs := []) (fun x h => by cases h) 0 label ⟨#[]⟩
  generalize sayR bs asked label (shortB bytes) = r1 at *
  generalize sayR [] 0 label ⟨#[]⟩ = r2 at *
  have he1 : (r1.2.2 == r1.2.2) = true := by simp
  have he2 : (r2.2.2 == r2.2.2) = true := by simp
  clear hb hn hl hy hs
  go_enter Try.func3, Try.ntmps3
  go_wp2_with fail
  refine (short_any bytes _).mono ?_
  rintro e w' ⟨rfl, rfl⟩
  have hx00 := x0.c0
  have hx01 := x0.c1
  go_wp2_with fail
  refine (D1.out _ (sb.bel b0)).mono ?_
  rintro e w1 ⟨A1, c1, rfl, h1, h1', s1, a1, b1⟩
  have t1 := (b0.trans (b1.mono b0.size)).alloc (b0.trans (b1.mono b0.size)).size (.cells #[.slice A1 r1.1.length c1, .int .i64 r1.2.1] 24)
  have x1 := (x0.bel b1).alloc (.cells #[.slice A1 r1.1.length c1, .int .i64 r1.2.1] 24)
  have p1 := Box2.new w1 (.slice A1 r1.1.length c1) (.int .i64 r1.2.1)
  have hx10 := x1.c0
  have hx11 := x1.c1
  have s1' := s1.bel ((Below.refl w1.heap.size w1).alloc (Nat.le_refl _) (.cells #[.slice A1 r1.1.length c1, .int .i64 r1.2.1] 24))
  have sb1 := (sb.bel b0).bel b1 |>.bel ((Below.refl w1.heap.size w1).alloc (Nat.le_refl _) (.cells #[.slice A1 r1.1.length c1, .int .i64 r1.2.1] 24))
  clear b0 hx00 hx01 D1 b1 s1 x0 sb
  go_wp2_with fail
  refine (D2.out _ sb1).mono ?_
  rintro e w2 ⟨A2, c2, rfl, h2, h2', s2, a2, b2⟩
  have t2 := (t1.trans (b2.mono t1.size)).alloc (t1.trans (b2.mono t1.size)).size (.cells #[.slice A2 r1.1.length c2, .int .i64 r1.2.1] 24)
  have p2 := (p1.bel b2).alloc (.cells #[.slice A2 r1.1.length c2, .int .i64 r1.2.1] 24)
  have q2 := Box2.new w2 (.slice A2 r1.1.length c2) (.int .i64 r1.2.1)
  have s12 := s1'.bel b2 |>.bel ((Below.refl w2.heap.size w2).alloc (Nat.le_refl _) (.cells #[.slice A2 r1.1.length c2, .int .i64 r1.2.1] 24))
  have s2' := s2.bel ((Below.refl w2.heap.size w2).alloc (Nat.le_refl _) (.cells #[.slice A2 r1.1.length c2, .int .i64 r1.2.1] 24))
  clear D2 x1 hx10 hx11 sb1 s1' s2 p1 b2 t1
  generalize hp1 : w1.heap.size = P1 at *
  go_wp2_with fail
  refine (D3.out _).mono ?_
  rintro e w3 ⟨A3, c3, rfl, h3, h3', s3, a3, b3⟩
  have o3 := ((Below.refl w3.heap.size w3).alloc (Nat.le_refl _) (.cells #[.slice A3 r2.1.length c3, .int .i64 r2.2.1] 24))
  have t3 := (t2.trans (b3.mono t2.size)).alloc (t2.trans (b3.mono t2.size)).size (.cells #[.slice A3 r2.1.length c3, .int .i64 r2.2.1] 24)
  have p3 := (p2.bel b3).alloc (.cells #[.slice A3 r2.1.length c3, .int .i64 r2.2.1] 24)
  have q3 := (q2.bel b3).alloc (.cells #[.slice A3 r2.1.length c3, .int .i64 r2.2.1] 24)
  have u3 := Box2.new w3 (.slice A3 r2.1.length c3) (.int .i64 r2.2.1)
  have s13 := (s12.bel b3).bel o3
  have s23 := (s2'.bel b3).bel o3
  have s33 := s3.bel o3
  clear D3 t2 p2 q2 s12 s2' s3 b3 o3
  generalize hp2 : w2.heap.size = P2 at *
  go_wp2_with fail
  refine (D4.out _).mono ?_
  rintro e w4 ⟨A4, c4, rfl, h4, h4', s4, a4, b4⟩
  have o4 := ((Below.refl w4.heap.size w4).alloc (Nat.le_refl _) (.cells #[.slice A4 r2.1.length c4, .int .i64 r2.2.1] 24))
  have t4 := (t3.trans (b4.mono t3.size)).alloc (t3.trans (b4.mono t3.size)).size (.cells #[.slice A4 r2.1.length c4, .int .i64 r2.2.1] 24)
  have p4 := (p3.bel b4).alloc (.cells #[.slice A4 r2.1.length c4, .int .i64 r2.2.1] 24)
  have q4 := (q3.bel b4).alloc (.cells #[.slice A4 r2.1.length c4, .int .i64 r2.2.1] 24)
  have u4 := (u3.bel b4).alloc (.cells #[.slice A4 r2.1.length c4, .int .i64 r2.2.1] 24)
  have v4 := Box2.new w4 (.slice A4 r2.1.length c4) (.int .i64 r2.2.1)
  have s14 := (s13.bel b4).bel o4
  have s24 := (s23.bel b4).bel o4
  have s34 := (s33.bel b4).bel o4
  have s44 := s4.bel o4
  clear D4 t3 p3 q3 u3 s13 s23 s33 s4 b4 o4
  generalize hp3 : w3.heap.size = P3 at *
  go_wp2_with fail
  generalize hp4 : w4.heap.size = P4 at *
  refine (alive14_any _).mono ?_
  rintro e w5 ⟨rfl, b5⟩
  have t5 := t4.trans (b5.mono t4.size)
  have p5 := p4.bel b5
  have q5 := q4.bel b5
  have u5 := u4.bel b5
  have v5 := v4.bel b5
  have s15 := s14.bel b5
  have s25 := s24.bel b5
  have s35 := s34.bel b5
  have s45 := s44.bel b5
  have p50 := p5.c0
  have p51 := p5.c1
  have q50 := q5.c0
  have q51 := q5.c1
  clear t4 p4 q4 u4 v4 s14 s24 s34 s44 b5
  go_wp2_with fail
  refine (like14_any A1 A2 _ c1 c2 _ r1.1 _ rfl B1 s15 s25).mono ?_
  rintro e w6 ⟨rfl, b6⟩
  have t6 := t5.trans (b6.mono t5.size)
  have u6 := u5.bel b6
  have v6 := v5.bel b6
  have s36 := s35.bel b6
  have s46 := s45.bel b6
  have u60 := u6.c0
  have u61 := u6.c1
  have v60 := v6.c0
  have v61 := v6.c1
  clear t5 p5 q5 u5 v5 s15 s25 s35 s45 b6 p50 p51 q50 q51
  go_wp2_with fail
  refine (like14_any A3 A4 _ c3 c4 _ r2.1 _ rfl B2 s36 s46).mono ?_
  rintro e w7 ⟨rfl, b7⟩
  go_wp2_with fail
  go_ret
  exact ⟨rfl, t6.trans (b7.mono t6.size)⟩
end Go.Proofs.Ytoocoobgidoceaa
