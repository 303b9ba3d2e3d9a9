import Derived.Test.YtoocoobgidoceaaOaK
import Derived.Test.YtoocoobgidoceaaFrAll
import Derived.Deep.RegionHeld3
import Derived.BigQuiet
import Derived.Deep.QuietTactic
namespace Go.Proofs.Ytoocoobgidoceaa
open Go.RowKit
set_option linter.unusedVariables false

theorem own_slice {w : World} {B size n : Nat} {e : TypeId} {v : Value} {xs : List Value} (h : w.ownsRow B e size v n xs) : ∃ a cap, v = .slice a n cap := by
  rcases h.2 with ⟨rfl, rfl⟩ | ⟨g, cap, _, rfl, _⟩
  · exact ⟨none, 0, rfl⟩
  · exact ⟨_, cap, rfl⟩
theorem own_le {w : World} {B size n : Nat} {e : TypeId} {v : Value} {xs : List Value} (h : w.ownsRow B e size v n xs) : n ≤ maxLen := by
  rcases h.2 with ⟨_, rfl⟩ | ⟨g, cap, _, _, _, _, h1, h2, _⟩
  · exact Nat.zero_le _
  · exact Nat.le_trans h1 h2
theorem own_some {w : World} {B size n : Nat} {e : TypeId} {a : Option Addr} {cap : Nat} {xs : List Value} (h : w.ownsRow B e size (.slice a n cap) n xs) (hn : 0 < n) : ∃ g, a = some ⟨g, 0, none⟩ := by
  rcases h.2 with ⟨_, h0⟩ | ⟨g, _, _, hv, _⟩
  · omega
  · injection hv with h1
    exact ⟨g, h1⟩
theorem cellsF_get {outs : List Nat} : ∀ {i : Nat} (hi : i < outs.length) {f0 f1 f2 f3 : Nat}, fl outs[i] = [f0, f1, f2, f3] →
    (cellsF outs)[i * 4]? = some (.int .u64 (f0 : Nat)) ∧ (cellsF outs)[i * 4 + 1]? = some (.int .u64 (f1 : Nat)) ∧ (cellsF outs)[i * 4 + 2]? = some (.int .u64 (f2 : Nat)) ∧ (cellsF outs)[i * 4 + 3]? = some (.int .u64 (f3 : Nat)) := by
  induction outs with
  | nil => intro i hi; simp at hi
  | cons x l ih =>
    intro i hi f0 f1 f2 f3 hf
    have hc : cellsF (x :: l) = (lim .u64 (fl x)).toList ++ cellsF l := by simp [cellsF]
    have hl : (lim .u64 (fl x)).toList.length = 4 := by simp [lim, fl]
    cases i with
    | zero =>
      simp only [List.getElem_cons_zero] at hf
      rw [hc, hf]
      exact ⟨rfl, rfl, rfl, rfl⟩
    | succ i =>
      have hi' : i < l.length := by simpa using hi
      simp only [List.getElem_cons_succ] at hf
      obtain ⟨h0, h1, h2, h3⟩ := ih hi' hf
      rw [hc]
      refine ⟨?_, ?_, ?_, ?_⟩
      · rw [List.getElem?_append_right (by rw [hl]; omega), hl, show (i + 1) * 4 - 4 = i * 4 by omega]; exact h0
      · rw [List.getElem?_append_right (by rw [hl]; omega), hl, show (i + 1) * 4 + 1 - 4 = i * 4 + 1 by omega]; exact h1
      · rw [List.getElem?_append_right (by rw [hl]; omega), hl, show (i + 1) * 4 + 2 - 4 = i * 4 + 2 by omega]; exact h2
      · rw [List.getElem?_append_right (by rw [hl]; omega), hl, show (i + 1) * 4 + 3 - 4 = i * 4 + 3 by omega]; exact h3
theorem own_four_at {w : World} {B g n cap : Nat} {outs : List Nat} (h : w.ownsRow B 35 4 (.slice (some ⟨g, 0, none⟩) n cap) n (cellsF outs)) {i : Nat} (hi : i < outs.length) {f0 f1 f2 f3 : Nat} (hf : fl outs[i] = [f0, f1, f2, f3]) :
    w.cell? ⟨g, i * 4, none⟩ = some (.int .u64 (f0 : Nat)) ∧ w.cell? ⟨g, i * 4 + 1, none⟩ = some (.int .u64 (f1 : Nat)) ∧ w.cell? ⟨g, i * 4 + 2, none⟩ = some (.int .u64 (f2 : Nat)) ∧ w.cell? ⟨g, i * 4 + 3, none⟩ = some (.int .u64 (f3 : Nat)) := by
  have hadd : ∀ j, (⟨g, 0, none⟩ : Addr).add j = ⟨g, j, none⟩ := fun j => by rw [add_flat, Nat.zero_add]
  obtain ⟨h0, h1, h2, h3⟩ := cellsF_get hi hf
  have k := fun j u hj => hadd j ▸ h.cells (g := g) rfl j u hj
  exact ⟨k _ _ h0, k _ _ h1, k _ _ h2, k _ _ h3⟩
theorem Box3.alloc {W : World} {b : Nat} {p : Part3} (h : Box3 W b p) (o : Obj) : Box3 (W.alloc o) b p := (Below.heap_alloc W o b h.lt).trans h
theorem Box3.far {W : World} {b : Nat} {p : Part3} (h : Box3 W b p) {q : Addr} (hq : b ≠ q.block) (u : Value) : Box3 (W.setCell q u) b p := (Below.heap_setCell W q u b hq).trans h
theorem drewN_add (w : World) (a b : Nat) : (w.drewN a).drewN b = w.drewN (a + b) := by simp [World.drewN, Nat.add_assoc]
def SmRel (m : Nat) (w : World) (i : Value) (wr : World) : Prop := ∃ k d : Nat, k ≤ m ∧ i = .int .i64 (k : Int) ∧ wr = w.drewN d
/-- What lies behind the record that is said last. -/
def SmCut (r : List Nat × Int × Int) (W : World) (p er : Value) (wx : World) : Prop :=
  ∃ A c g, p = .pointer (some ⟨g, 0, none⟩) ∧ er = .int .i64 r.2.2 ∧ Box2 wx g (.slice A r.1.length c) (.int .i64 r.2.1) ∧ r.1.length ≤ c ∧ c ≤ maxLen ∧ Sl wx .u8 A r.1 ∧ Below W.heap.size W wx

theorem smLeafA {r : List Nat × Int × Int} {W w6 : World} {A : Option Addr} {c : Nat} (b : Below W.heap.size W w6) (h : r.1.length ≤ c) (h' : c ≤ maxLen) (s : Sl w6 .u8 A r.1) :
    SmCut r W (.pointer (some ⟨w6.heap.size, 0, none⟩)) (.int .i64 r.2.2) (w6.alloc (.cells #[.slice A r.1.length c, .int .i64 r.2.1] 24)) :=
  ⟨A, c, _, rfl, rfl, Box2.new w6 _ _, h, h', s.bel ((Below.refl _ _).alloc (Nat.le_refl _) _), b.alloc b.size _⟩
theorem smLeafS {r : List Nat × Int × Int} {W w6 : World} {A : Option Addr} {c g : Nat} {v0 v1 : Value} (b : Below W.heap.size W w6) (h : r.1.length ≤ c) (h' : c ≤ maxLen) (s : Sl w6 .u8 A r.1) (y : Box2 w6 g v0 v1) (hg : W.heap.size ≤ g) (hA : ∀ a, A = some a → g < a.block) :
    SmCut r W (.pointer (some ⟨g, 0, none⟩)) (.int .i64 r.2.2) ((w6.setCell ⟨g, 0, none⟩ (.slice A r.1.length c)).setCell ⟨g, 1, none⟩ (.int .i64 r.2.1)) :=
  ⟨A, c, _, rfl, rfl, (y.set0 _).set1 _, h, h', (s.up (fun a e => by have := hA a e; show a.block ≠ g; omega) _).up (fun a e => by have := hA a e; show a.block ≠ g; omega) _, (b.setCell (p := ⟨g, 0, none⟩) hg _).setCell (p := ⟨g, 1, none⟩) hg _⟩

set_option maxHeartbeats 16000000 in
theorem oathSame_any (A : Option Addr) (n c : Nat) (ps : List Part3) (ml mb : ByteArray) (ma : Bool) (w : World) (hp : ps.length = n) (sp : Pl w A ps) (hn : n ≤ maxLen) :
    Calls Try.prog 5 #[.slice A n c, .agg #[.string ml, .string mb, .bool ma]] w fun e w' => e = .returned (.bool true) ∧ Below w.heap.size w w' := by
  have D1 := Lib.hid (fun W (s : Pl W A ps) => run_any A n c ps W hp s hn)
  have b0 := (Below.refl w.heap.size w).alloc (Nat.le_refl _) (.cells #[.string ml, .string mb, .bool ma] 41)
  have m0 := Box3.new w (ml, mb, ma)
  generalize runF ps = S at *
  clear hp hn
  go_enter Try.func5, Try.ntmps5
  go_wp2_with fail
  refine (D1.out _ (sp.bel b0)).mono ?_
  rintro e w1 ⟨A1, c1, v1, rfl, h1, h1', s1, B1, ow1, b1⟩
  have t1 := (b0.trans (b1.mono b0.size)).alloc (b0.trans (b1.mono b0.size)).size (.cells #[.slice A1 S.1.1.length c1, .int .i64 S.1.2.1] 24)
  have x1 := Box2.new w1 (.slice A1 S.1.1.length c1) (.int .i64 S.1.2.1)
  have d1 := (Below.refl w1.heap.size w1).alloc (Nat.le_refl _) (.cells #[.slice A1 S.1.1.length c1, .int .i64 S.1.2.1] 24)
  have m1 := (m0.bel b1).bel d1
  have s1' := s1.bel d1
  have ow1' := ownsRow_bel ow1 d1
  clear m0 s1 ow1 b1 b0 d1
  go_wp2_with fail
  generalize w1.alloc (.cells #[.slice A1 S.1.1.length c1, .int .i64 S.1.2.1] 24) = U1 at *
  refine (D1.out _ (sp.bel t1)).mono ?_
  rintro e w2 ⟨A2, c2, v2, rfl, h2, h2', s2, B2, ow2, b2⟩
  have d2 := (Below.refl w2.heap.size w2).alloc (Nat.le_refl _) (.cells #[.slice A2 S.1.1.length c2, .int .i64 S.1.2.1] 24)
  have d2' := b2.trans (d2.mono b2.size)
  have t2 := t1.trans (d2'.mono t1.size)
  have x2 := x1.bel d2'
  have m2 := m1.bel d2'
  have s12 := s1'.bel d2'
  have ow12 := ownsRow_bel ow1' d2'
  have y2 := Box2.new w2 (.slice A2 S.1.1.length c2) (.int .i64 S.1.2.1)
  have s2' := s2.bel d2
  have ow2' := ownsRow_bel ow2 d2
  clear x1 m1 s1' ow1' s2 ow2 b2 d2 d2' t1 D1
  obtain ⟨a1, cap1, rfl⟩ := own_slice ow12
  obtain ⟨a2, cap2, rfl⟩ := own_slice ow2'
  have hx0 := x2.c0
  have hx1 := x2.c1
  have hcv1 := conv_sl (c := c1) rfl B1 s12
  by_cases her : S.1.2.2 = 0
  · have her' : (S.1.2.2 == 0) = true := by simp [her]
    clear her
    go_upto_region 6 with fail
    generalize w2.alloc (.cells #[.slice A2 S.1.1.length c2, .int .i64 S.1.2.1] 24) = U2 at *
    obtain ⟨hm0, hm1, hm2⟩ := m2.c
    dsimp only at hm0 hm1 hm2
    have D2 := Lib.hid (fun W => short_any mb W)
    have D3 := Lib.hid (fun W s => say_any A1 S.1.1.length c1 S.1.2.1 S.1.1 ml (shortB mb) W rfl s)
    have hr3 : (sayR S.1.1 S.1.2.1 ml (shortB mb)).2.2 = 0 → ∃ R, (sayR S.1.1 S.1.2.1 ml (shortB mb)).1 = S.1.1 ++ R := by
      unfold sayR; split
      · exact fun _ => ⟨_, rfl⟩
      · intro h; exact absurd h (by decide)
    have Hr3 := Lib.hid hr3
    have B3 := sayR_byt B1 S.1.2.1 ml (shortB mb)
    generalize sayR S.1.1 S.1.2.1 ml (shortB mb) = r3 at *
    clear hr3
    have xd := x2.bel (Below.refl _ _).drew
    have sd := s12.bel (Below.refl _ _).drew
    have sz := sd.bel ((Below.refl _ _).alloc (Nat.le_refl _) (.cells #[.slice none 0 0, .int .i64 0] 24))
    have sz : Sl ((U2.alloc (.cells #[.slice none 0 0, .int .i64 0] 24)).drew) .u8 A1 S.1.1 := sz
    have yz := (Box2.new U2 (.slice none 0 0) (.int .i64 0)).bel (Below.refl _ _).drew
    have xz := x2.bel (((Below.refl U2.heap.size U2).alloc (Nat.le_refl _) (.cells #[.slice none 0 0, .int .i64 0] 24)).drew)
    have bz := ((Below.refl U2.heap.size U2).alloc (Nat.le_refl _) (.cells #[.slice none 0 0, .int .i64 0] 24)).drew
    have mz0 := xz.c0
    have mz1 := xz.c1
    obtain ⟨mz2, mz3, mz4⟩ := (m2.bel (((Below.refl U2.heap.size U2).alloc (Nat.le_refl _) (.cells #[.slice none 0 0, .int .i64 0] 24)).drew)).c
    dsimp only at mz2 mz3 mz4
    have hfx : w1.heap.size ≠ U2.heap.size := by have := x2.lt; omega
    have hfm : w.heap.size ≠ U2.heap.size := by have := m2.lt; omega
    go_cut [12, 13] from 39 to 49 (fun p er wx => SmCut r3 U2 p er wx)
    case first =>
      go_region_held3 (fun w' => w'.cell? ⟨w1.heap.size, 0, none⟩ = some (.slice A1 S.1.1.length c1) ∧ w'.cell? ⟨w1.heap.size, 1, none⟩ = some (.int .i64 S.1.2.1) ∧ w'.cell? ⟨w.heap.size, 0, none⟩ = some (.string ml) ∧ w'.cell? ⟨w.heap.size, 1, none⟩ = some (.string mb))
        (first | exact ⟨hx0, hx1, hm0, hm1⟩ | exact ⟨mz0, mz1, mz2, mz3⟩ | exact ⟨xe0, xe1, me0, me1⟩ | exact ⟨(xe.alloc _).c0, (xe.alloc _).c1, (me.alloc _).c.1, (me.alloc _).c.2.1⟩ | exact ⟨((xe.far hfx _).far hfx _).c0, ((xe.far hfx _).far hfx _).c1, ((me.far hfm _).far hfm _).c.1, ((me.far hfm _).far hfm _).c.2.1⟩)
        (first
        | (go_at_call 7; refine (D2.out _).mono ?_; rintro e w5 ⟨rfl, rfl⟩)
        | (go_at_call 8
           first
           | refine (D3.out _ sd).mono ?_
           | refine (D3.out _ sz).mono ?_
           rintro e w6 ⟨A3, c3, rfl, h3, h3', s6, a6, b6⟩
           first
           | (have yb := yz.bel b6
              have yb0 := yb.c0
              have yb1 := yb.c1
              have yf0 := yb.f 0
              have yf1 := yb.f 1
              have be := bz.trans (b6.mono bz.size))
           | (have be := ((Below.refl U2.heap.size U2).drew).trans b6)
           have xe := x2.bel be
           have xe0 := xe.c0
           have xe1 := xe.c1
           have me := m2.bel be
           obtain ⟨me0, me1, me2⟩ := me.c))
      all_goals go_wp2_with fail
      all_goals go_meet
      all_goals first
        | exact smLeafA be h3 h3' s6
        | exact smLeafS be h3 h3' s6 yb (Nat.le_refl _) (fun a e => by have := a6 a e; simp at this; omega)
    case rest =>
      obtain ⟨A3, c3, g3, rfl, rfl, z3, h3, h3', s3, be⟩ := hcut
      have x4 := x2.bel be
      have y4 := y2.bel be
      have s14 := s12.bel be
      have s24 := s2'.bel be
      have ow14 := ownsRow_bel ow12 be
      have ow24 := ownsRow_bel ow2' be
      have t4 := t2.trans (be.mono t2.size)
      have D5 := Lib.hid (fun W s => say_any A1 S.1.1.length c1 S.1.2.1 S.1.1 ⟨#[111, 116, 104, 101, 114]⟩ ⟨#[98, 121, 116, 101, 115]⟩ W rfl s)
      have hr5 : (sayR S.1.1 S.1.2.1 ⟨#[111, 116, 104, 101, 114]⟩ ⟨#[98, 121, 116, 101, 115]⟩).2.2 = 0 ∨ (sayR S.1.1 S.1.2.1 ⟨#[111, 116, 104, 101, 114]⟩ ⟨#[98, 121, 116, 101, 115]⟩).2.2 = 2 := by
        unfold sayR; split
        · exact .inl rfl
        · exact .inr rfl
      generalize sayR S.1.1 S.1.2.1 ⟨#[111, 116, 104, 101, 114]⟩ ⟨#[98, 121, 116, 101, 115]⟩ = r5 at *
      have Hr5 := Lib.hid hr5
      clear hr5 x2 y2 s12 s2' ow12 ow2' t2 m2 hm0 hm1 hm2 hx0 hx1 xd sd sz yz xz bz mz0 mz1 mz2 mz3 mz4 hfx hfm D2 D3 be hcv1
      have hx0 := x4.c0
      have hx1 := x4.c1
      go_wp2_with fail
      refine (D5.out _ s14).mono ?_
      rintro e w7 ⟨A5, c5, rfl, h5, h5', s5, a5, b5⟩
      have d7 := b5.alloc b5.size (.cells #[.slice A5 r5.1.length c5, .int .i64 r5.2.1] 24)
      have x7 := x4.bel d7
      have y7 := y4.bel d7
      have z7 := z3.bel d7
      have s17 := s14.bel d7
      have s27 := s24.bel d7
      have s37 := s3.bel d7
      have ow17 := ownsRow_bel ow14 d7
      have ow27 := ownsRow_bel ow24 d7
      have t7 := t4.trans (d7.mono t4.size)
      clear x4 y4 z3 s14 s24 s3 ow14 ow24 t4 b5 d7 s5 a5 hx0 hx1 D5
      go_wp2_with fail
      generalize w7.alloc (.cells #[.slice A5 r5.1.length c5, .int .i64 r5.2.1] 24) = W7 at *
      refine (alive14_any _).mono ?_
      rintro e w8 ⟨rfl, b8⟩
      have x8 := x7.bel b8
      have y8 := y7.bel b8
      have z8 := z7.bel b8
      have s18 := s17.bel b8
      have s28 := s27.bel b8
      have s38 := s37.bel b8
      have ow18 := ownsRow_bel ow17 b8
      have ow28 := ownsRow_bel ow27 b8
      have t8 := t7.trans (b8.mono t7.size)
      clear x7 y7 z7 s17 s27 s37 ow17 ow27 t7 b8
      have hx0 := x8.c0
      have hy0 := y8.c0
      have hz0 := z8.c0
      have hcv1 := conv_sl (c := c1) rfl B1 s18
      have hcv2 := conv_sl (c := c2) rfl B2 s28
      have hTs : (strN S.1.1).size = S.1.1.length := strN_size _
      have hcv3 : r3.2.2 = 0 → S.1.1.length ≤ r3.1.length ∧ (convert 22 9 (.slice A3 S.1.1.length c3)).run Try.prog w8 = .ok (.string (strN S.1.1)) w8 := fun e => by
        obtain ⟨R, hR⟩ := Hr3.out e
        have hl : S.1.1.length ≤ r3.1.length := by rw [hR, List.length_append]; omega
        have hs := s38.take S.1.1.length
        rw [hR, List.take_left] at hs
        exact ⟨hl, conv_sl rfl B1 hs⟩
      have Hcv3 := Lib.hid hcv3
      clear hcv3 Hr3
      generalize strN S.1.1 = T at *
      clear s18 s28 s38 x8 y8 z8
      have start : SmRel S.2.length w8 (.int .i64 0) w8 := ⟨0, 0, Nat.zero_le _, rfl, rfl⟩
      by_cases e3 : r3.2.2 = 0
      · rcases Hr5.out with e5 | e5
        · have e3' : (r3.2.2 == 0) = true := by simp [e3]
          have hlen : ¬ (r3.1.length : Int) < (T.size : Int) := by have := (Hcv3.out e3).1; omega
          have hcv4 := (Hcv3.out e3).2
          have hTi : (T.size : Int) = (S.1.1.length : Int) := by omega
          have hlc : (S.1.1.length : Int) ≤ (c3 : Int) := by have := (Hcv3.out e3).1; omega
          have hlr : (S.1.1.length : Int) ≤ (r3.1.length : Int) := by have := (Hcv3.out e3).1; omega
          clear e3
          have e5' : (r5.2.2 != 0) = false := by simp [e5]
          clear e5
          go_wp2_with fail
          go_loopw [113] (SmRel S.2.length w8) (fun i _ => S.2.length - (intOf i).toNat)
          case atStart => exact start
          case round =>
            clear start
            obtain ⟨k, d, hk, rfl, hwr⟩ := hrel
            have owr1 := ownsRow_bel ow18 (show Below w8.heap.size w8 wr from by rw [hwr]; exact below_drewN (Below.refl _ _) d)
            have owr2 := ownsRow_bel ow28 (show Below w8.heap.size w8 wr from by rw [hwr]; exact below_drewN (Below.refl _ _) d)
            have Hwr := Lib.hid hwr
            clear hwr
            by_cases hkm : k < S.2.length
            · obtain ⟨q1, rfl⟩ := own_some owr1 (by omega)
              obtain ⟨q2, rfl⟩ := own_some owr2 (by omega)
              obtain ⟨f0, f1, f2, f3, hf⟩ := fl4 (S.2[k])
              obtain ⟨i0, i1, i2, i3⟩ := own_four_at owr1 hkm hf
              obtain ⟨j0, j1, j2, j3⟩ := own_four_at owr2 hkm hf
              have hef := eq_four f0 f1 f2 f3
              have hml := own_le owr1
              have hwk : IntKind.i64.wrap ((k : Int) + 1) = (k : Int) + 1 := by unfold maxLen at hml; rw [IntKind.wrap_i64]; omega
              have hkm' : (k : Int) < (S.2.length : Int) := by omega
              clear hf
              go_wp2_with fail
              go_quiet (fail)
              go_wp2_with fail
              exact ⟨⟨k + 1, d + _, by omega, rfl, by rw [Hwr.out]; exact drewN_add _ _ _⟩, by simp [intOf]; omega⟩
            · obtain rfl : k = S.2.length := by omega
              go_wp2_with fail
              go_ret
              exact ⟨rfl, by rw [Hwr.out]; exact below_drewN t8 d⟩
        · have e3' : (r3.2.2 == 0) = true := by simp [e3]
          have hlen : ¬ (r3.1.length : Int) < (T.size : Int) := by have := (Hcv3.out e3).1; omega
          have hcv4 := (Hcv3.out e3).2
          have hTi : (T.size : Int) = (S.1.1.length : Int) := by omega
          have hlc : (S.1.1.length : Int) ≤ (c3 : Int) := by have := (Hcv3.out e3).1; omega
          have hlr : (S.1.1.length : Int) ≤ (r3.1.length : Int) := by have := (Hcv3.out e3).1; omega
          clear e3
          have e5' : (r5.2.2 != 0) = true := by simp [e5]
          have e6' : (r5.2.2 != 2) = false := by simp [e5]
          clear e5
          go_wp2_with fail
          go_loopw [113] (SmRel S.2.length w8) (fun i _ => S.2.length - (intOf i).toNat)
          case atStart => exact start
          case round =>
            clear start
            obtain ⟨k, d, hk, rfl, hwr⟩ := hrel
            have owr1 := ownsRow_bel ow18 (show Below w8.heap.size w8 wr from by rw [hwr]; exact below_drewN (Below.refl _ _) d)
            have owr2 := ownsRow_bel ow28 (show Below w8.heap.size w8 wr from by rw [hwr]; exact below_drewN (Below.refl _ _) d)
            have Hwr := Lib.hid hwr
            clear hwr
            by_cases hkm : k < S.2.length
            · obtain ⟨q1, rfl⟩ := own_some owr1 (by omega)
              obtain ⟨q2, rfl⟩ := own_some owr2 (by omega)
              obtain ⟨f0, f1, f2, f3, hf⟩ := fl4 (S.2[k])
              obtain ⟨i0, i1, i2, i3⟩ := own_four_at owr1 hkm hf
              obtain ⟨j0, j1, j2, j3⟩ := own_four_at owr2 hkm hf
              have hef := eq_four f0 f1 f2 f3
              have hml := own_le owr1
              have hwk : IntKind.i64.wrap ((k : Int) + 1) = (k : Int) + 1 := by unfold maxLen at hml; rw [IntKind.wrap_i64]; omega
              have hkm' : (k : Int) < (S.2.length : Int) := by omega
              clear hf
              go_wp2_with fail
              go_quiet (fail)
              go_wp2_with fail
              exact ⟨⟨k + 1, d + _, by omega, rfl, by rw [Hwr.out]; exact drewN_add _ _ _⟩, by simp [intOf]; omega⟩
            · obtain rfl : k = S.2.length := by omega
              go_wp2_with fail
              go_ret
              exact ⟨rfl, by rw [Hwr.out]; exact below_drewN t8 d⟩
      · rcases Hr5.out with e5 | e5
        · have e3' : (r3.2.2 == 0) = false := by simp [e3]
          clear e3
          have e5' : (r5.2.2 != 0) = false := by simp [e5]
          clear e5
          go_wp2_with fail
          go_loopw [113] (SmRel S.2.length w8) (fun i _ => S.2.length - (intOf i).toNat)
          case atStart => exact start
          case round =>
            clear start
            obtain ⟨k, d, hk, rfl, hwr⟩ := hrel
            have owr1 := ownsRow_bel ow18 (show Below w8.heap.size w8 wr from by rw [hwr]; exact below_drewN (Below.refl _ _) d)
            have owr2 := ownsRow_bel ow28 (show Below w8.heap.size w8 wr from by rw [hwr]; exact below_drewN (Below.refl _ _) d)
            have Hwr := Lib.hid hwr
            clear hwr
            by_cases hkm : k < S.2.length
            · obtain ⟨q1, rfl⟩ := own_some owr1 (by omega)
              obtain ⟨q2, rfl⟩ := own_some owr2 (by omega)
              obtain ⟨f0, f1, f2, f3, hf⟩ := fl4 (S.2[k])
              obtain ⟨i0, i1, i2, i3⟩ := own_four_at owr1 hkm hf
              obtain ⟨j0, j1, j2, j3⟩ := own_four_at owr2 hkm hf
              have hef := eq_four f0 f1 f2 f3
              have hml := own_le owr1
              have hwk : IntKind.i64.wrap ((k : Int) + 1) = (k : Int) + 1 := by unfold maxLen at hml; rw [IntKind.wrap_i64]; omega
              have hkm' : (k : Int) < (S.2.length : Int) := by omega
              clear hf
              go_wp2_with fail
              go_quiet (fail)
              go_wp2_with fail
              exact ⟨⟨k + 1, d + _, by omega, rfl, by rw [Hwr.out]; exact drewN_add _ _ _⟩, by simp [intOf]; omega⟩
            · obtain rfl : k = S.2.length := by omega
              go_wp2_with fail
              go_ret
              exact ⟨rfl, by rw [Hwr.out]; exact below_drewN t8 d⟩
        · have e3' : (r3.2.2 == 0) = false := by simp [e3]
          clear e3
          have e5' : (r5.2.2 != 0) = true := by simp [e5]
          have e6' : (r5.2.2 != 2) = false := by simp [e5]
          clear e5
          go_wp2_with fail
          go_loopw [113] (SmRel S.2.length w8) (fun i _ => S.2.length - (intOf i).toNat)
          case atStart => exact start
          case round =>
            clear start
            obtain ⟨k, d, hk, rfl, hwr⟩ := hrel
            have owr1 := ownsRow_bel ow18 (show Below w8.heap.size w8 wr from by rw [hwr]; exact below_drewN (Below.refl _ _) d)
            have owr2 := ownsRow_bel ow28 (show Below w8.heap.size w8 wr from by rw [hwr]; exact below_drewN (Below.refl _ _) d)
            have Hwr := Lib.hid hwr
            clear hwr
            by_cases hkm : k < S.2.length
            · obtain ⟨q1, rfl⟩ := own_some owr1 (by omega)
              obtain ⟨q2, rfl⟩ := own_some owr2 (by omega)
              obtain ⟨f0, f1, f2, f3, hf⟩ := fl4 (S.2[k])
              obtain ⟨i0, i1, i2, i3⟩ := own_four_at owr1 hkm hf
              obtain ⟨j0, j1, j2, j3⟩ := own_four_at owr2 hkm hf
              have hef := eq_four f0 f1 f2 f3
              have hml := own_le owr1
              have hwk : IntKind.i64.wrap ((k : Int) + 1) = (k : Int) + 1 := by unfold maxLen at hml; rw [IntKind.wrap_i64]; omega
              have hkm' : (k : Int) < (S.2.length : Int) := by omega
              clear hf
              go_wp2_with fail
              go_quiet (fail)
              go_wp2_with fail
              exact ⟨⟨k + 1, d + _, by omega, rfl, by rw [Hwr.out]; exact drewN_add _ _ _⟩, by simp [intOf]; omega⟩
            · obtain rfl : k = S.2.length := by omega
              go_wp2_with fail
              go_ret
              exact ⟨rfl, by rw [Hwr.out]; exact below_drewN t8 d⟩
  · have her' : (S.1.2.2 == 0) = false := by simp [her]
    clear her
    go_wp2_with fail
    generalize w2.alloc (.cells #[.slice A2 S.1.1.length c2, .int .i64 S.1.2.1] 24) = U2 at *
    refine (alive14_any _).mono ?_
    rintro e w8 ⟨rfl, b8⟩
    go_wp2_with fail
    go_ret
    exact ⟨rfl, t2.trans (b8.mono t2.size)⟩
end Go.Proofs.Ytoocoobgidoceaa
