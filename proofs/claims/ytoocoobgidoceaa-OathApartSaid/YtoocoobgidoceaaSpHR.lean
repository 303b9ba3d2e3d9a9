import Derived.Test.YtoocoobgidoceaaSpOut
import Derived.Test.YtoocoobgidoceaaSpHRM
import Derived.Test.YtoocoobgidoceaaSpAll
namespace Go.Proofs.Ytoocoobgidoceaa
open Go.RowKit
set_option linter.unusedVariables false

theorem wpList_store_newS {P : Program} {ops : Array Oper} {rest : List Oper} {o : Oper} {a : Act} {w : World} {p : Addr} {u : Value} {Q : Exit → Act → World → Prop} (hgd : o.guard = none) (ty : TypeId) (x y : Operand) (ho : o.op = .store ty x y)
    (k : IntKind) (zs : List Nat) (hx : a.eval x = .pointer (some ⟨w.heap.size, 0, none⟩)) (hy : a.eval y = .agg (lim k zs))
    (t : TypeId) (old : Array Value) (hi : (P.info? ty).map (·.size) = some zs.length)
    (hold : old.size = zs.length) (h : wpList P ops Q rest (a.put o.dst undef) ((w.setCell p u).alloc (.cells (lim k zs) t))) : wpList P ops Q (o :: rest) a ((w.setCell p u).alloc (.cells old t)) := by
  have e : (w.setCell p u).heap.size = w.heap.size := World.size_setCell ..
  exact wpList_store_new hgd ty x y ho k zs (by rw [hx, e]) hy t old hi hold h
def RfRel (p : List Nat) (m cap g h B : Nat) (w : World) (f : Value) (wr : World) : Prop :=
  ∃ k o : Nat, 136 * k ≤ m ∧ o = 136 * k ∧ f = .int .i64 (o : Int) ∧ Own wr h 58 .u64 (spN p k) ∧ Buf wr B g cap p ∧ Below B w wr
def RaRel (p S : List Nat) (cap g h B o : Nat) (w : World) (i : Value) (wr : World) : Prop :=
  ∃ j : Nat, j ≤ 17 ∧ i = .int .i64 (j : Int) ∧ Own wr h 58 .u64 (absR S p o j) ∧ Buf wr B g cap p ∧ Below B w wr
def RhRel (p : List Nat) (b : Nat) (w : World) (n k : Value) (wr : World) : Prop :=
  ∃ t : Nat, t ≤ 8 ∧ n = .int .u64 (hor p b t : Nat) ∧ k = .int .i64 (7 - (t : Int)) ∧ wr = w
def RoRel (Z : List Nat) (h B B2 : Nat) (w : World) (v i : Value) (wr : World) : Prop :=
  ∃ j m : Nat, j ≤ 4 ∧ m = 8 * j ∧ i = .int .i64 (j : Int) ∧ Own wr h 58 .u64 Z ∧ wr.ownsRow B2 5 1 v m (outL Z m) ∧ Below B w wr ∧ B2 ≤ wr.heap.size
def RiRel (Z : List Nat) (x h B B2 j : Nat) (w : World) (v n k : Value) (wr : World) : Prop :=
  ∃ t m : Nat, t ≤ 8 ∧ m = 8 * j + t ∧ k = .int .i64 (t : Int) ∧ n = .int .u64 (x / 2 ^ (8 * t) : Nat) ∧ Own wr h 58 .u64 Z ∧ wr.ownsRow B2 5 1 v m (outL Z m) ∧ Below B w wr ∧ B2 ≤ wr.heap.size
structure RfE (bs Z : List Nat) : Prop where
  eq : (List.range 32).map (sqz1 Z) = digN bs

set_option maxHeartbeats 4000000 in
/-- ref.Hash -/
theorem refhash_any (s : ByteArray) (w : World) (hs : s.size ≤ 65536) :
    Calls Try.prog 23 #[.string s] w fun e w' => e = .returned (.tuple #[.string (strB (digN (bytesN s))), .int .i64 0]) ∧ Below w.heap.size w w' := by
  have hal : Try.prog.arrayLen 58 = 25 := by kernel_rfl
  obtain ⟨cap0, W0, kc, hb0, hbe0⟩ := conv_bytes s w
  have hl : (s.size : Int) ≤ 65536 := by omega
  go_enter Try.func23, Try.ntmps23
  have hb1 := hb0.alloc (.cells #[.int .u8 1] 5)
  have hw1 : (W0.alloc (.cells #[.int .u8 1] 5)).cell? ⟨W0.heap.size, 0, none⟩ = some (.int .u8 ((1 : Nat) : Int)) := World.cell?_alloc_mark W0 #[.int .u8 1] 5 (0, 0) 0
  have hbe1 : Below w.heap.size w (W0.alloc (.cells #[.int .u8 1] 5)) := hbe0.alloc hbe0.size _
  go_wp2_with (refine wpList_buf_append (w := W0.alloc (.cells #[.int .u8 1] 5)) hb1 rfl (.tmp 19) (.tmp 20) 22 rfl 5 (by kernel_rfl) info_u8 s.size (bytesN_length s) rfl _ _ 1 rfl hw1 hbe1.size (by omega) ?_; intro g cap w1 hb1 hbe1 _ _ _)
  have bl := bytesN_length s
  have bB := bytesN_byt s
  generalize hbs : bytesN s = bs at *
  have HBS := BsE.mk hbs
  clear hbs
  generalize hn : s.size = n at *
  clear hn
  have hPR : PadRel bs n w.heap.size w (.slice (some ⟨g, 0, none⟩) (n + 1) cap) w1 := ⟨0, n + 1, g, cap, Nat.zero_le _, rfl, rfl, by rw [show padX bs 0 = bs ++ [1] by simp [padX]]; exact hb1, hbe0.trans ((Below.refl _ _).alloc hbe0.size _ |>.trans hbe1)⟩
  clear hb0 hw1 hbe0 hbe1 hb1 kc
  go_loopw [4] (fun v wr => PadRel bs n w.heap.size w v wr) (fun v _ => match v with | .slice _ m _ => 70000 - m | _ => 0)
  case atStart => exact hPR
  case round =>
    clear hPR
    obtain ⟨k, m, g, cap, hk, hm, rfl, hb, hbe⟩ := hrel
    have hpl := padX_length bs k
    rw [bl, hm] at hpl
    have hkk := padK_zero hk
    rw [hm] at hkk
    have hpk : padK n < 136 := by unfold padK; omega
    by_cases hlt : k < padK n
    · have hm1 : ¬ m % 136 = 0 := by rw [hkk]; omega
      have hm2 : ¬ (m : Int) % 136 = 0 := by omega
      have hb1 := hb.alloc (.cells #[.int .u8 0] 5)
      have hw1 : (wr.alloc (.cells #[.int .u8 0] 5)).cell? ⟨wr.heap.size, 0, none⟩ = some (.int .u8 ((0 : Nat) : Int)) := World.cell?_alloc_mark wr #[.int .u8 0] 5 (0, 0) 0
      have hbe1 : Below w.heap.size w (wr.alloc (.cells #[.int .u8 0] 5)) := hbe.alloc hbe.size _
      go_wp2_with (refine wpList_buf_append (w := wr.alloc (.cells #[.int .u8 0] 5)) hb1 rfl (.tmp 26) (.tmp 27) 22 rfl 5 (by kernel_rfl) info_u8 m hpl rfl _ _ 0 rfl hw1 hbe1.size (by omega) ?_; intro g' cap' w2 hb2 hbe2 _ _ _)
      exact ⟨⟨k + 1, m + 1, g', cap', by omega, by omega, rfl, by rw [padX_succ]; exact hb2, hbe1.trans hbe2⟩, by show 70000 - (m + 1) < 70000 - m; omega⟩
    · obtain rfl : k = padK n := by omega
      have hm1 : m % 136 = 0 := hkk.2 rfl
      have hm2 : (m : Int) % 136 = 0 := by omega
      have hL : padX bs (padK n) = padL bs := by rw [padL, bl]
      rw [hL] at hb hpl
      have hB := padF_byt bB
      have hlast := padL_last bs
      rw [hpl] at hlast
      have hF : padF bs = (padL bs).set (m - 1) (nth (padL bs) (m - 1) + 128) := by rw [padF, hpl]
      have hlF := padF_length bs
      rw [hpl] at hlF
      obtain ⟨q, hq⟩ : ∃ q, m - 1 = q := ⟨_, rfl⟩
      have hq' : (m : Int) - 1 = (q : Int) := by omega
      have hqm : (q : Int) < (m : Int) := by omega
      rw [hq] at hlast hF
      have hcq := hb.cell q (by omega)
      have hfq := (hb.spare q (by have := hb.fit; omega)).2
      have hbS := hb.set (i := q) (by omega) (nth (padL bs) q + 128)
      rw [← hF] at hbS
      have hbeS := hbe.setCell (p := ⟨g, q, none⟩) hb.base (.int .u8 ((nth (padL bs) q + 128 : Nat) : Int))
      have hx2 : nth (padL bs) q ≤ 1 := by omega
      generalize nth (padL bs) q = x at *
      have hxw : IntKind.u8.wrap ((x : Int) + 128) = (x : Int) + 128 := by rw [IntKind.wrap_u8]; omega
      have hPE : PadE bs (padF bs) := ⟨rfl⟩
      generalize padF bs = p at *
      generalize padL bs = L at *
      have hfit := hb.fit
      have hgl := hb.lt
      have hgB := hb.base
      clear hb hbe hlast hF hL hkk
      have hW : RfRel p m cap g wr.heap.size w.heap.size w (.int .i64 0) ((wr.setCell ⟨g, q, none⟩ (.int .u8 ((x + 128 : Nat) : Int))).alloc (.cells (lim .u64 (List.replicate 25 0)) 58)) := by
        have e : (wr.setCell ⟨g, q, none⟩ (.int .u8 ((x + 128 : Nat) : Int))).heap.size = wr.heap.size := World.size_setCell ..
        refine ⟨0, 0, by omega, rfl, rfl, ?_, hbS.alloc _, hbeS.alloc (by rw [e]; omega) _⟩
        have := Own.new (wr.setCell ⟨g, q, none⟩ (.int .u8 ((x + 128 : Nat) : Int))) 58 .u64 (List.replicate 25 0)
        rwa [e] at this
      have hgh : g ≠ wr.heap.size := by omega
      have hBh : w.heap.size ≤ wr.heap.size := by omega
      go_wp2_with (first | refine wpList_build_to rfl 58 _ rfl (lim .u64 (List.replicate 25 0)) (by kernel_rfl) ?_ | refine wpList_store_newS rfl 58 (.tmp 5) (.tmp 41) rfl .u64 (List.replicate 25 0) rfl rfl 58 _ (by kernel_rfl) rfl ?_)
      clear hbS hbeS
      generalize wr.heap.size = h at *
      clear hgl hcq hfq hxw
      have HM := Lib.hid (And.intro hm1 (And.intro hlF (show m ≤ cap by omega)))
      have hmi : (m : Int) ≤ 70000 := by omega
      clear hlF hm1 hm2 hq hq' hqm hm hlt hk hpk bl hfit hpl bB
      go_loopw [6] (fun f wr => RfRel p m cap g h w.heap.size w f wr) (fun f _ => m - (intOf f).toNat)
      case atStart => exact hW
      case round =>
        clear hW
        obtain ⟨k, o, hk, ho, rfl, ow, hb, hbe⟩ := hrel
        have lS := spN_length p k
        have oS := spN_ok hB k
        by_cases hlt : o < m
        · have hlti : (o : Int) < (m : Int) := by omega
          have hd : decide (o < m) = true := decide_eq_true hlt
          have hSE : spN p (k + 1) = permN (absR (spN p k) p o 17) 24 := by rw [spN, absR_absP lS hB o 17 (Nat.le_refl _), ho]
          have HZ1 := SpZ.mk (p := p) (k := k) rfl
          have HK := Lib.hid (And.intro hk ho)
          clear hk ho
          rw [hSE] at HZ1
          clear hSE
          generalize spN p k = S at *
          have hA : RaRel p S cap g h w.heap.size o w (.int .i64 0) wr := ⟨0, by omega, rfl, ow, hb, hbe⟩
          go_wp2_with fail
          clear ow hb hbe
          go_loopw [7, 8, 9] (fun i _ _ wr => RaRel p S cap g h w.heap.size o w i wr) (fun i _ _ _ => 17 - (intOf i).toNat)
          case atStart => exact hA
          case round =>
            clear hA
            obtain ⟨j, hj, rfl, ow, hb, hbe⟩ := hrel
            by_cases hj17 : j < 17
            · have hji : (j : Int) < 17 := by omega
              have hdj : decide ((j : Int) < 17) = true := decide_eq_true hji
              go_wp2_with fail
              go_loopw [8, 9] (RhRel p (o + 8 * j) wr) (fun _ k _ => (intOf k + 1).toNat)
              case atStart => exact ⟨0, by omega, rfl, rfl, rfl⟩
              case round =>
                obtain ⟨t, ht, rfl, rfl, rfl⟩ := hrel
                by_cases ht8 : t < 8
                · have hge : (0 : Int) ≤ 7 - (t : Int) := by omega
                  obtain ⟨xx, hxx⟩ : ∃ xx, o + 8 * j + 7 - t = xx := ⟨_, rfl⟩
                  have hx1 : (o : Int) + 8 * (j : Int) + (7 - (t : Int)) = (xx : Int) := by omega
                  have hxm : xx < m := by have := HM.out; have := HK.out; omega
                  have hxm' : (xx : Int) < (m : Int) := by omega
                  have hcb := hb.cell xx (by have := HM.out; omega)
                  have hH := hor_small hB (o + 8 * j) ht8
                  have HS := Lib.hid (show hor p (o + 8 * j) (t + 1) = hor p (o + 8 * j) t * 256 + nth p xx by rw [hor, hxx])
                  have hbt := hB.getD xx
                  generalize hor p (o + 8 * j) t = H at *
                  generalize nth p xx = y at *
                  clear hxx
                  go_wp2_with fail
                  exact ⟨⟨t + 1, by omega, by rw [HS.out]; rfl, by congr 1; omega, rfl⟩, by simp [intOf]; omega⟩
                · obtain rfl : t = 8 := by omega
                  have hlt8 := hor8_lt hB (o + 8 * j)
                  have HA := Lib.hid (show absR S p o (j + 1) = (absR S p o j).set j (nth (absR S p o j) j ^^^ hor p (o + 8 * j) 8) from rfl)
                  have lA := absR_length S p o j
                  rw [lS] at lA
                  have oA := absR_ok oS hB o j
                  generalize absR S p o j = A at *
                  generalize hor p (o + 8 * j) 8 = y at *
                  have hca := ow.cell (i := j) (by omega)
                  have hfa := ow.frozen j
                  have hj25 : (j : Int) < 25 := by omega
                  go_wp2_with fail
                  rw [u64_xor_nat _ _ (oA.getD _) hlt8]
                  exact ⟨⟨j + 1, by omega, rfl, by rw [HA.out]; exact ow.set _ _, hb.far hgh _, hbe.setCell (p := ⟨h, j, none⟩) hBh _⟩, by simp [intOf]; omega⟩
            · obtain rfl : j = 17 := by omega
              have lA := absR_length S p o 17
              rw [lS] at lA
              have oA := absR_ok oS hB o 17
              generalize absR S p o 17 = A at *
              have lZ : (permN A 24).length = 25 := by rw [permN_length, lA]
              have he : prmL A 24 = permN A 24 := perm_same lA 24 (Nat.le_refl _)
              have HP := Lib.hid (fun W => refperm_any A W lA oA)
              rw [he] at HP
              clear he
              generalize permN A 24 = Z at *
              go_wp2_with (refine own_load ow rfl 58 (.tmp 5) rfl rfl 25 33 lA (by kernel_rfl) (by kernel_rfl) ?_)
              refine (HP.out _).mono ?_
              rintro e w6 ⟨rfl, b6⟩
              have ow6 := ow.bel b6
              have hb6 := hb.bel b6
              have hbe6 := hbe.trans (b6.mono hbe.size)
              clear ow hb hbe b6 HP
              have ow7 : Own (w6.setRow h (lim .u64 Z)) h 58 .u64 Z := setRow_heap _ _ _ _ _ _ ow6
              have hb7 : Buf (w6.setRow h (lim .u64 Z)) w.heap.size g cap p := hb6.same (setRow_other _ _ _ _ hgh)
              have hbe7 := below_setRow hbe6 hBh (lim .u64 Z)
              go_wp2_with (refine wpList_store_row rfl 58 (.tmp 5) (.tmp 77) rfl h (lim .u64 Z) rfl rfl 58 _ ow6 (by rw [lim_size, lZ]; kernel_rfl) (by rw [lim_size, lim_size, lZ, lA]) (lim_one _ _) ?_)
              generalize w6.setRow h (lim .u64 Z) = w7 at *
              clear ow6 hb6 hbe6
              have H := HK.out
              have H2 := HM.out
              exact ⟨⟨k + 1, o + 136, by omega, by omega, rfl, by rw [HZ1.eq]; exact ow7, hb7, hbe7⟩, by simp [intOf]; omega⟩
        · have hkm : k = p.length / 136 := by have := HM.out; omega
          have hS : spN p k = spN p (p.length / 136) := by rw [hkm]
          rw [hS] at ow lS oS
          have HD := RfE.mk (bs := bs) (Z := spN p (p.length / 136)) (by rw [digN, hPE.eq, sqz_map])
          generalize spN p (p.length / 136) = Z at *
          have hlti : (m : Int) ≤ (o : Int) := by omega
          have hd : decide (o < m) = false := decide_eq_false hlt
          clear hS hkm hk ho
          have hhB : h < wr.heap.size := ow.lt
          have hO : RoRel Z h w.heap.size wr.heap.size w (.slice (some ⟨wr.heap.size, 0, none⟩) 0 0) (.int .i64 0) (wr.alloc (.cells #[] 5)) :=
            ⟨0, 0, by omega, rfl, rfl, ow.alloc _, World.ownsRow_made wr #[] 0 (Nat.le_refl _) (Nat.zero_le _) rfl, hbe.alloc hbe.size _, by simp⟩
          have hB2 := hbe.size
          go_wp2_with fail
          clear ow hb hbe
          generalize wr.heap.size = B2 at *
          obtain ⟨ti, hti, hti345⟩ := Option.map_eq_some_iff.1 info_u8
          have hti3 : ti.zero = some (.int .u8 0) := by injection hti345
          have hti4 : ti.size = 1 := by injection hti345 with _ k; injection k
          have hti5 : ti.bytes = 1 := by injection hti345 with _ k; injection k
          have HT := Lib.hid (And.intro hti (And.intro hti3 (And.intro hti4 hti5)))
          clear hti345 hti hti3 hti4 hti5
          go_loopw [10, 11, 12, 13] (fun v i _ _ wr => RoRel Z h w.heap.size B2 w v i wr) (fun _ i _ _ _ => 4 - (intOf i).toNat)
          case atStart => exact hO
          case round =>
            clear hO
            obtain ⟨j, m0, hj, hm0, rfl, ow, hrow, hbe, hb2s⟩ := hrel
            by_cases hj4 : j < 4
            · have hji : (j : Int) < 4 := by omega
              have hdj : decide ((j : Int) < 4) = true := decide_eq_true hji
              have hj25 : (j : Int) < 25 := by omega
              have hca := ow.cell (i := j) (by omega)
              have hat := fun t (ht : t < 8) => sqz_at Z j t ht
              have hxl := oS.getD j
              generalize nth Z j = x at *
              have hI : RiRel Z x h w.heap.size B2 j w _ (.int .u64 (x : Int)) (.int .i64 0) wr := ⟨0, m0, by omega, by omega, rfl, by simp, ow, hrow, hbe, hb2s⟩
              go_wp2_with fail
              clear ow hrow hbe hb2s hca
              go_loopw [10, 12, 13] (fun v n k wr => RiRel Z x h w.heap.size B2 j w v n k wr) (fun _ _ k _ => 8 - (intOf k).toNat)
              case atStart => exact hI
              case round =>
                clear hI
                obtain ⟨t, m1, ht, hm1, rfl, rfl, ow, hrow, hbe, hb2s⟩ := hrel
                by_cases ht8 : t < 8
                · have hti : (t : Int) < 8 := by omega
                  have HQ := Lib.hid (outL_succ Z m1)
                  have hq1 : sqz1 Z m1 = x / 2 ^ (8 * t) % 256 := by rw [hm1]; exact hat t ht8
                  have hdv := Lib.hid (div_256 x t)
                  rw [hq1] at HQ
                  clear hq1
                  have hyl : x / 2 ^ (8 * t) < 18446744073709551616 := Nat.lt_of_le_of_lt (Nat.div_le_self _ _) hxl
                  generalize x / 2 ^ (8 * t) = y at *
                  have hlt := hrow.lt
                  have hrow1 := hrow.alloc (.cells #[.int .u8 ((y : Int) % 256)] 5)
                  have ow1 := ow.alloc (.cells #[.int .u8 ((y : Int) % 256)] 5)
                  have hbe1 := hbe.alloc hbe.size (.cells #[.int .u8 ((y : Int) % 256)] 5)
                  have hy256 : (y : Int) % 256 % 256 = (y : Int) % 256 := by omega
                  go_wp2_with (refine wpList_append_lies (wr.alloc (.cells #[.int .u8 ((y : Int) % 256)] 5)) rfl (.tmp 90) (.tmp 94) 22 rfl B2 5 ti (.int .u8 0) 1 1 (by kernel_rfl) HT.out.1 HT.out.2.1 HT.out.2.2.1 HT.out.2.2.2 rfl (by decide) _ m1 (outL Z m1) rfl hrow1 ⟨wr.heap.size, 0, none⟩ 1 1 [.int .u8 ((y : Int) % 256)] rfl rfl (World.news_of_block (heap_alloc_new wr _)) (by simp [Value.oneCell']) (by decide) (by simp only [maxLen]; omega) (by omega) (by simp; omega) _ rfl ?_; intro g' cap' w8 hrow8 hgrow8 hat8 hlt8)
                  have ow8 : Own w8 h 58 .u64 Z := (hgrow8.block h ow1.lt (by intro e; have := hlt _ e.symm; omega)).trans ow1
                  have hbe8 : Below w.heap.size w w8 := hbe1.trans ⟨hgrow8.os, hgrow8.tape, hgrow8.output, hgrow8.size, fun k hk => hgrow8.block k (Nat.lt_of_lt_of_le hk hbe1.size) (by intro e; have := hlt _ e.symm; omega)⟩
                  subst hm1
                  exact ⟨⟨t + 1, 8 * j + t + 1, by omega, by omega, rfl, by rw [← hdv.out]; rfl, ow8, by rw [HQ.out]; exact hrow8, hbe8, by have := hgrow8.size; simp at this; omega⟩, by simp [intOf]; omega⟩
                · obtain rfl : t = 8 := by omega
                  go_wp2_with fail
                  subst hm1
                  exact ⟨⟨j + 1, 8 * j + 8, by omega, by omega, rfl, ow, hrow, hbe, hb2s⟩, by simp [intOf]; omega⟩
            · obtain rfl : j = 4 := by omega
              obtain rfl : m0 = 32 := by omega
              obtain ⟨g', cap', rfl, _, hg8⟩ := hrow.form (by decide)
              have hconv := conv_row (l := (List.range 32).map (sqz1 Z)) (by rw [List.map_map]; exact hrow)
              rw [HD.eq] at hconv
              go_wp2_with fail
              go_ret2
              exact ⟨by rw [HBS.eq]; rfl, hbe⟩
/-- ref.Hash, at a text that is too long -/
theorem refhash_no (s : ByteArray) (w : World) (hs : 65536 < s.size) :
    Calls Try.prog 23 #[.string s] w fun e w' => e = .returned (.tuple #[.string ⟨#[]⟩, .int .i64 2]) ∧ w' = w := by
  have hl : (65536 : Int) < (s.size : Int) := by omega
  go_enter Try.func23, Try.ntmps23
  go_wp2_with fail
  go_ret2
  exact ⟨rfl, rfl⟩
end Go.Proofs.Ytoocoobgidoceaa
