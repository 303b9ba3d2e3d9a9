import Derived.Test.YtoocoobgidoceaaSpAll
namespace Go.Proofs.Ytoocoobgidoceaa
open Go.RowKit
set_option linter.unusedVariables false

theorem bytesN_byt (s : ByteArray) : Byt (bytesN s) := by
  intro x hx
  simp only [bytesN, List.mem_map] at hx
  obtain ⟨b, _, rfl⟩ := hx
  exact b.toNat_lt
/-- '[]byte(s)', laid. -/
theorem buf_bytes (s : ByteArray) (w : World) (e : TypeId) (cap : Nat) (hc : s.size ≤ cap) :
    Buf (w.drew.alloc (.cells (bytesRow s cap) e ((bytesRow s cap).size, (bytesRow s cap).size + 1))) w.heap.size w.heap.size cap (bytesN s) := by
  refine Buf.of_cells (heap_alloc_new w.drew _) (Nat.le_refl _) (.inr (Nat.le_refl _)) (by rw [bytesN_length]; exact hc) ?_ fun j hj => ?_
  · unfold bytesRow
    rw [Array.size_append, Array.size_map, Array.size_replicate]
    show cap ≤ s.size + (cap - s.size)
    omega
  · rw [bytesN_length] at hj
    have hj' : j < s.data.size := hj
    rw [bytesRow_at s cap j hj']
    unfold bytesN nth
    rw [List.getD_eq_getElem?_getD, List.getElem?_map, Array.getElem?_toList, Array.getElem?_eq_getElem hj']
    rfl

def strB (xs : List Nat) : ByteArray := strOfNums (xs.map fun x : Nat => (x : Int))
def SpRel (p : List Nat) (m cap g h B : Nat) (w : World) (v : Value) (wr : World) : Prop :=
  ∃ k o r c : Nat, 136 * k + r = m ∧ 136 * k + c = cap ∧ (r = 0 ∨ o = 136 * k) ∧ v = .slice (some ⟨g, o, none⟩) r c ∧ Own wr h 58 .u64 (spN p k) ∧ Buf wr B g cap p ∧ Below B w wr
def AbRel (p S : List Nat) (cap g h B o : Nat) (w : World) (i : Value) (wr : World) : Prop :=
  ∃ j : Nat, j ≤ 136 ∧ i = .int .i64 (j : Int) ∧ Own wr h 58 .u64 (absP S (p.drop o) j) ∧ Buf wr B g cap p ∧ Below B w wr
structure SpE (p S : List Nat) (o : Nat) (Z : List Nat) : Prop where
  eq : permN (absP S (p.drop o) 136) 24 = Z
structure SpZ (p : List Nat) (k : Nat) (Z : List Nat) : Prop where
  eq : spN p (k + 1) = Z
structure DigE (S bs : List Nat) : Prop where
  eq : sqzN S 32 = digN bs
structure BsE (s : ByteArray) (bs : List Nat) : Prop where
  eq : bytesN s = bs
structure PadE (bs p : List Nat) : Prop where
  eq : padF bs = p
def PadRel (bs : List Nat) (n : Nat) (B : Nat) (w : World) (v : Value) (wr : World) : Prop :=
  ∃ k m g cap : Nat, k ≤ padK n ∧ n + 1 + k = m ∧ v = .slice (some ⟨g, 0, none⟩) m cap ∧ Buf wr B g cap (padX bs k) ∧ Below B w wr
theorem nth_drop2 (l : List Nat) (o j : Nat) : nth (l.drop o) j = nth l (o + j) := by
  unfold nth
  rw [List.getD_eq_getElem?_getD, List.getD_eq_getElem?_getD, List.getElem?_drop]
theorem or_u8 (x : Nat) (h : x = 0 ∨ x = 1) : bits .or .u8 (x : Int) 128 = ((x + 128 : Nat) : Int) := by
  rcases h with rfl | rfl <;> decide
theorem info_u8 : (Try.prog.info? 5).map (fun i => (i.zero, i.size, i.bytes)) = some (some (.int .u8 0), 1, 1) := by kernel_rfl
theorem made_lim8 (n : Nat) : madeCells #[Value.int .u8 0] n = lim .u8 (List.replicate n 0) := by
  apply Array.ext'
  rw [toList_madeCells_one]
  simp [lim]
theorem run_mk8 (n : Nat) (hn : n ≤ 1000000) (w : World) :
    (Instr.makeSlice 22 (.int .i64 (n : Int)) (.int .i64 (n : Int))).run Try.prog w = .ok (.slice (some ⟨w.heap.size, 0, none⟩) n n) (w.alloc (.cells (lim .u8 (List.replicate n 0)) 5)) := by
  obtain ⟨i0, hi, hz0, hz1, hz2⟩ := info_parts info_u8
  have h := run_make (P := Try.prog) w 22 5 i0 (.int .u8 0) Try.underlying22 hi hz0 .i64 .i64 n n (by omega) (by omega) (by rw [hz2]; omega) (by omega)
  simp only [Int.toNat_natCast, hz1, Nat.mul_one] at h
  rw [h, ← made_lim8]; rfl
theorem conv_own {w : World} {b : Nat} {l : List Nat} {n : Nat} (h : Own w b 5 .u8 l) (hl : l.length = n) : (convert 22 9 (.slice (some ⟨b, 0, none⟩) n n)).run Try.prog w = .ok (.string (strB l)) w := by
  refine run_convert_bytes_arg (P := Try.prog) w 22 5 (by kernel_rfl) (by kernel_rfl) b 0 n n (l.map fun x : Nat => (x : Int)) (by rw [List.length_map, hl]) (fun i hi => ?_) 9 (by kernel_rfl)
  rw [Nat.zero_add, h.cell (by omega)]
  congr 2
  unfold nth
  rw [List.getD_eq_getElem?_getD, List.getD_eq_getElem?_getD, List.getElem?_map, List.getElem?_eq_getElem (by omega)]
  rfl
def SqRel (S : List Nat) (h b B : Nat) (w : World) (i : Value) (wr : World) : Prop :=
  ∃ j : Nat, j ≤ 32 ∧ i = .int .i64 (j : Int) ∧ Own wr h 58 .u64 S ∧ Own wr b 5 .u8 (sqzN S j) ∧ Below B w wr
theorem conv_bytes (s : ByteArray) (w : World) : ∃ cap W0, (convert 9 22 (.string s)).run Try.prog w = .ok (.slice (some ⟨w.heap.size, 0, none⟩) s.size cap) W0 ∧ Buf W0 w.heap.size w.heap.size cap (bytesN s) ∧ Below w.heap.size w W0 :=
  ⟨_, _, run_bytes_of_string (P := Try.prog) w 9 22 5 s (by kernel_rfl) (by kernel_rfl) (by kernel_rfl), buf_bytes s w 5 _ (grownCap_ge w s.size 0 5), ((Below.refl _ _).drew).alloc (Nat.le_refl _) _⟩
set_option maxHeartbeats 1000000 in
/-- sponge.Hash -/
theorem hash_any (s : ByteArray) (w : World) (hs : s.size ≤ 65536) :
    Calls Try.prog 21 #[.string s] w fun e w' => e = .returned (.tuple #[.string (strB (digN (bytesN s))), .int .i64 0]) ∧ Below w.heap.size w w' := by
  have hal : Try.prog.arrayLen 58 = 25 := by kernel_rfl
  obtain ⟨cap0, W0, kc, hb0, hbe0⟩ := conv_bytes s w
  have hl : (s.size : Int) ≤ 65536 := by omega
  go_enter Try.func21, Try.ntmps21
  have hb1 := hb0.alloc (.cells #[.int .u8 1] 5)
  have hw1 : (W0.alloc (.cells #[.int .u8 1] 5)).cell? ⟨W0.heap.size, 0, none⟩ = some (.int .u8 ((1 : Nat) : Int)) := World.cell?_alloc_mark W0 #[.int .u8 1] 5 (0, 0) 0
  have hbe1 : Below w.heap.size w (W0.alloc (.cells #[.int .u8 1] 5)) := hbe0.alloc hbe0.size _
  go_wp2_with (refine wpList_buf_append (w := W0.alloc (.cells #[.int .u8 1] 5)) hb1 rfl (.tmp 14) (.tmp 15) 22 rfl 5 (by kernel_rfl) info_u8 s.size (bytesN_length s) rfl _ _ 1 rfl hw1 hbe1.size (by omega) ?_; intro g cap w1 hb1 hbe1 _ _ _)
  have bl := bytesN_length s
  have bB := bytesN_byt s
  generalize hbs : bytesN s = bs at *
  have HBS := BsE.mk hbs
  clear hbs
  generalize s.size = n at *
  have hPR : PadRel bs n w.heap.size w (.slice (some ⟨g, 0, none⟩) (n + 1) cap) w1 := ⟨0, n + 1, g, cap, Nat.zero_le _, rfl, rfl, by rw [show padX bs 0 = bs ++ [1] by simp [padX]]; exact hb1, hbe0.trans ((Below.refl _ _).alloc hbe0.size _ |>.trans hbe1)⟩
  clear hb0 hw1 hbe0 hbe1 hb1
  go_loopw [4] (fun v wr => PadRel bs n w.heap.size w v wr) (fun v _ => match v with | .slice _ m _ => 70000 - m | _ => 0)
  case atStart => exact hPR
  case round =>
    clear hPR
    obtain ⟨k, m, g, cap, hk, hm, rfl, hb, hbe⟩ := hrel
    have hpl := padX_length bs k
    rw [bl, hm] at hpl
    have hkk := padK_zero hk
    rw [hm] at hkk
    have hpk : padK n < 136 := by unfold padK; omega
    by_cases hlt : k < padK n
    · have hm1 : ¬ m % 136 = 0 := by rw [hkk]; omega
      have hm2 : ¬ (m : Int) % 136 = 0 := by omega
      have hb1 := hb.alloc (.cells #[.int .u8 0] 5)
      have hw1 : (wr.alloc (.cells #[.int .u8 0] 5)).cell? ⟨wr.heap.size, 0, none⟩ = some (.int .u8 ((0 : Nat) : Int)) := World.cell?_alloc_mark wr #[.int .u8 0] 5 (0, 0) 0
      have hbe1 : Below w.heap.size w (wr.alloc (.cells #[.int .u8 0] 5)) := hbe.alloc hbe.size _
      go_wp2_with (refine wpList_buf_append (w := wr.alloc (.cells #[.int .u8 0] 5)) hb1 rfl (.tmp 21) (.tmp 22) 22 rfl 5 (by kernel_rfl) info_u8 m hpl rfl _ _ 0 rfl hw1 hbe1.size (by omega) ?_; intro g' cap' w2 hb2 hbe2 _ _ _)
      exact ⟨⟨k + 1, m + 1, g', cap', by omega, by omega, rfl, by rw [padX_succ]; exact hb2, hbe1.trans hbe2⟩, by show 70000 - (m + 1) < 70000 - m; omega⟩
    · obtain rfl : k = padK n := by omega
      have hm1 : m % 136 = 0 := hkk.2 rfl
      have hm2 : (m : Int) % 136 = 0 := by omega
      have hL : padX bs (padK n) = padL bs := by rw [padL, bl]
      rw [hL] at hb hpl
      have hB := padF_byt bB
      have hlast := padL_last bs
      rw [hpl] at hlast
      have hF : padF bs = (padL bs).set (m - 1) (nth (padL bs) (m - 1) + 128) := by rw [padF, hpl]
      have hlF := padF_length bs
      rw [hpl] at hlF
      obtain ⟨q, hq⟩ : ∃ q, m - 1 = q := ⟨_, rfl⟩
      have hq' : (m : Int) - 1 = (q : Int) := by omega
      have hqm : (q : Int) < (m : Int) := by omega
      rw [hq] at hlast hF
      have hor := or_u8 _ hlast
      have hcq := hb.cell q (by omega)
      have hfq := (hb.spare q (by have := hb.fit; omega)).2
      have hbS := hb.set (i := q) (by omega) (nth (padL bs) q + 128)
      rw [← hF] at hbS
      have hbeS := hbe.setCell (p := ⟨g, q, none⟩) hb.base (.int .u8 ((nth (padL bs) q + 128 : Nat) : Int))
      generalize nth (padL bs) q = x at *
      have hPE : PadE bs (padF bs) := ⟨rfl⟩
      generalize padF bs = p at *
      generalize padL bs = L at *
      have hfit := hb.fit
      have hgl := hb.lt
      have hgB := hb.base
      clear hb hbe hlast hF hL hkk
      have hW : SpRel p m cap g wr.heap.size w.heap.size w (.slice (some ⟨g, 0, none⟩) m cap) ((wr.setCell ⟨g, q, none⟩ (.int .u8 ((x + 128 : Nat) : Int))).alloc (.cells (lim .u64 (List.replicate 25 0)) 58)) := by
        have e : (wr.setCell ⟨g, q, none⟩ (.int .u8 ((x + 128 : Nat) : Int))).heap.size = wr.heap.size := World.size_setCell ..
        refine ⟨0, 0, m, cap, by omega, by omega, .inr rfl, rfl, ?_, hbS.alloc _, hbeS.alloc (by rw [e]; omega) _⟩
        have := Own.new (wr.setCell ⟨g, q, none⟩ (.int .u8 ((x + 128 : Nat) : Int))) 58 .u64 (List.replicate 25 0)
        rwa [e] at this
      have hgh : g ≠ wr.heap.size := by omega
      have hBh : w.heap.size ≤ wr.heap.size := by omega
      go_wp2_with fail
      clear hbS hbeS
      generalize wr.heap.size = h at *
      clear hgl hor hcq hfq
      have HM := Lib.hid (And.intro hm1 (And.intro hlF (show m ≤ cap by omega)))
      clear hlF hm1 hm2 hq hq' hqm hm hlt hk hpk bl hfit hpl bB
      go_loopw [4] (fun v wr => SpRel p m cap g h w.heap.size w v wr) (fun v _ => match v with | .slice _ m _ => m | _ => 0)
      case atStart => exact hW
      case round =>
        clear hW
        obtain ⟨k, o, r, c, hr, hc, ho, rfl, ow, hb, hbe⟩ := hrel
        have lS := spN_length p k
        have oS := spN_ok hB k
        by_cases hr0 : r = 0
        · subst hr0
          have hkm : k = p.length / 136 := by have := HM.out; omega
          have hS : spN p k = spN p (p.length / 136) := by rw [hkm]
          rw [hS] at ow lS oS
          have HD := DigE.mk (show sqzN (spN p (p.length / 136)) 32 = digN bs by rw [digN, hPE.eq])
          generalize spN p (p.length / 136) = S at *
          have kmk := run_mk8 32 (by decide) wr
          have kmk' : (Instr.makeSlice 22 (.int .i64 32) (.int .i64 32)).run Try.prog wr = .ok (.slice (some ⟨wr.heap.size, 0, none⟩) 32 32) (wr.alloc (.cells (lim .u8 (List.replicate 32 0)) 5)) := kmk
          clear kmk
          have hW : SqRel S h wr.heap.size w.heap.size w (.int .i64 0) (wr.alloc (.cells (lim .u8 (List.replicate 32 0)) 5)) := ⟨0, by omega, rfl, ow.alloc _, Own.new wr 5 .u8 (List.replicate 32 0), hbe.alloc hbe.size _⟩
          have hhb : h ≠ wr.heap.size := Nat.ne_of_lt ow.lt
          have hbB : w.heap.size ≤ wr.heap.size := hbe.size
          go_wp2_with fail
          clear kmk' ow hb hbe hc hr ho
          generalize wr.heap.size = b at *
          go_loopw [63] (SqRel S h b w.heap.size w) (fun i _ => 32 - (intOf i).toNat)
          case atStart => exact hW
          case round =>
            clear hW
            obtain ⟨j, hj, rfl, ow, ob, hbe⟩ := hrel
            by_cases hj32 : j < 32
            · have HA := Lib.hid (show sqzN S (j + 1) = (sqzN S j).set j (nth S (j / 8) / 2 ^ (8 * (j % 8)) % 256) from rfl)
              have lQ := sqzN_length S j
              generalize sqzN S j = A at *
              obtain ⟨x8, hx8⟩ : ∃ l, j / 8 = l := ⟨_, rfl⟩
              obtain ⟨y8, hy8⟩ : ∃ l, j % 8 = l := ⟨_, rfl⟩
              obtain ⟨z8, hz8⟩ : ∃ l, 8 * y8 = l := ⟨_, rfl⟩
              rw [hx8, hy8, hz8] at HA
              have e1 : (j : Int) / 8 = (x8 : Int) := by omega
              have e2 : (j : Int).tdiv 8 = (x8 : Int) := by rw [← hx8]; rfl
              have e3 : (j : Int) % 8 = (y8 : Int) := by omega
              have e4 : (j : Int).tmod 8 = (y8 : Int) := by rw [← hy8]; rfl
              have e5 : 8 * (y8 : Int) = (z8 : Int) := by omega
              have e6 : IntKind.i64.wrap (z8 : Int) = (z8 : Int) := by rw [IntKind.wrap_i64]; omega
              have e7 : IntKind.i64.wrap (x8 : Int) = (x8 : Int) := by rw [IntKind.wrap_i64]; omega
              have e8 : IntKind.i64.wrap (y8 : Int) = (y8 : Int) := by rw [IntKind.wrap_i64]; omega
              have hx25 : x8 < 25 := by omega
              have hx25' : (x8 : Int) < 25 := by omega
              have hz64 : (z8 : Int) ≤ 64 := by omega
              have hz0 : (0 : Int) ≤ (z8 : Int) := by omega
              have hji : (j : Int) < 32 := by omega
              have hca := ow.cell (i := x8) (by omega)
              have hcb := ob.cell (i := j) (by omega)
              have hfb := ob.frozen j
              clear hx8 hy8 hz8
              go_wp2_with fail
              have ev : ((nth S x8 : Int) / 2 ^ z8 % 256) = ((nth S x8 / 2 ^ z8 % 256 : Nat) : Int) := by simp
              rw [ev]
              exact ⟨⟨j + 1, by omega, rfl, ow.far hhb _, by rw [HA.out]; exact ob.set _ _, hbe.setCell (p := ⟨b, j, none⟩) hbB _⟩, by simp [intOf]; omega⟩
            · obtain rfl : j = 32 := by omega
              have hconv := conv_own ob (sqzN_length S 32)
              rw [HD.eq] at hconv
              go_wp2_with fail
              go_ret2
              exact ⟨by rw [HBS.eq]; rfl, hbe⟩
        · have hr136 : 136 ≤ r := by have := HM.out; omega
          have ho' : o = 136 * k := by omega
          have hr1 : (0 : Int) < (r : Int) := by omega
          have hc1 : (136 : Int) ≤ (c : Int) := by have := HM.out; omega
          have hc0 : ¬ c = 0 := by omega
          have hd : decide (0 < r) = true := decide_eq_true (by omega)
          have hr2 : (136 : Int) ≤ (r : Int) := by omega
          have hSE : spN p (k + 1) = permN (absP (spN p k) (p.drop o) 136) 24 := by rw [spN, ho']
          have HK := Lib.hid (And.intro hr (And.intro hc ho'))
          have HSE := SpE.mk hSE.symm
          clear hr hc ho ho' hSE
          generalize hZ : spN p (k + 1) = Z at *
          have HZ1 := SpZ.mk hZ
          clear hZ
          generalize spN p k = S at *
          have hA : AbRel p S cap g h w.heap.size o w (.int .i64 0) wr := ⟨0, by omega, rfl, ow, hb, hbe⟩
          go_wp2_with fail
          clear ow hb hbe
          go_loopw [38] (AbRel p S cap g h w.heap.size o w) (fun i _ => 136 - (intOf i).toNat)
          case atStart => exact hA
          case round =>
            clear hA
            obtain ⟨j, hj, rfl, ow, hb, hbe⟩ := hrel
            by_cases hj136 : j < 136
            · have hji : (j : Int) < 136 := by omega
              have hoj : o + j < p.length := by have := HM.out; have := HK.out; omega
              have hcb := hb.cell (o + j) hoj
              have hbt := hB.getD (o + j)
              have HA := Lib.hid (show absP S (p.drop o) (j + 1) = (absP S (p.drop o) j).set (j / 8) (nth (absP S (p.drop o) j) (j / 8) ^^^ nth p (o + j) * 2 ^ (8 * (j % 8))) by rw [absP, nth_drop2])
              have lA := absP_length S (p.drop o) j
              rw [lS] at lA
              have oA := absP_ok oS (hB.drop o) j
              have hsl := byte_shift_lt hbt j
              generalize absP S (p.drop o) j = A at *
              generalize nth p (o + j) = b at *
              obtain ⟨x8, hx8⟩ : ∃ l, j / 8 = l := ⟨_, rfl⟩
              obtain ⟨y8, hy8⟩ : ∃ l, j % 8 = l := ⟨_, rfl⟩
              obtain ⟨z8, hz8⟩ : ∃ l, 8 * y8 = l := ⟨_, rfl⟩
              rw [hx8, hy8, hz8] at HA
              rw [hy8, hz8] at hsl
              have e1 : (j : Int) / 8 = (x8 : Int) := by omega
              have e2 : (j : Int).tdiv 8 = (x8 : Int) := by rw [← hx8]; rfl
              have e3 : (j : Int) % 8 = (y8 : Int) := by omega
              have e4 : (j : Int).tmod 8 = (y8 : Int) := by rw [← hy8]; rfl
              have e5 : 8 * (y8 : Int) = (z8 : Int) := by omega
              have e6 : IntKind.i64.wrap (z8 : Int) = (z8 : Int) := by rw [IntKind.wrap_i64]; omega
              have e7 : IntKind.i64.wrap (x8 : Int) = (x8 : Int) := by rw [IntKind.wrap_i64]; omega
              have e8 : IntKind.i64.wrap (y8 : Int) = (y8 : Int) := by rw [IntKind.wrap_i64]; omega
              have hx25 : x8 < 25 := by omega
              have hx25' : (x8 : Int) < 25 := by omega
              have hz64 : (z8 : Int) ≤ 64 := by omega
              have hz0 : (0 : Int) ≤ (z8 : Int) := by omega
              have hca := ow.cell (i := x8) (by omega)
              have hfa := ow.frozen x8
              clear hx8 hy8 hz8
              go_wp2_with fail
              go_still_tail 12, (by kernel_rfl)
              change wpList _ _ _ _ _ wr.drew
              have owd := ow.drew
              have hbd : Buf wr.drew w.heap.size g cap p := hb.same rfl
              have hbed : Below w.heap.size w wr.drew := below_drewN hbe 1
              have hca' := owd.cell (i := x8) (by omega)
              have hfa' := owd.frozen x8
              clear ow hb hbe hca hfa hcb
              generalize wr.drew = w5 at *
              go_wp2_with fail
              have ew : IntKind.u64.wrap ((b : Int) * 2 ^ z8) = ((b * 2 ^ z8 : Nat) : Int) := by
                rw [show ((b : Int) * 2 ^ z8) = ((b * 2 ^ z8 : Nat) : Int) by simp, IntKind.wrap_u64]
                generalize b * 2 ^ z8 = bz at hsl ⊢
                omega
              rw [ew, u64_xor_nat _ _ (oA.getD _) hsl]
              exact ⟨⟨j + 1, by omega, rfl, by rw [HA.out]; exact owd.set _ _, hbd.far hgh _, hbed.setCell (p := ⟨h, x8, none⟩) hBh _⟩, by simp [intOf]; omega⟩
            · obtain rfl : j = 136 := by omega
              have lA := absP_length S (p.drop o) 136
              rw [lS] at lA
              have oA := absP_ok oS (hB.drop o) 136
              have HZ := HSE.eq
              generalize absP S (p.drop o) 136 = A at *
              have lZ : Z.length = 25 := by rw [← HZ, permN_length, lA]
              have HP := Lib.hid (fun W => permute_any A W lA oA)
              rw [HZ] at HP
              clear HZ HSE
              go_wp2_with (refine own_load ow rfl 58 (.tmp 5) rfl rfl 25 33 lA (by kernel_rfl) (by kernel_rfl) ?_)
              refine (HP.out _).mono ?_
              rintro e w6 ⟨rfl, b6⟩
              have ow6 := ow.bel b6
              have hb6 := hb.bel b6
              have hbe6 := hbe.trans (b6.mono hbe.size)
              clear ow hb hbe b6 HP
              go_wp2_with (refine wpList_store_row rfl 58 (.tmp 5) (.tmp 57) rfl h (lim .u64 Z) rfl rfl 58 _ ow6 (by rw [lim_size, lZ]; kernel_rfl) (by rw [lim_size, lim_size, lZ, lA]) (lim_one _ _) ?_)
              have ow7 : Own (w6.setRow h (lim .u64 Z)) h 58 .u64 Z := setRow_heap _ _ _ _ _ _ ow6
              have hb7 : Buf (w6.setRow h (lim .u64 Z)) w.heap.size g cap p := hb6.same (setRow_other _ _ _ _ hgh)
              have hbe7 := below_setRow hbe6 hBh (lim .u64 Z)
              generalize w6.setRow h (lim .u64 Z) = w7 at *
              clear ow6 hb6 hbe6
              have H := HK.out
              by_cases hc136 : c = 136
              · have hc136' : ¬ (136 : Int) < (c : Int) := by omega
                go_wp2_with fail
                have H2 := HM.out
                exact ⟨⟨k + 1, 136 * k, r - 136, 0, by omega, by omega, .inl (by omega), rfl, by rw [HZ1.eq]; exact ow7, hb7, hbe7⟩, by omega⟩
              · go_wp2_with fail
                exact ⟨⟨k + 1, 136 * k + 136, r - 136, c - 136, by omega, by omega, .inr (by omega), rfl, by rw [HZ1.eq]; exact ow7, hb7, hbe7⟩, by omega⟩
/-- sponge.Hash, at a text that is too long -/
theorem hash_no (s : ByteArray) (w : World) (hs : 65536 < s.size) :
    Calls Try.prog 21 #[.string s] w fun e w' => e = .returned (.tuple #[.string ⟨#[]⟩, .int .i64 2]) ∧ w' = w := by
  have hl : (65536 : Int) < (s.size : Int) := by omega
  go_enter Try.func21, Try.ntmps21
  go_wp2_with fail
  go_ret2
  exact ⟨rfl, rfl⟩
end Go.Proofs.Ytoocoobgidoceaa
