import Derived.Test.YtboaahjpjemfpaaSpAl
import Derived.Test.YtboaahjpjemfpaaSpShM
import Derived.Deep.AppendLies
namespace Go.Proofs.Ytboaahjpjemfpaa
open Go.RowKit
set_option linter.unusedVariables false

def OrRel (p : List Nat) (cap g h B : Nat) (w : World) (i : Value) (wr : World) : Prop :=
  ∃ j : Nat, j ≤ 136 ∧ i = .int .i64 (j : Int) ∧ Own wr h 23 .u64 (absP (List.replicate 25 0) p j) ∧ Buf wr B g cap p ∧ Below B w wr
def outL (Z : List Nat) (j : Nat) : List Value := (List.range j).map fun i => Value.int .u8 (sqz1 Z i : Nat)
def OutRel (Z : List Nat) (h B B2 : Nat) (w : World) (v i : Value) (wr : World) : Prop :=
  ∃ j : Nat, j ≤ 32 ∧ i = .int .i64 (j : Int) ∧ Own wr h 23 .u64 Z ∧ wr.ownsRow B2 5 1 v j (outL Z j) ∧ Below B w wr ∧ B2 ≤ wr.heap.size
theorem outL_succ (Z : List Nat) (j : Nat) : outL Z (j + 1) = outL Z j ++ [Value.int .u8 (sqz1 Z j : Nat)] := by simp [outL, List.range_succ]
structure ShE (bs p : List Nat) : Prop where
  eq : digN bs = sqzN (permN (absP (List.replicate 25 0) p 136) 24) 32
structure ShS (bs Z : List Nat) : Prop where
  eq : digN bs = (List.range 32).map (sqz1 Z)
theorem conv_row {w : World} {B g cap n : Nat} {l : List Nat} (h : w.ownsRow B 5 1 (.slice (some ⟨g, 0, none⟩) n cap) n (l.map fun x : Nat => Value.int .u8 (x : Int))) :
    (convert 32 9 (.slice (some ⟨g, 0, none⟩) n cap)).run Try.prog w = .ok (.string (strB l)) w := by
  have hl : l.length = n := by simpa using h.1
  have hadd : ∀ i, (⟨g, 0, none⟩ : Addr).add i = ⟨g, 0 + i, none⟩ := fun i => by unfold Addr.add; split <;> simp_all
  refine run_convert_bytes_arg (P := Try.prog) w 32 5 (by kernel_rfl) (by kernel_rfl) g 0 n cap (l.map fun x : Nat => (x : Int)) (by rw [List.length_map, hl]) (fun i hi => ?_) 9 (by kernel_rfl)
  have := h.cells rfl i (.int .u8 (nth l i : Nat)) (by rw [List.getElem?_map, List.getElem?_eq_getElem (by omega), nth_eq (by omega)]; rfl)
  rw [hadd] at this
  rw [this]
  congr 2
  unfold nth
  rw [List.getD_eq_getElem?_getD, List.getD_eq_getElem?_getD, List.getElem?_map, List.getElem?_eq_getElem (by omega)]
  rfl

set_option maxHeartbeats 2000000 in
theorem spongeShort_any (s : ByteArray) (w : World) (hs : s.size ≤ maxLen) :
    Calls Try.prog 7 #[.string s] w fun e w' => e = .returned (.bool true) ∧ Below w.heap.size w w' := by
  have hal : Try.prog.arrayLen 23 = 25 := by kernel_rfl
  by_cases h135 : s.size ≤ 135
  · have hl : (s.size : Int) ≤ 135 := by omega
    obtain ⟨cap0, W0, kc, hb0, hbe0⟩ := conv_bytes s w
    have HH := Lib.hid (fun W => hash_any s W (by omega))
    have hl2 : s.size ≤ 135 := by omega
    go_enter Try.func7, Try.ntmps7
    have hb1 := hb0.alloc (.cells #[.int .u8 1] 5)
    have hw1 : (W0.alloc (.cells #[.int .u8 1] 5)).cell? ⟨W0.heap.size, 0, none⟩ = some (.int .u8 ((1 : Nat) : Int)) := World.cell?_alloc_mark W0 #[.int .u8 1] 5 (0, 0) 0
    have hbe1 : Below w.heap.size w (W0.alloc (.cells #[.int .u8 1] 5)) := hbe0.alloc hbe0.size _
    go_wp2_with (refine wpList_buf_append (w := W0.alloc (.cells #[.int .u8 1] 5)) hb1 rfl (.tmp 17) (.tmp 18) 32 rfl 5 (by kernel_rfl) info_u8 s.size (bytesN_length s) rfl _ _ 1 rfl hw1 hbe1.size (by omega) ?_; intro g cap w1 hb1 hbe1 _ _ _)
    have bl := bytesN_length s
    have bB := bytesN_byt s
    have hES := ShE.mk (dig_short (bs := bytesN s) (by rw [bl]; exact hl2))
    generalize bytesN s = bs at *
    generalize hn : s.size = n at *
    clear hn
    have hPR : PadRel bs n w.heap.size w (.slice (some ⟨g, 0, none⟩) (n + 1) cap) w1 := ⟨0, n + 1, g, cap, Nat.zero_le _, rfl, rfl, by rw [show padX bs 0 = bs ++ [1] by simp [padX]]; exact hb1, hbe0.trans ((Below.refl _ _).alloc hbe0.size _ |>.trans hbe1)⟩
    clear hb0 hw1 hbe0 hbe1 hb1 kc
    go_loopw [3] (fun v wr => PadRel bs n w.heap.size w v wr) (fun v _ => match v with | .slice _ m _ => 70000 - m | _ => 0)
    case atStart => exact hPR
    case round =>
      clear hPR
      obtain ⟨k, m, g, cap, hk, hm, rfl, hb, hbe⟩ := hrel
      have hpl := padX_length bs k
      rw [bl, hm] at hpl
      have hkk := padK_small hl2
      by_cases hlt : k < padK n
      · have hm2 : (m : Int) < 136 := by omega
        have hb1 := hb.alloc (.cells #[.int .u8 0] 5)
        have hw1 : (wr.alloc (.cells #[.int .u8 0] 5)).cell? ⟨wr.heap.size, 0, none⟩ = some (.int .u8 ((0 : Nat) : Int)) := World.cell?_alloc_mark wr #[.int .u8 0] 5 (0, 0) 0
        have hbe1 : Below w.heap.size w (wr.alloc (.cells #[.int .u8 0] 5)) := hbe.alloc hbe.size _
        go_wp2_with (refine wpList_buf_append (w := wr.alloc (.cells #[.int .u8 0] 5)) hb1 rfl (.tmp 23) (.tmp 24) 32 rfl 5 (by kernel_rfl) info_u8 m hpl rfl _ _ 0 rfl hw1 hbe1.size (by omega) ?_; intro g' cap' w2 hb2 hbe2 _ _ _)
        exact ⟨⟨k + 1, m + 1, g', cap', by omega, by omega, rfl, by rw [padX_succ]; exact hb2, hbe1.trans hbe2⟩, by show 70000 - (m + 1) < 70000 - m; omega⟩
      · obtain rfl : k = padK n := by omega
        obtain rfl : m = 136 := by omega
        have hL : padX bs (padK n) = padL bs := by rw [padL, bl]
        rw [hL] at hb hpl
        have hB := padF_byt bB
        have hlast := padL_last bs
        rw [hpl] at hlast
        have hF : padF bs = (padL bs).set 135 (nth (padL bs) 135 + 128) := by rw [padF, hpl]
        have hlF := padF_length bs
        rw [hpl] at hlF
        have hcq := hb.cell 135 (by omega)
        have hfit := hb.fit
        have hfq := (hb.spare 135 (by omega)).2
        have hbS := hb.set (i := 135) (by omega) (nth (padL bs) 135 + 128)
        rw [← hF] at hbS
        have hbeS := hbe.setCell (p := ⟨g, 135, none⟩) hb.base (.int .u8 ((nth (padL bs) 135 + 128 : Nat) : Int))
        have hx2 : nth (padL bs) 135 ≤ 1 := by have : 136 - 1 = 135 := rfl; rw [this] at hlast; omega
        generalize nth (padL bs) 135 = x at *
        have hxw : IntKind.u8.wrap ((x : Int) + 128) = (x : Int) + 128 := by rw [IntKind.wrap_u8]; omega
        generalize padF bs = p at *
        generalize padL bs = L at *
        have hgl := hb.lt
        have hgB := hb.base
        clear hb hbe hlast hF hL hkk
        have hW : OrRel p cap g wr.heap.size w.heap.size w (.int .i64 0) ((wr.setCell ⟨g, 135, none⟩ (.int .u8 ((x + 128 : Nat) : Int))).alloc (.cells (lim .u64 (List.replicate 25 0)) 23)) := by
          have e : (wr.setCell ⟨g, 135, none⟩ (.int .u8 ((x + 128 : Nat) : Int))).heap.size = wr.heap.size := World.size_setCell ..
          refine ⟨0, by omega, rfl, ?_, hbS.alloc _, hbeS.alloc (by rw [e]; omega) _⟩
          have := Own.new (wr.setCell ⟨g, 135, none⟩ (.int .u8 ((x + 128 : Nat) : Int))) 23 .u64 (List.replicate 25 0)
          rwa [e] at this
        have hgh : g ≠ wr.heap.size := by omega
        have hBh : w.heap.size ≤ wr.heap.size := by omega
        go_wp2_with fail
        clear hbS hbeS
        generalize wr.heap.size = h at *
        clear hgl hcq hfq hxw hlt hk hpl bl bB hm
        have lS : (List.replicate 25 0).length = 25 := by simp
        have oS := Ok.replicate 25
        go_loopw [33] (OrRel p cap g h w.heap.size w) (fun i _ => 136 - (intOf i).toNat)
        case atStart => exact hW
        case round =>
          clear hW
          obtain ⟨j, hj, rfl, ow, hb, hbe⟩ := hrel
          by_cases hj136 : j < 136
          · have hji : (j : Int) < 136 := by omega
            have hcb := hb.cell j (by omega)
            have hbt := hB.getD j
            have hor := (abs_lane hB j (by omega)).1
            have HA := Lib.hid (show absP (List.replicate 25 0) p (j + 1) = (absP (List.replicate 25 0) p j).set (j / 8) (nth (absP (List.replicate 25 0) p j) (j / 8) ^^^ nth p j * 2 ^ (8 * (j % 8))) from rfl)
            have lA := absP_length (List.replicate 25 0) p j
            rw [lS] at lA
            have oA := absP_ok oS hB j
            have hsl := byte_shift_lt hbt j
            generalize absP (List.replicate 25 0) p j = A at *
            generalize nth p j = b at *
            obtain ⟨x8, hx8⟩ : ∃ l, j / 8 = l := ⟨_, rfl⟩
            obtain ⟨y8, hy8⟩ : ∃ l, j % 8 = l := ⟨_, rfl⟩
            obtain ⟨z8, hz8⟩ : ∃ l, 8 * y8 = l := ⟨_, rfl⟩
            rw [hx8, hy8, hz8] at HA hor
            rw [hy8, hz8] at hsl
            have HO := Lib.hid hor
            clear hor
            have e1 : (j : Int) / 8 = (x8 : Int) := by omega
            have e2 : (j : Int).tdiv 8 = (x8 : Int) := by rw [← hx8]; rfl
            have e3 : (j : Int) % 8 = (y8 : Int) := by omega
            have e4 : (j : Int).tmod 8 = (y8 : Int) := by rw [← hy8]; rfl
            have e5 : 8 * (y8 : Int) = (z8 : Int) := by omega
            have e6 : IntKind.i64.wrap (z8 : Int) = (z8 : Int) := by rw [IntKind.wrap_i64]; omega
            have e7 : IntKind.i64.wrap (x8 : Int) = (x8 : Int) := by rw [IntKind.wrap_i64]; omega
            have e8 : IntKind.i64.wrap (y8 : Int) = (y8 : Int) := by rw [IntKind.wrap_i64]; omega
            have hx25 : x8 < 25 := by omega
            have hx25' : (x8 : Int) < 25 := by omega
            have hz64 : (z8 : Int) ≤ 64 := by omega
            have hz0 : (0 : Int) ≤ (z8 : Int) := by omega
            have hca := ow.cell (i := x8) (by omega)
            have hfa := ow.frozen x8
            clear hx8 hy8 hz8
            go_wp2_with fail
            go_still_tail 12, (by kernel_rfl)
            change wpList _ _ _ _ _ wr.drew
            have owd := ow.drew
            have hbd : Buf wr.drew w.heap.size g cap p := hb.same rfl
            have hbed : Below w.heap.size w wr.drew := below_drewN hbe 1
            have hca' := owd.cell (i := x8) (by omega)
            have hfa' := owd.frozen x8
            clear ow hb hbe hca hfa hcb
            generalize wr.drew = w5 at *
            go_wp2_with fail
            have ew : IntKind.u64.wrap ((b : Int) * 2 ^ z8) = ((b * 2 ^ z8 : Nat) : Int) := by
              rw [show ((b : Int) * 2 ^ z8) = ((b * 2 ^ z8 : Nat) : Int) by simp, IntKind.wrap_u64]
              generalize b * 2 ^ z8 = bz at hsl ⊢
              omega
            rw [ew, u64_or_nat _ _ (oA.getD _) hsl, or_eq_xor HO.out]
            exact ⟨⟨j + 1, by omega, rfl, by rw [HA.out]; exact owd.set _ _, hbd.far hgh _, hbed.setCell (p := ⟨h, x8, none⟩) hBh _⟩, by simp [intOf]; omega⟩
          · obtain rfl : j = 136 := by omega
            have lA := absP_length (List.replicate 25 0) p 136
            rw [lS] at lA
            have oA := absP_ok oS hB 136
            have hE := hES.eq
            generalize absP (List.replicate 25 0) p 136 = A at *
            have lZ : (permN A 24).length = 25 := by rw [permN_length, lA]
            have HP := Lib.hid (fun W => permute_any A W lA oA)
            rw [sqz_map] at hE
            clear hES
            generalize permN A 24 = Z at *
            have HES := ShS.mk hE
            clear hE
            go_wp2_with (refine own_load ow rfl 23 (.tmp 4) rfl rfl 25 22 lA (by kernel_rfl) (by kernel_rfl) ?_)
            refine (HP.out _).mono ?_
            rintro e w6 ⟨rfl, b6⟩
            have ow6 := ow.bel b6
            have hbe6 := hbe.trans (b6.mono hbe.size)
            clear ow hb hbe b6 HP
            have ow7 : Own (w6.setRow h (lim .u64 Z)) h 23 .u64 Z := setRow_heap _ _ _ _ _ _ ow6
            have hbe7 := below_setRow hbe6 hBh (lim .u64 Z)
            have hO : OutRel Z h w.heap.size (w6.setRow h (lim .u64 Z)).heap.size w (.slice none 0 0) (.int .i64 0) (w6.setRow h (lim .u64 Z)) := ⟨0, by omega, rfl, ow7, World.ownsRow_nil _ _ _ _, hbe7, Nat.le_refl _⟩
            have hhB : h < (w6.setRow h (lim .u64 Z)).heap.size := ow7.lt
            have hB2 := hbe7.size
            go_wp2_with (refine wpList_store_row rfl 23 (.tmp 4) (.tmp 52) rfl h (lim .u64 Z) rfl rfl 23 _ ow6 (by rw [lim_size, lZ]; kernel_rfl) (by rw [lim_size, lim_size, lZ, lA]) (lim_one _ _) ?_)
            clear ow6 hbe6 ow7 hbe7
            generalize w6.setRow h (lim .u64 Z) = w7 at *
            generalize w7.heap.size = B2 at *
            obtain ⟨ti, hti, hti345⟩ := Option.map_eq_some_iff.1 info_u8
            have hti3 : ti.zero = some (.int .u8 0) := by injection hti345
            have hti4 : ti.size = 1 := by injection hti345 with _ k; injection k
            have hti5 : ti.bytes = 1 := by injection hti345 with _ k; injection k
            have HT := Lib.hid (And.intro hti (And.intro hti3 (And.intro hti4 hti5)))
            clear hti345 hti hti3 hti4 hti5
            go_loopw [7, 53] (OutRel Z h w.heap.size B2 w) (fun _ i _ => 32 - (intOf i).toNat)
            case atStart => exact hO
            case round =>
              clear hO
              obtain ⟨j, hj, rfl, ow, hrow, hbe, hb2s⟩ := hrel
              by_cases hj32 : j < 32
              · have HQ := Lib.hid (outL_succ Z j)
                obtain ⟨x8, hx8⟩ : ∃ l, j / 8 = l := ⟨_, rfl⟩
                obtain ⟨y8, hy8⟩ : ∃ l, j % 8 = l := ⟨_, rfl⟩
                obtain ⟨z8, hz8⟩ : ∃ l, 8 * y8 = l := ⟨_, rfl⟩
                have hq1 : sqz1 Z j = nth Z x8 / 2 ^ z8 % 256 := by rw [sqz1, hx8, hy8, hz8]
                have ev : ((nth Z x8 : Int) / 2 ^ z8 % 256) = ((nth Z x8 / 2 ^ z8 % 256 : Nat) : Int) := by simp
                rw [hq1] at HQ
                have e1 : (j : Int) / 8 = (x8 : Int) := by omega
                have e2 : (j : Int).tdiv 8 = (x8 : Int) := by rw [← hx8]; rfl
                have e3 : (j : Int) % 8 = (y8 : Int) := by omega
                have e4 : (j : Int).tmod 8 = (y8 : Int) := by rw [← hy8]; rfl
                have e5 : 8 * (y8 : Int) = (z8 : Int) := by omega
                have e6 : IntKind.i64.wrap (z8 : Int) = (z8 : Int) := by rw [IntKind.wrap_i64]; omega
                have e7 : IntKind.i64.wrap (x8 : Int) = (x8 : Int) := by rw [IntKind.wrap_i64]; omega
                have e8 : IntKind.i64.wrap (y8 : Int) = (y8 : Int) := by rw [IntKind.wrap_i64]; omega
                have hx25 : x8 < 25 := by omega
                have hx25' : (x8 : Int) < 25 := by omega
                have hz64 : (z8 : Int) ≤ 64 := by omega
                have hz0 : (0 : Int) ≤ (z8 : Int) := by omega
                have hji : (j : Int) < 32 := by omega
                have hca := ow.cell (i := x8) (by omega)
                clear hx8 hy8 hz8 hq1
                generalize nth Z x8 / 2 ^ z8 % 256 = y at *
                have hrow1 := hrow.alloc (.cells #[.int .u8 (y : Int)] 5)
                have ow1 := ow.alloc (.cells #[.int .u8 (y : Int)] 5)
                have hbe1 := hbe.alloc hbe.size (.cells #[.int .u8 (y : Int)] 5)
                have hlt := hrow.lt
                go_wp2_with (refine wpList_append_lies (wr.alloc (.cells #[.int .u8 (y : Int)] 5)) rfl (.tmp 56) (.tmp 66) 32 rfl B2 5 ti (.int .u8 0) 1 1 (by kernel_rfl) HT.out.1 HT.out.2.1 HT.out.2.2.1 HT.out.2.2.2 rfl (by decide) _ j (outL Z j) rfl hrow1 ⟨wr.heap.size, 0, none⟩ 1 1 [.int .u8 (y : Int)] rfl rfl (World.news_of_block (heap_alloc_new wr _)) (by simp [Value.oneCell']) (by decide) (by simp only [maxLen]; omega) (by omega) (by simp; omega) _ rfl ?_; intro g' cap' w8 hrow8 hgrow8 hat8 hlt8)
                have ow8 : Own w8 h 23 .u64 Z := (hgrow8.block h ow1.lt (by intro e; have := hlt _ e.symm; omega)).trans ow1
                have hbe8 : Below w.heap.size w w8 := hbe1.trans ⟨hgrow8.os, hgrow8.tape, hgrow8.output, hgrow8.size, fun k hk => hgrow8.block k (Nat.lt_of_lt_of_le hk hbe1.size) (by intro e; have := hlt _ e.symm; omega)⟩
                exact ⟨⟨j + 1, by omega, rfl, ow8, by rw [HQ.out]; exact hrow8, hbe8, by have := hgrow8.size; simp at this; omega⟩, by simp [intOf]; omega⟩
              · obtain rfl : j = 32 := by omega
                obtain ⟨g', cap', rfl, _, hg8⟩ := hrow.form (by decide)
                go_wp2_with fail
                refine (HH.out _).mono ?_
                rintro e w8 ⟨rfl, b8⟩
                go_wp2_with fail
                refine (alive_any _).mono ?_
                rintro e w9 ⟨rfl, b9⟩
                have b89 := b8.trans (b9.mono b8.size)
                have hrow9 : w9.ownsRow B2 5 1 (.slice (some ⟨g', 0, none⟩) 32 cap') 32 (outL Z 32) := hrow.kept (row := none) ⟨b89.os, b89.tape, b89.output, b89.size, fun k hk _ => b89.block k hk⟩ (.inr (by simp [Value.ownBlock]))
                have hconv := conv_row (l := (List.range 32).map (sqz1 Z)) (by rw [List.map_map]; exact hrow9)
                rw [← HES.eq] at hconv
                go_wp2_with fail
                go_ret
                exact ⟨by simp, hbe.trans (b89.mono hbe.size)⟩
  · have hl : (135 : Int) < (s.size : Int) := by omega
    have hl1 : (135 : Int) ≤ (s.size : Int) := by omega
    obtain ⟨t, ht⟩ : ∃ t, s.extract 0 135 = t := ⟨_, rfl⟩
    have hts : t.size ≤ 135 := by rw [← ht, extract_size s 135 (by omega)]; exact Nat.le_refl _
    obtain ⟨cap0, W0, kc, hb0, hbe0⟩ := conv_bytes t w
    have HH := Lib.hid (fun W => hash_any t W (by omega))
    have hl2 : t.size ≤ 135 := by omega
    go_enter Try.func7, Try.ntmps7
    have hb1 := hb0.alloc (.cells #[.int .u8 1] 5)
    have hw1 : (W0.alloc (.cells #[.int .u8 1] 5)).cell? ⟨W0.heap.size, 0, none⟩ = some (.int .u8 ((1 : Nat) : Int)) := World.cell?_alloc_mark W0 #[.int .u8 1] 5 (0, 0) 0
    have hbe1 : Below w.heap.size w (W0.alloc (.cells #[.int .u8 1] 5)) := hbe0.alloc hbe0.size _
    go_wp2_with (refine wpList_buf_append (w := W0.alloc (.cells #[.int .u8 1] 5)) hb1 rfl (.tmp 17) (.tmp 18) 32 rfl 5 (by kernel_rfl) info_u8 t.size (bytesN_length t) rfl _ _ 1 rfl hw1 hbe1.size (by omega) ?_; intro g cap w1 hb1 hbe1 _ _ _)
    have bl := bytesN_length t
    have bB := bytesN_byt t
    have hES := ShE.mk (dig_short (bs := bytesN t) (by rw [bl]; exact hl2))
    generalize bytesN t = bs at *
    generalize hn : t.size = n at *
    clear hn
    have hPR : PadRel bs n w.heap.size w (.slice (some ⟨g, 0, none⟩) (n + 1) cap) w1 := ⟨0, n + 1, g, cap, Nat.zero_le _, rfl, rfl, by rw [show padX bs 0 = bs ++ [1] by simp [padX]]; exact hb1, hbe0.trans ((Below.refl _ _).alloc hbe0.size _ |>.trans hbe1)⟩
    clear hb0 hw1 hbe0 hbe1 hb1 kc
    go_loopw [3] (fun v wr => PadRel bs n w.heap.size w v wr) (fun v _ => match v with | .slice _ m _ => 70000 - m | _ => 0)
    case atStart => exact hPR
    case round =>
      clear hPR
      obtain ⟨k, m, g, cap, hk, hm, rfl, hb, hbe⟩ := hrel
      have hpl := padX_length bs k
      rw [bl, hm] at hpl
      have hkk := padK_small hl2
      by_cases hlt : k < padK n
      · have hm2 : (m : Int) < 136 := by omega
        have hb1 := hb.alloc (.cells #[.int .u8 0] 5)
        have hw1 : (wr.alloc (.cells #[.int .u8 0] 5)).cell? ⟨wr.heap.size, 0, none⟩ = some (.int .u8 ((0 : Nat) : Int)) := World.cell?_alloc_mark wr #[.int .u8 0] 5 (0, 0) 0
        have hbe1 : Below w.heap.size w (wr.alloc (.cells #[.int .u8 0] 5)) := hbe.alloc hbe.size _
        go_wp2_with (refine wpList_buf_append (w := wr.alloc (.cells #[.int .u8 0] 5)) hb1 rfl (.tmp 23) (.tmp 24) 32 rfl 5 (by kernel_rfl) info_u8 m hpl rfl _ _ 0 rfl hw1 hbe1.size (by omega) ?_; intro g' cap' w2 hb2 hbe2 _ _ _)
        exact ⟨⟨k + 1, m + 1, g', cap', by omega, by omega, rfl, by rw [padX_succ]; exact hb2, hbe1.trans hbe2⟩, by show 70000 - (m + 1) < 70000 - m; omega⟩
      · obtain rfl : k = padK n := by omega
        obtain rfl : m = 136 := by omega
        have hL : padX bs (padK n) = padL bs := by rw [padL, bl]
        rw [hL] at hb hpl
        have hB := padF_byt bB
        have hlast := padL_last bs
        rw [hpl] at hlast
        have hF : padF bs = (padL bs).set 135 (nth (padL bs) 135 + 128) := by rw [padF, hpl]
        have hlF := padF_length bs
        rw [hpl] at hlF
        have hcq := hb.cell 135 (by omega)
        have hfit := hb.fit
        have hfq := (hb.spare 135 (by omega)).2
        have hbS := hb.set (i := 135) (by omega) (nth (padL bs) 135 + 128)
        rw [← hF] at hbS
        have hbeS := hbe.setCell (p := ⟨g, 135, none⟩) hb.base (.int .u8 ((nth (padL bs) 135 + 128 : Nat) : Int))
        have hx2 : nth (padL bs) 135 ≤ 1 := by have : 136 - 1 = 135 := rfl; rw [this] at hlast; omega
        generalize nth (padL bs) 135 = x at *
        have hxw : IntKind.u8.wrap ((x : Int) + 128) = (x : Int) + 128 := by rw [IntKind.wrap_u8]; omega
        generalize padF bs = p at *
        generalize padL bs = L at *
        have hgl := hb.lt
        have hgB := hb.base
        clear hb hbe hlast hF hL hkk
        have hW : OrRel p cap g wr.heap.size w.heap.size w (.int .i64 0) ((wr.setCell ⟨g, 135, none⟩ (.int .u8 ((x + 128 : Nat) : Int))).alloc (.cells (lim .u64 (List.replicate 25 0)) 23)) := by
          have e : (wr.setCell ⟨g, 135, none⟩ (.int .u8 ((x + 128 : Nat) : Int))).heap.size = wr.heap.size := World.size_setCell ..
          refine ⟨0, by omega, rfl, ?_, hbS.alloc _, hbeS.alloc (by rw [e]; omega) _⟩
          have := Own.new (wr.setCell ⟨g, 135, none⟩ (.int .u8 ((x + 128 : Nat) : Int))) 23 .u64 (List.replicate 25 0)
          rwa [e] at this
        have hgh : g ≠ wr.heap.size := by omega
        have hBh : w.heap.size ≤ wr.heap.size := by omega
        go_wp2_with fail
        clear hbS hbeS
        generalize wr.heap.size = h at *
        clear hgl hcq hfq hxw hlt hk hpl bl bB hm
        have lS : (List.replicate 25 0).length = 25 := by simp
        have oS := Ok.replicate 25
        go_loopw [33] (OrRel p cap g h w.heap.size w) (fun i _ => 136 - (intOf i).toNat)
        case atStart => exact hW
        case round =>
          clear hW
          obtain ⟨j, hj, rfl, ow, hb, hbe⟩ := hrel
          by_cases hj136 : j < 136
          · have hji : (j : Int) < 136 := by omega
            have hcb := hb.cell j (by omega)
            have hbt := hB.getD j
            have hor := (abs_lane hB j (by omega)).1
            have HA := Lib.hid (show absP (List.replicate 25 0) p (j + 1) = (absP (List.replicate 25 0) p j).set (j / 8) (nth (absP (List.replicate 25 0) p j) (j / 8) ^^^ nth p j * 2 ^ (8 * (j % 8))) from rfl)
            have lA := absP_length (List.replicate 25 0) p j
            rw [lS] at lA
            have oA := absP_ok oS hB j
            have hsl := byte_shift_lt hbt j
            generalize absP (List.replicate 25 0) p j = A at *
            generalize nth p j = b at *
            obtain ⟨x8, hx8⟩ : ∃ l, j / 8 = l := ⟨_, rfl⟩
            obtain ⟨y8, hy8⟩ : ∃ l, j % 8 = l := ⟨_, rfl⟩
            obtain ⟨z8, hz8⟩ : ∃ l, 8 * y8 = l := ⟨_, rfl⟩
            rw [hx8, hy8, hz8] at HA hor
            rw [hy8, hz8] at hsl
            have HO := Lib.hid hor
            clear hor
            have e1 : (j : Int) / 8 = (x8 : Int) := by omega
            have e2 : (j : Int).tdiv 8 = (x8 : Int) := by rw [← hx8]; rfl
            have e3 : (j : Int) % 8 = (y8 : Int) := by omega
            have e4 : (j : Int).tmod 8 = (y8 : Int) := by rw [← hy8]; rfl
            have e5 : 8 * (y8 : Int) = (z8 : Int) := by omega
            have e6 : IntKind.i64.wrap (z8 : Int) = (z8 : Int) := by rw [IntKind.wrap_i64]; omega
            have e7 : IntKind.i64.wrap (x8 : Int) = (x8 : Int) := by rw [IntKind.wrap_i64]; omega
            have e8 : IntKind.i64.wrap (y8 : Int) = (y8 : Int) := by rw [IntKind.wrap_i64]; omega
            have hx25 : x8 < 25 := by omega
            have hx25' : (x8 : Int) < 25 := by omega
            have hz64 : (z8 : Int) ≤ 64 := by omega
            have hz0 : (0 : Int) ≤ (z8 : Int) := by omega
            have hca := ow.cell (i := x8) (by omega)
            have hfa := ow.frozen x8
            clear hx8 hy8 hz8
            go_wp2_with fail
            go_still_tail 12, (by kernel_rfl)
            change wpList _ _ _ _ _ wr.drew
            have owd := ow.drew
            have hbd : Buf wr.drew w.heap.size g cap p := hb.same rfl
            have hbed : Below w.heap.size w wr.drew := below_drewN hbe 1
            have hca' := owd.cell (i := x8) (by omega)
            have hfa' := owd.frozen x8
            clear ow hb hbe hca hfa hcb
            generalize wr.drew = w5 at *
            go_wp2_with fail
            have ew : IntKind.u64.wrap ((b : Int) * 2 ^ z8) = ((b * 2 ^ z8 : Nat) : Int) := by
              rw [show ((b : Int) * 2 ^ z8) = ((b * 2 ^ z8 : Nat) : Int) by simp, IntKind.wrap_u64]
              generalize b * 2 ^ z8 = bz at hsl ⊢
              omega
            rw [ew, u64_or_nat _ _ (oA.getD _) hsl, or_eq_xor HO.out]
            exact ⟨⟨j + 1, by omega, rfl, by rw [HA.out]; exact owd.set _ _, hbd.far hgh _, hbed.setCell (p := ⟨h, x8, none⟩) hBh _⟩, by simp [intOf]; omega⟩
          · obtain rfl : j = 136 := by omega
            have lA := absP_length (List.replicate 25 0) p 136
            rw [lS] at lA
            have oA := absP_ok oS hB 136
            have hE := hES.eq
            generalize absP (List.replicate 25 0) p 136 = A at *
            have lZ : (permN A 24).length = 25 := by rw [permN_length, lA]
            have HP := Lib.hid (fun W => permute_any A W lA oA)
            rw [sqz_map] at hE
            clear hES
            generalize permN A 24 = Z at *
            have HES := ShS.mk hE
            clear hE
            go_wp2_with (refine own_load ow rfl 23 (.tmp 4) rfl rfl 25 22 lA (by kernel_rfl) (by kernel_rfl) ?_)
            refine (HP.out _).mono ?_
            rintro e w6 ⟨rfl, b6⟩
            have ow6 := ow.bel b6
            have hbe6 := hbe.trans (b6.mono hbe.size)
            clear ow hb hbe b6 HP
            have ow7 : Own (w6.setRow h (lim .u64 Z)) h 23 .u64 Z := setRow_heap _ _ _ _ _ _ ow6
            have hbe7 := below_setRow hbe6 hBh (lim .u64 Z)
            have hO : OutRel Z h w.heap.size (w6.setRow h (lim .u64 Z)).heap.size w (.slice none 0 0) (.int .i64 0) (w6.setRow h (lim .u64 Z)) := ⟨0, by omega, rfl, ow7, World.ownsRow_nil _ _ _ _, hbe7, Nat.le_refl _⟩
            have hhB : h < (w6.setRow h (lim .u64 Z)).heap.size := ow7.lt
            have hB2 := hbe7.size
            go_wp2_with (refine wpList_store_row rfl 23 (.tmp 4) (.tmp 52) rfl h (lim .u64 Z) rfl rfl 23 _ ow6 (by rw [lim_size, lZ]; kernel_rfl) (by rw [lim_size, lim_size, lZ, lA]) (lim_one _ _) ?_)
            clear ow6 hbe6 ow7 hbe7
            generalize w6.setRow h (lim .u64 Z) = w7 at *
            generalize w7.heap.size = B2 at *
            obtain ⟨ti, hti, hti345⟩ := Option.map_eq_some_iff.1 info_u8
            have hti3 : ti.zero = some (.int .u8 0) := by injection hti345
            have hti4 : ti.size = 1 := by injection hti345 with _ k; injection k
            have hti5 : ti.bytes = 1 := by injection hti345 with _ k; injection k
            have HT := Lib.hid (And.intro hti (And.intro hti3 (And.intro hti4 hti5)))
            clear hti345 hti hti3 hti4 hti5
            go_loopw [7, 53] (OutRel Z h w.heap.size B2 w) (fun _ i _ => 32 - (intOf i).toNat)
            case atStart => exact hO
            case round =>
              clear hO
              obtain ⟨j, hj, rfl, ow, hrow, hbe, hb2s⟩ := hrel
              by_cases hj32 : j < 32
              · have HQ := Lib.hid (outL_succ Z j)
                obtain ⟨x8, hx8⟩ : ∃ l, j / 8 = l := ⟨_, rfl⟩
                obtain ⟨y8, hy8⟩ : ∃ l, j % 8 = l := ⟨_, rfl⟩
                obtain ⟨z8, hz8⟩ : ∃ l, 8 * y8 = l := ⟨_, rfl⟩
                have hq1 : sqz1 Z j = nth Z x8 / 2 ^ z8 % 256 := by rw [sqz1, hx8, hy8, hz8]
                have ev : ((nth Z x8 : Int) / 2 ^ z8 % 256) = ((nth Z x8 / 2 ^ z8 % 256 : Nat) : Int) := by simp
                rw [hq1] at HQ
                have e1 : (j : Int) / 8 = (x8 : Int) := by omega
                have e2 : (j : Int).tdiv 8 = (x8 : Int) := by rw [← hx8]; rfl
                have e3 : (j : Int) % 8 = (y8 : Int) := by omega
                have e4 : (j : Int).tmod 8 = (y8 : Int) := by rw [← hy8]; rfl
                have e5 : 8 * (y8 : Int) = (z8 : Int) := by omega
                have e6 : IntKind.i64.wrap (z8 : Int) = (z8 : Int) := by rw [IntKind.wrap_i64]; omega
                have e7 : IntKind.i64.wrap (x8 : Int) = (x8 : Int) := by rw [IntKind.wrap_i64]; omega
                have e8 : IntKind.i64.wrap (y8 : Int) = (y8 : Int) := by rw [IntKind.wrap_i64]; omega
                have hx25 : x8 < 25 := by omega
                have hx25' : (x8 : Int) < 25 := by omega
                have hz64 : (z8 : Int) ≤ 64 := by omega
                have hz0 : (0 : Int) ≤ (z8 : Int) := by omega
                have hji : (j : Int) < 32 := by omega
                have hca := ow.cell (i := x8) (by omega)
                clear hx8 hy8 hz8 hq1
                generalize nth Z x8 / 2 ^ z8 % 256 = y at *
                have hrow1 := hrow.alloc (.cells #[.int .u8 (y : Int)] 5)
                have ow1 := ow.alloc (.cells #[.int .u8 (y : Int)] 5)
                have hbe1 := hbe.alloc hbe.size (.cells #[.int .u8 (y : Int)] 5)
                have hlt := hrow.lt
                go_wp2_with (refine wpList_append_lies (wr.alloc (.cells #[.int .u8 (y : Int)] 5)) rfl (.tmp 56) (.tmp 66) 32 rfl B2 5 ti (.int .u8 0) 1 1 (by kernel_rfl) HT.out.1 HT.out.2.1 HT.out.2.2.1 HT.out.2.2.2 rfl (by decide) _ j (outL Z j) rfl hrow1 ⟨wr.heap.size, 0, none⟩ 1 1 [.int .u8 (y : Int)] rfl rfl (World.news_of_block (heap_alloc_new wr _)) (by simp [Value.oneCell']) (by decide) (by simp only [maxLen]; omega) (by omega) (by simp; omega) _ rfl ?_; intro g' cap' w8 hrow8 hgrow8 hat8 hlt8)
                have ow8 : Own w8 h 23 .u64 Z := (hgrow8.block h ow1.lt (by intro e; have := hlt _ e.symm; omega)).trans ow1
                have hbe8 : Below w.heap.size w w8 := hbe1.trans ⟨hgrow8.os, hgrow8.tape, hgrow8.output, hgrow8.size, fun k hk => hgrow8.block k (Nat.lt_of_lt_of_le hk hbe1.size) (by intro e; have := hlt _ e.symm; omega)⟩
                exact ⟨⟨j + 1, by omega, rfl, ow8, by rw [HQ.out]; exact hrow8, hbe8, by have := hgrow8.size; simp at this; omega⟩, by simp [intOf]; omega⟩
              · obtain rfl : j = 32 := by omega
                obtain ⟨g', cap', rfl, _, hg8⟩ := hrow.form (by decide)
                go_wp2_with fail
                refine (HH.out _).mono ?_
                rintro e w8 ⟨rfl, b8⟩
                go_wp2_with fail
                refine (alive_any _).mono ?_
                rintro e w9 ⟨rfl, b9⟩
                have b89 := b8.trans (b9.mono b8.size)
                have hrow9 : w9.ownsRow B2 5 1 (.slice (some ⟨g', 0, none⟩) 32 cap') 32 (outL Z 32) := hrow.kept (row := none) ⟨b89.os, b89.tape, b89.output, b89.size, fun k hk _ => b89.block k hk⟩ (.inr (by simp [Value.ownBlock]))
                have hconv := conv_row (l := (List.range 32).map (sqz1 Z)) (by rw [List.map_map]; exact hrow9)
                rw [← HES.eq] at hconv
                go_wp2_with fail
                go_ret
                exact ⟨by simp, hbe.trans (b89.mono hbe.size)⟩
end Go.Proofs.Ytboaahjpjemfpaa
