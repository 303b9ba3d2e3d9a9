/- Chapter 24: the reference's Hex. -/
import Derived.Test.YtdilgmokiclfaaaDoorScI
namespace Go.Proofs.YtdilgmokiclfaaaDoor
open Go.RowKit
set_option linter.unusedVariables false
set_option maxRecDepth 100000

theorem conv_rowH {w : World} {B g cap n : Nat} {l : List Nat} (ob : Byt l) (h : w.ownsRow B 5 1 (.slice (some ⟨g, 0, none⟩) n cap) n (u8s l)) :
    (convert 40 9 (.slice (some ⟨g, 0, none⟩) n cap)).run Tryd.prog w = .ok (.string (strN l)) w := by
  obtain ⟨A, c, e, hl, _, _, hs, _⟩ := sl_ownB h
  cases e
  exact conv_sl hl ob hs

def RHxRel (v : Nat) (B : Nat) (w : World) (s i : Value) (wr : World) : Prop :=
  ∃ j : Nat, j ≤ 64 ∧ i = .int .i64 (63 - (j : Int)) ∧ (∃ g cap, s = .slice (some ⟨g, 0, none⟩) (hexN v j).length cap ∧ B ≤ g ∧ g < wr.heap.size) ∧ wr.ownsRow B 5 1 s (hexN v j).length (u8s (hexN v j)) ∧ Below B w wr
set_option maxHeartbeats 4000000 in
/-- ref.Hex -/
theorem rhex_any (v : Nat) (w : World) :
    Calls Tryd.prog 64 #[.agg (lim .u64 (fl v))] w fun e w' => e = .returned (.string (hexB v)) ∧ Below w.heap.size w w' := by
  have hal : Tryd.prog.arrayLen 24 = 4 := by kernel_rfl
  have o1 := Own.new w 24 .u64 (fl v)
  have b0 := (Below.refl w.heap.size w).alloc (Nat.le_refl _) (.cells (lim .u64 (fl v)) 24)
  have hx : (fl v).length = 4 := rfl
  go_enter Tryd.func64, Tryd.ntmps64
  go_upto_region 1 with fail
  have Ho := Lib.hid o1
  have Hs0 : Hid ((w.alloc (.cells (lim .u64 (fl v)) 24)).heap.size = w.heap.size + 1) := Lib.hid (by simp)
  generalize w.alloc (.cells (lim .u64 (fl v)) 24) = W1 at *
  have hst : RHxRel v W1.heap.size W1 (.slice (some ⟨W1.heap.size, 0, none⟩) 0 0) (.int .i64 63) (W1.alloc (.cells #[] 5)) :=
    ⟨0, by omega, rfl, ⟨_, _, rfl, Nat.le_refl _, by simp⟩, World.ownsRow_made W1 #[] 0 (Nat.le_refl _) (Nat.zero_le _) rfl, (Below.refl _ _).alloc (Nat.le_refl _) _⟩
  have Hst := Lib.hid hst
  have Hb := Lib.hid b0
  clear b0 o1 hst
  go_wp2_with fail
  obtain ⟨ti, hti, hti3, hti4, hti5⟩ := info_u8s
  have HT := Lib.hid (And.intro hti (And.intro hti3 (And.intro hti4 hti5)))
  clear hti hti3 hti4 hti5
  go_loopw [3, 4] (RHxRel v W1.heap.size W1) (fun _ i _ => (intOf i + 1).toNat)
  case atStart => exact Hst.out
  case round =>
    clear Hst
    obtain ⟨j, hj, rfl, ⟨g, cap, rfl, hgB, hgl⟩, hrow, hb⟩ := hrel
    by_cases hj64 : j < 64
    · obtain ⟨p, hp⟩ : ∃ p, 63 - j = p := ⟨_, rfl⟩
      obtain ⟨k, hk⟩ : ∃ k, p / 16 = k := ⟨_, rfl⟩
      obtain ⟨y8, hy8⟩ : ∃ l, p % 16 = l := ⟨_, rfl⟩
      obtain ⟨z8, hz8⟩ : ∃ l, 4 * y8 = l := ⟨_, rfl⟩
      have e0 : 63 - (j : Int) = (p : Int) := by omega
      have e1 : (p : Int) / 16 = (k : Int) := by omega
      have e2 : (p : Int).tdiv 16 = (k : Int) := by rw [Int.tdiv_eq_ediv_of_nonneg (by omega)]; exact e1
      have e3 : (p : Int) % 16 = (y8 : Int) := by omega
      have e4 : (p : Int).tmod 16 = (y8 : Int) := by rw [Int.tmod_eq_emod_of_nonneg (by omega)]; exact e3
      have e5 : 4 * (y8 : Int) = (z8 : Int) := by omega
      have e6 : IntKind.i64.wrap (z8 : Int) = (z8 : Int) := by rw [IntKind.wrap_i64]; omega
      have e7 : IntKind.i64.wrap (k : Int) = (k : Int) := by rw [IntKind.wrap_i64]; omega
      have e8 : IntKind.i64.wrap (y8 : Int) = (y8 : Int) := by rw [IntKind.wrap_i64]; omega
      have e9 : IntKind.u64.wrap (z8 : Int) = (z8 : Int) := by rw [IntKind.wrap_u64]; omega
      have hz64 : (z8 : Int) < 64 := by omega
      have hz64' : (z8 : Int) ≤ 64 := by omega
      have hz0 : (0 : Int) ≤ (z8 : Int) := by omega
      have hk4 : (k : Int) < 4 := by omega
      have hkn : k < 4 := by omega
      have hcx : wr.cell? ⟨w.heap.size, k, none⟩ = some (.int .u64 (nth (fl v) k : Nat)) := (hb.cell (p := ⟨w.heap.size, k, none⟩) Ho.out.lt).trans (Ho.out.cell (by omega))
      obtain ⟨q, hq⟩ : ∃ q, nth (fl v) k / 2 ^ z8 = q := ⟨_, rfl⟩
      obtain ⟨y, hy⟩ : ∃ y, q % 16 = y := ⟨_, rfl⟩
      have ev1 : (nth (fl v) k : Int) / 2 ^ z8 = (q : Int) := by rw [← hq]; simp
      have ev2 : (q : Int).tmod 16 = (y : Int) := by rw [← hy]; rfl
      have ev3 : (y : Int) % 256 = (y : Int) := by omega
      have ev4 : IntKind.u8.wrap (y : Int) = (y : Int) := by rw [IntKind.wrap_u8]; omega
      have hD : hexD v (63 - j) = y := by unfold hexD; rw [hp, hk, hy8, hz8, hq, hy]
      have HD := Lib.hid hD
      have hy16 : y < 16 := by rw [← hy]; exact Nat.mod_lt _ (by decide)
      have HY := Lib.hid hy16
      have HP := Lib.hid hp
      clear hD hy hq hp hk hy8 hz8 hy16
      have hj63 : (p = 0) = (j = 63) := by rw [← HP.out]; simp only [eq_iff_iff]; omega
      have HJ := Lib.hid hj63
      clear hj63
      rw [e0]
      have E0 := Lib.hid e0
      clear e0
      obtain ⟨l, hl⟩ : ∃ l, hexN v j = l := ⟨_, rfl⟩
      obtain ⟨t, ht⟩ : ∃ t, (hexN v j).length = t := ⟨_, rfl⟩
      rw [ht] at hrow ⊢
      rw [hl] at hrow
      have HTl := Lib.hid ht
      have HL := Lib.hid hl
      clear hl ht
      go_upto_region 6 with fail
      go_cut [32] from 22 to 32 (fun c W => c = .bool (!decide ((l ≠ [] ∨ 0 < y) ∨ p = 0)) ∧ W = wr)
      case first =>
        have hl0 : (l = []) = (t = 0) := by rw [← HTl.out, HL.out, List.length_eq_zero_iff]
        have HL0 := Lib.hid hl0
        clear hl0
        by_cases hy0 : y = 0
        · have hy0' : ((y : Int) == 0) = true := by simp [hy0]
          have HY0 := Lib.hid hy0
          clear hy0
          by_cases ht0 : t = 0
          · have ht0' : ((t : Int) == 0) = true := by simp [ht0]
            have HT0 := Lib.hid ht0
            clear ht0
            by_cases hp0 : p = 0
            · have hp0' : ¬ (0 : Int) < (p : Int) := by omega
              have HP0 := Lib.hid hp0
              clear hp0
              go_wp2_with fail
              go_meet
              case rel => exact ⟨congrArg Value.bool (by rw [HP0.out]; simp), rfl⟩
            · have hp0' : (0 : Int) < (p : Int) := by omega
              have HP0 := Lib.hid hp0
              clear hp0
              go_wp2_with fail
              go_meet
              case rel => exact ⟨congrArg Value.bool (by have h1 := HL0.out.mpr HT0.out; have h2 := HY0.out; have h3 := HP0.out; rw [Bool.eq_iff_iff]; simp [h1, h2, h3]; omega), rfl⟩
          · have ht0' : ((t : Int) == 0) = false := by simpa using ht0
            have HT0 := Lib.hid ht0
            clear ht0
            go_wp2_with fail
            go_meet
            case rel => exact ⟨congrArg Value.bool (by rw [decide_eq_true (.inl (.inl fun h => HT0.out (HL0.out.mp h)))]; rfl), rfl⟩
        · have hy0' : ((y : Int) == 0) = false := by simpa using hy0
          have HY0 := Lib.hid hy0
          clear hy0
          go_wp2_with fail
          go_meet
          case rel => exact ⟨congrArg Value.bool (by rw [decide_eq_true (.inl (.inr (by have := HY0.out; omega)))]; rfl), rfl⟩
      case rest =>
        obtain ⟨rfl, rfl⟩ := hcut
        by_cases hq : (l ≠ [] ∨ 0 < y) ∨ p = 0
        · rw [decide_eq_true hq]
          obtain ⟨c, hc⟩ : ∃ c, digC y = c := ⟨_, rfl⟩
          have HX := Lib.hid (hexN_yes (v := v) (j := j) (by rw [HL.out, HD.out, ← HJ.out]; exact hq))
          rw [HL.out, HD.out, hc] at HX
          have hle := hexN_len v j
          rw [HTl.out] at hle
          have hrow1 := hrow.alloc (.cells #[.int .u8 (c : Int)] 5)
          have hb1 := hb.alloc hb.size (.cells #[.int .u8 (c : Int)] 5)
          clear hq
          by_cases hy10 : y < 10
          · have hyi : (y : Int) < 10 := by omega
            have hcy : 48 + y = c := by rw [← hc]; unfold digC; rw [if_pos hy10]
            have f0 : 48 + (y : Int) = (c : Int) := by omega
            have f1 : IntKind.u8.wrap (48 + (y : Int)) = (c : Int) := by rw [IntKind.wrap_u8]; omega
            have f2 : (48 + (y : Int)) % 256 = (c : Int) := by omega
            have f3 : IntKind.u8.wrap (c : Int) = (c : Int) := by rw [IntKind.wrap_u8]; omega
            clear hcy hc hy10
            go_wp2_with (refine wpList_append_lies (wc.alloc (.cells #[.int .u8 (c : Int)] 5)) rfl (.tmp 35) (.tmp 38) 40 rfl W1.heap.size 5 ti (.int .u8 0) 1 1 (by kernel_rfl) HT.out.1 HT.out.2.1 HT.out.2.2.1 HT.out.2.2.2 rfl (by decide) _ t (u8s l) rfl hrow1 ⟨wc.heap.size, 0, none⟩ 1 1 [.int .u8 (c : Int)] rfl rfl (World.news_of_block (heap_alloc_new wc _)) (by simp [Value.oneCell']) (by decide) (by simp only [maxLen]; omega) (by omega) (by simp; omega) _ rfl ?_; intro g' cap' w8 hrow8 hgrow8 hat8 hlt8)
            have hbe8 : Below W1.heap.size W1 w8 := hb1.trans ⟨hgrow8.os, hgrow8.tape, hgrow8.output, hgrow8.size, fun k hk => hgrow8.block k (Nat.lt_of_lt_of_le hk hb1.size) (fun e => by have e' : k = g := Option.some.inj e; omega)⟩
            have hg8 : W1.heap.size ≤ g' := by
              rcases hat8 with h | h
              · have e' : g = g' := Option.some.inj h
                omega
              · have := hb1.size; omega
            have hl1 : (hexN v (j + 1)).length = t + 1 := by rw [HX.out, List.length_append, ← HL.out, HTl.out]; rfl
            refine ⟨⟨j + 1, by omega, int_eq (by have := E0.out; omega), ⟨g', cap', by rw [hl1], hg8, hlt8⟩, ?_, hbe8⟩, by simp [intOf]⟩
            rw [hl1, HX.out, ← u8s_append]
            exact hrow8
          · have hyi : ¬ (y : Int) < 10 := by omega
            have hy16 := HY.out
            have hcy : 87 + y = c := by rw [← hc]; unfold digC; rw [if_neg hy10]
            obtain ⟨c2, hc2⟩ : ∃ c2, 97 + y = c2 := ⟨_, rfl⟩
            have f0 : 97 + (y : Int) = (c2 : Int) := by omega
            have f1 : IntKind.u8.wrap (97 + (y : Int)) = (c2 : Int) := by rw [IntKind.wrap_u8]; omega
            have f3 : IntKind.u8.wrap (c2 : Int) = (c2 : Int) := by rw [IntKind.wrap_u8]; omega
            have f4 : (c2 : Int) - 10 = (c : Int) := by omega
            have f5 : IntKind.u8.wrap ((c2 : Int) - 10) = (c : Int) := by rw [IntKind.wrap_u8]; omega
            have f6 : IntKind.u8.wrap (c : Int) = (c : Int) := by rw [IntKind.wrap_u8]; omega
            clear hcy hc hc2 hy10
            go_wp2_with (refine wpList_append_lies (wc.alloc (.cells #[.int .u8 (c : Int)] 5)) rfl (.tmp 40) (.tmp 44) 40 rfl W1.heap.size 5 ti (.int .u8 0) 1 1 (by kernel_rfl) HT.out.1 HT.out.2.1 HT.out.2.2.1 HT.out.2.2.2 rfl (by decide) _ t (u8s l) rfl hrow1 ⟨wc.heap.size, 0, none⟩ 1 1 [.int .u8 (c : Int)] rfl rfl (World.news_of_block (heap_alloc_new wc _)) (by simp [Value.oneCell']) (by decide) (by simp only [maxLen]; omega) (by omega) (by simp; omega) _ rfl ?_; intro g' cap' w8 hrow8 hgrow8 hat8 hlt8)
            have hbe8 : Below W1.heap.size W1 w8 := hb1.trans ⟨hgrow8.os, hgrow8.tape, hgrow8.output, hgrow8.size, fun k hk => hgrow8.block k (Nat.lt_of_lt_of_le hk hb1.size) (fun e => by have e' : k = g := Option.some.inj e; omega)⟩
            have hg8 : W1.heap.size ≤ g' := by
              rcases hat8 with h | h
              · have e' : g = g' := Option.some.inj h
                omega
              · have := hb1.size; omega
            have hl1 : (hexN v (j + 1)).length = t + 1 := by rw [HX.out, List.length_append, ← HL.out, HTl.out]; rfl
            refine ⟨⟨j + 1, by omega, int_eq (by have := E0.out; omega), ⟨g', cap', by rw [hl1], hg8, hlt8⟩, ?_, hbe8⟩, by simp [intOf]⟩
            rw [hl1, HX.out, ← u8s_append]
            exact hrow8
        · rw [decide_eq_false hq]
          have HX := Lib.hid (hexN_no (v := v) (j := j) (by rw [HL.out, HD.out, ← HJ.out]; exact hq))
          clear hq
          go_wp2_with fail
          have hl1 : (hexN v (j + 1)).length = t := by rw [HX.out, HTl.out]
          refine ⟨⟨j + 1, by omega, int_eq (by have := E0.out; omega), ⟨g, cap, by rw [hl1], hgB, hgl⟩, ?_, hb⟩, by simp [intOf]⟩
          rw [hl1, HX.out, HL.out]
          exact hrow
    · obtain rfl : j = 64 := by omega
      have e0 : (63 : Int) - ((64 : Nat) : Int) = -1 := by omega
      rw [e0]
      have hconv := conv_rowH (hexN_byt v 64) hrow
      go_wp2_with fail
      go_ret
      exact ⟨rfl, Hb.out.trans (hb.mono (by rw [Hs0.out]; omega))⟩
end Go.Proofs.YtdilgmokiclfaaaDoor
