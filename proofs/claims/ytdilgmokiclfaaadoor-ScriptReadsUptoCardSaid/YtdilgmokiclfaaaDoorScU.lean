/- Chapter 24: number. -/
import Derived.Test.YtdilgmokiclfaaaDoorScI
import Derived.StillTailTactics
import Derived.Laws.ResultCell
namespace Go.Proofs.YtdilgmokiclfaaaDoor
open Go.RowKit
set_option linter.unusedVariables false
set_option maxRecDepth 100000

theorem run_index_s (s : ByteArray) (j : Nat) (w : World) (hj : j < s.size) :
    (Instr.index 9 (.string s) (.int .i64 (j : Int))).run Tryd.prog w = .ok (.int .u8 (nth (bytesN s) j : Nat)) w := by
  have hu : Tryd.prog.underlying 9 = some .string := by kernel_rfl
  have hd : j < s.data.size := hj
  have e : nth (bytesN s) j = (s.data[j]'hd).toNat := by
    unfold bytesN nth
    rw [List.getD_eq_getElem?_getD, List.getElem?_map, Array.getElem?_toList, Array.getElem?_eq_getElem hd]
    rfl
  rw [e]
  simp only [Instr.index, Sem.run_bind, run_underlying hu, asIntOf, Sem.run_pure, Result.andThen_ok]
  simp only [Int.toNat_natCast, getElem?_pos s j hj]
  have h0 : (0 : Int) ≤ (j : Int) := by omega
  simp [h0, go_sem]
  rfl
/-- A letter of sixteen. -/
def hexOk (c : Nat) : Bool := decide ((97 ≤ c ∧ c ≤ 102) ∨ (48 ≤ c ∧ c ≤ 57))
def hexV (c : Nat) : Nat := if 97 ≤ c then c - 87 else c - 48
theorem hexV_lt {c : Nat} (h : hexOk c = true) : hexV c < 16 := by
  have := of_decide_eq_true h
  unfold hexV; split <;> omega
/-- The value of the last i letters. -/
def hv (bs : List Nat) : Nat → Nat
  | 0 => 0
  | i + 1 => hv bs i + hexV (nth bs (bs.length - 1 - i)) * 16 ^ i
theorem hv_lt (bs : List Nat) : ∀ i, (∀ j, j < i → hexOk (nth bs (bs.length - 1 - j)) = true) → hv bs i < 16 ^ i
  | 0, _ => Nat.zero_lt_one
  | i + 1, h => by
    have h1 := hv_lt bs i (fun j hj => h j (by omega))
    have h2 := hexV_lt (h i (by omega))
    rw [hv, Nat.pow_succ]
    have h3 : hexV (nth bs (bs.length - 1 - i)) * 16 ^ i ≤ 15 * 16 ^ i := Nat.mul_le_mul (by omega) (Nat.le_refl _)
    omega
/-- A digit laid into the limbs. -/
theorem fl_or {V d i q r : Nat} (hi : i = 16 * q + r) (hr : r < 16) (hq : q < 4) (hV : V < 16 ^ i) (hd : d < 16) :
    (fl V).set q (nth (fl V) q + d * 2 ^ (4 * r)) = fl (V + d * 16 ^ i) ∧ nth (fl V) q + d * 2 ^ (4 * r) = (nth (fl V) q ||| d * 2 ^ (4 * r)) ∧ nth (fl V) q < 2 ^ (4 * r) ∧ d * 2 ^ (4 * r) < 18446744073709551616 ∧ nth (fl V) q + d * 2 ^ (4 * r) < 18446744073709551616 := by
  have e16 : (16 : Nat) ^ i = 2 ^ (64 * q) * 2 ^ (4 * r) := by
    rw [hi, ← Nat.pow_add, show (16 : Nat) = 2 ^ 4 from rfl, ← Nat.pow_mul]; congr 1; omega
  have hP : 2 ^ (4 * r) ≤ 2 ^ 60 := Nat.pow_le_pow_right (by decide) (by omega)
  rw [e16] at hV ⊢
  generalize hp : 2 ^ (4 * r) = P at *
  have hdP : d * P ≤ 15 * P := Nat.mul_le_mul (by omega) (Nat.le_refl _)
  have key : ∃ u low, u < P ∧ low < 2 ^ (64 * q) ∧ V = 2 ^ (64 * q) * u + low := by
    refine ⟨V / 2 ^ (64 * q), V % 2 ^ (64 * q), Nat.div_lt_of_lt_mul hV, Nat.mod_lt _ (Nat.pow_pos (by decide)), (Nat.div_add_mod V (2 ^ (64 * q))).symm⟩
  obtain ⟨u, low, hu, hlow, rfl⟩ := key
  have e1 : 2 ^ (64 * q) * u + low + d * (2 ^ (64 * q) * P) = 2 ^ (64 * q) * (u + d * P) + low := by
    rw [Nat.mul_add, Nat.mul_left_comm d]; omega
  rw [e1]
  obtain ⟨t, ht⟩ : ∃ t, d * P = t := ⟨_, rfl⟩
  have hor : u + t = u ||| t := by
    rw [← ht, ← hp, Nat.mul_comm d, Nat.or_comm, Nat.add_comm]
    exact Nat.two_pow_add_eq_or_of_lt (by rw [hp]; exact hu) d
  rw [ht] at hdP ⊢
  have hq4 : q = 0 ∨ q = 1 ∨ q = 2 ∨ q = 3 := by omega
  have lim4 : nth (fl (2 ^ (64 * q) * u + low)) q = u := by
    rcases hq4 with rfl | rfl | rfl | rfl <;> simp only [fl, nth, List.getD_cons_zero, List.getD_cons_succ, pw] <;> omega
  rw [lim4]
  refine ⟨?_, hor, hu, by omega, by omega⟩
  rcases hq4 with rfl | rfl | rfl | rfl <;> simp only [fl, List.set_cons_zero, List.set_cons_succ, pw, List.cons.injEq, and_true] <;> omega
/-- What number answers. -/
def numB (s : ByteArray) : Option Nat :=
  if s.size = 0 ∨ 64 < s.size ∨ (1 < s.size ∧ nth (bytesN s) 0 = 48) then none
  else if (bytesN s).all hexOk then (if ltB (hv (bytesN s) s.size) rN then some (hv (bytesN s) s.size) else none) else none
theorem results_fr {fn : Func} {p u : Tmp} {W : World} {b : Nat} {xs : List Nat} (hf : fn.results = #[.cell p 24, .tmp u]) (tmps : Array Value) (hp : tmps.getD p undef = .pointer (some ⟨b, 0, none⟩)) (h : Own W b 24 .u64 xs) (hx : xs.length = 4) :
    (results fn tmps).run Tryd.prog W = .ok (.tuple #[.agg (lim .u64 xs), tmps.getD u undef]) W := by
  rw [results_cell_tmp hf, hp]
  match xs, hx with
  | [a0, a1, a2, a3], _ => simp [asAddr, run_loadVar_row W b 24 _ (lim .u64 [a0, a1, a2, a3]) (0, 0) _ h Tryd.underlying24 rfl (by kernel_rfl), Result.andThen]
theorem numB_bad {s : ByteArray} (h : s.size = 0 ∨ 64 < s.size ∨ (1 < s.size ∧ nth (bytesN s) 0 = 48)) : numB s = none := if_pos h
def NmRel (bs : List Nat) (B : Nat) (w : World) (i : Value) (wr : World) : Prop :=
  ∃ k : Nat, k ≤ bs.length ∧ i = .int .i64 (k : Int) ∧ (∀ j, j < k → hexOk (nth bs (bs.length - 1 - j)) = true) ∧ Own wr B 24 .u64 [0, 0, 0, 0] ∧ Own wr (B + 1) 24 .u64 (fl (hv bs k)) ∧ Below B w wr
set_option maxHeartbeats 8000000 in
/-- number -/
theorem number_any (s : ByteArray) (w : World) (hmax : s.size ≤ 100000000) :
    Calls Tryd.prog 77 #[.string s] w fun e w' => ∃ x : Nat, e = .returned (.tuple #[.agg (lim .u64 (fl x)), .bool (numB s).isSome]) ∧ x < pw 4 ∧ (∀ v, numB s = some v → x = v) ∧ Below w.heap.size w w' := by
  have hal : Tryd.prog.arrayLen 24 = 4 := by kernel_rfl
  obtain ⟨n, hn⟩ : ∃ n, s.size = n := ⟨_, rfl⟩
  have hbl := bytesN_length s
  rw [hn] at hbl hmax
  have HN := Lib.hid hn
  have HBL := Lib.hid hbl
  have o1 : Own ((w.alloc (.cells #[.int .u64 0, .int .u64 0, .int .u64 0, .int .u64 0] 24)).alloc (.cells #[.int .u64 0, .int .u64 0, .int .u64 0, .int .u64 0] 24)) w.heap.size 24 .u64 [0, 0, 0, 0] := (Own.new w 24 .u64 [0, 0, 0, 0]).alloc (.cells (lim .u64 [0, 0, 0, 0]) 24)
  have o2 : Own ((w.alloc (.cells #[.int .u64 0, .int .u64 0, .int .u64 0, .int .u64 0] 24)).alloc (.cells #[.int .u64 0, .int .u64 0, .int .u64 0, .int .u64 0] 24)) (w.heap.size + 1) 24 .u64 [0, 0, 0, 0] := own_new1 w (.cells (lim .u64 [0, 0, 0, 0]) 24) 24 .u64 [0, 0, 0, 0]
  have b0 : Below w.heap.size w ((w.alloc (.cells #[.int .u64 0, .int .u64 0, .int .u64 0, .int .u64 0] 24)).alloc (.cells #[.int .u64 0, .int .u64 0, .int .u64 0, .int .u64 0] 24)) := ((Below.refl w.heap.size w).alloc (Nat.le_refl _) (.cells (lim .u64 [0, 0, 0, 0]) 24)).alloc (by simp) (.cells (lim .u64 [0, 0, 0, 0]) 24)
  have O1 := Lib.hid o1
  have O2 := Lib.hid o2
  have B0 := Lib.hid b0
  clear hn hbl o1 o2 b0
  go_enter Tryd.func77, Tryd.ntmps77
  go_upto_region 2 with fail
  generalize ((w.alloc (.cells #[.int .u64 0, .int .u64 0, .int .u64 0, .int .u64 0] 24)).alloc (.cells #[.int .u64 0, .int .u64 0, .int .u64 0, .int .u64 0] 24)) = W2 at *
  have hix : ∀ j, j < n → ∀ w, (Instr.index 9 (.string s) (.int .i64 (j : Int))).run Tryd.prog w = .ok (.int .u8 (nth (bytesN s) j : Nat)) w := fun j hj w => run_index_s s j w (by rw [HN.out]; exact hj)
  have HIX := Lib.hid hix
  clear hix
  have hemp : s.toList.isEmpty = decide (n = 0) := by
    rw [ByteArray.toList_eq, ← HN.out]
    show _ = decide (s.data.size = 0)
    rw [← Array.length_toList]
    cases s.data.toList <;> simp
  have hnb : ∀ x : Nat, nth (bytesN s) 0 = x → x < 256 := fun x hx => by
    rw [← hx]
    exact (fun h => h) ((bytesN_bytO s).getD 0)
  obtain ⟨c0, hc0⟩ : ∃ x, nth (bytesN s) 0 = x := ⟨_, rfl⟩
  have hc256 := hnb c0 hc0
  clear hnb
  have HC0 := Lib.hid hc0
  go_cut [24] from 8 to 24 (fun v W => v = .bool (decide (n = 0 ∨ 64 < n ∨ (1 < n ∧ c0 = 48))) ∧ W = W2)
  case first =>
    by_cases h0 : n = 0
    · have e0 : decide (n = 0) = true := decide_eq_true h0
      rw [e0] at hemp
      have H0 := Lib.hid h0
      clear h0 e0
      go_wp2_with fail
      go_meet
      case rel => exact ⟨congrArg Value.bool (decide_eq_true (.inl H0.out)).symm, rfl⟩
    · have e0 : decide (n = 0) = false := decide_eq_false h0
      rw [e0] at hemp
      have H0 := Lib.hid h0
      have h00 := HIX.out 0 (by omega)
      rw [HC0.out] at h00
      have h00' : ∀ w : World, (Instr.index 9 (.string s) (.int .i64 0)).run Tryd.prog w = .ok (.int .u8 (c0 : Nat)) w := h00
      have hsn : (s.size : Int) = (n : Int) := by rw [HN.out]
      by_cases h64 : (64 : Int) < (n : Int)
      · have H64 := Lib.hid h64
        clear h0 e0 h00
        go_wp2_with fail
        go_meet
        case rel => exact ⟨congrArg Value.bool (decide_eq_true (.inr (.inl (by have := H64.out; omega)))).symm, rfl⟩
      · have H64 := Lib.hid h64
        by_cases h1 : (1 : Int) < (n : Int)
        · have H1 := Lib.hid h1
          by_cases h48 : c0 = 48
          · have q48 : ((c0 : Int) == 48) = true := by simp [h48]
            have H48 := Lib.hid h48
            clear h0 e0 h00 h48
            go_wp2_with fail
            go_meet
            case rel => exact ⟨congrArg Value.bool (decide_eq_true (.inr (.inr ⟨by have := H1.out; omega, H48.out⟩))).symm, rfl⟩
          · have q48 : ((c0 : Int) == 48) = false := beq_eq_false_iff_ne.2 (by omega)
            have H48 := Lib.hid h48
            clear h0 e0 h00 h48
            go_wp2_with fail
            go_meet
            case rel => exact ⟨congrArg Value.bool (decide_eq_false (fun h => h.elim H0.out (fun h => h.elim (fun h => by have := H64.out; omega) (fun h => H48.out h.2)))).symm, rfl⟩
        · have H1 := Lib.hid h1
          clear h0 e0 h00
          go_wp2_with fail
          go_meet
          case rel => exact ⟨congrArg Value.bool (decide_eq_false (fun h => h.elim H0.out (fun h => h.elim (fun h => by have := H64.out; omega) (fun h => by have := H1.out; omega)))).symm, rfl⟩
  case rest =>
    obtain ⟨rfl, rfl⟩ := hcut
    clear hemp
    by_cases hbad : n = 0 ∨ 64 < n ∨ (1 < n ∧ c0 = 48)
    · rw [decide_eq_true hbad]
      have hnb : numB s = none := numB_bad (by rw [HN.out, HC0.out]; exact hbad)
      have HNB := Lib.hid hnb
      clear hbad hnb
      have o2 := O2.out
      have hx4 : ([0, 0, 0, 0] : List Nat).length = 4 := rfl
      go_wp2_with (first
        | refine own_load o2 rfl 24 (.tmp 4) rfl rfl 4 22 hx4 (by kernel_rfl) (by kernel_rfl) ?_
        | refine wpList_store_row rfl 24 (.tmp 2) (.tmp 25) rfl w.heap.size (lim .u64 [0, 0, 0, 0]) rfl rfl 24 _ O1.out (by kernel_rfl) (by kernel_rfl) (by kernel_rfl) ?_)
      rw [setRow_self _ _ _ _ _ O1.out]
      exact bodyPost_ret (results_fr rfl _ rfl O1.out rfl) rfl ⟨0, by rw [HNB.out]; rfl, by decide, fun v hv => (by rw [HNB.out] at hv; cases hv), B0.out⟩
    · rw [decide_eq_false hbad]
      have HBAD := Lib.hid hbad
      have hn64 : n ≤ 64 := by omega
      clear hbad
      have hsn : (s.size : Int) = (n : Int) := by rw [HN.out]
      have hv0 : [0, 0, 0, 0] = fl (hv (bytesN s) 0) := by show _ = fl 0; decide
      have hst : NmRel (bytesN s) w.heap.size w (.int .i64 0) wc := ⟨0, Nat.zero_le _, rfl, fun j hj => (by omega), O1.out, hv0 ▸ O2.out, B0.out⟩
      have Hst := Lib.hid hst
      clear hst hsn hv0
      have hmn : (n : Int) ≤ 64 := by omega
      go_upto_region 4 with fail
      have hsn : s.size = n := HN.out
      go_wp2_with fail
      go_loopw [28] (NmRel (bytesN s) w.heap.size w) (fun i _ => n - (intOf i).toNat)
      case atStart => exact Hst.out
      case round =>
        clear Hst
        obtain ⟨k, hk, rfl, hok, ow1, ow2, hb⟩ := hrel
        rw [HBL.out] at hk hok
        have HOK := Lib.hid hok
        clear hok
        by_cases hkn : k < n
        · have hkni : (k : Int) < (n : Int) := by omega
          obtain ⟨p, hp⟩ : ∃ p, n - 1 - k = p := ⟨_, rfl⟩
          have hpn : p < n := by omega
          have e0 : (n : Int) - 1 - (k : Int) = (p : Int) := by omega
          obtain ⟨c, hc⟩ : ∃ c, nth (bytesN s) p = c := ⟨_, rfl⟩
          have hc256 : c < 256 := by rw [← hc]; exact (bytesN_bytO s).getD p
          have hjm := HIX.out p hpn
          rw [hc] at hjm
          have HP := Lib.hid hp
          have HC := Lib.hid hc
          clear hp hc
          obtain ⟨q, hq⟩ : ∃ q, k / 16 = q := ⟨_, rfl⟩
          obtain ⟨r, hr⟩ : ∃ r, k % 16 = r := ⟨_, rfl⟩
          obtain ⟨z8, hz8⟩ : ∃ z, 4 * r = z := ⟨_, rfl⟩
          have hq4 : q < 4 := by omega
          have hr16 : r < 16 := by omega
          have e1 : (k : Int) / 16 = (q : Int) := by omega
          have e2 : (k : Int).tdiv 16 = (q : Int) := by rw [Int.tdiv_eq_ediv_of_nonneg (by omega)]; exact e1
          have e3 : (k : Int) % 16 = (r : Int) := by omega
          have e4 : (k : Int).tmod 16 = (r : Int) := by rw [Int.tmod_eq_emod_of_nonneg (by omega)]; exact e3
          have e5 : 4 * (r : Int) = (z8 : Int) := by omega
          have e6 : IntKind.i64.wrap (z8 : Int) = (z8 : Int) := by rw [IntKind.wrap_i64]; omega
          have e7 : IntKind.i64.wrap (q : Int) = (q : Int) := by rw [IntKind.wrap_i64]; omega
          have e8 : IntKind.i64.wrap (r : Int) = (r : Int) := by rw [IntKind.wrap_i64]; omega
          have hz64 : (z8 : Int) < 64 := by omega
          have hz64' : (z8 : Int) ≤ 64 := by omega
          have hz0 : (0 : Int) ≤ (z8 : Int) := by omega
          have hqi : (q : Int) < 4 := by omega
          by_cases hcok : hexOk c = true
          · have hVlt := hv_lt (bytesN s) k (by rw [HBL.out]; exact HOK.out)
            have hor := fl_or (V := hv (bytesN s) k) (d := hexV c) (i := k) (q := q) (r := r) (by omega) hr16 hq4 hVlt (hexV_lt hcok)
            rw [hz8] at hor
            obtain ⟨V, hV⟩ : ∃ x, x = hv (bytesN s) k := ⟨_, rfl⟩
            obtain ⟨d, hd⟩ : ∃ x, x = hexV c := ⟨_, rfl⟩
            rw [← hV, ← hd] at hor
            rw [← hV] at ow2
            have hd16 : d < 16 := by rw [hd]; exact hexV_lt hcok
            obtain ⟨o1, o2, o3, o4, o5⟩ := hor
            have hca := ow2.cell (i := q) (by show q < 4; omega)
            have hfa := ow2.frozen q
            obtain ⟨L, hL⟩ : ∃ x, x = nth (fl V) q := ⟨_, rfl⟩
            rw [← hL] at o1 o2 o3 o5 hca
            obtain ⟨y, hy⟩ : ∃ x, x = d * 2 ^ z8 := ⟨_, rfl⟩
            rw [← hy] at o1 o2 o4 o5
            have esh : IntKind.u64.wrap ((d : Int) * 2 ^ z8) = (y : Int) := by
              rw [show ((d : Int) * 2 ^ z8) = ((d * 2 ^ z8 : Nat) : Int) by simp, ← hy, IntKind.wrap_u64]; omega
            have eor : bits .or .u64 (L : Int) (y : Int) = ((L + y : Nat) : Int) := by
              rw [u64_or_nat _ _ (by omega) (by omega), ← o2]
            have HV := Lib.hid hV
            have HD := Lib.hid hd
            have HO1 := Lib.hid o1
            have HL := Lib.hid hL
            have HOKC := Lib.hid hcok
            have hc2 := of_decide_eq_true hcok
            have HR := Lib.hid (show hv (bytesN s) (k + 1) = V + d * 16 ^ k by rw [hv, HBL.out, HP.out, HC.out, hV, hd])
            have HNX := Lib.hid (show ∀ j, j < k + 1 → hexOk (nth (bytesN s) ((bytesN s).length - 1 - j)) = true from fun j hj => by
              rw [HBL.out]
              rcases Nat.lt_or_ge j k with h | h
              · exact HOK.out j h
              · obtain rfl : j = k := by omega
                rw [HP.out, HC.out]; exact HOKC.out)
            clear hV hy o1 o2 o3 o4 o5 hL hcok hVlt hq hr hz8
            rcases hc2 with hA | hA
            · have f1 : (97 : Int) ≤ (c : Int) := by omega
              have f2 : (c : Int) ≤ 102 := by omega
              have f3 : ((c : Int) - 97) % 256 = (c : Int) - 97 := by omega
              have f4 : (c : Int) - 97 + 10 = (d : Int) := by rw [hd]; unfold hexV; rw [if_pos (by omega)]; omega
              have f5 : IntKind.u64.wrap ((c : Int) - 97 + 10) = (d : Int) := by rw [f4, IntKind.wrap_u64]; omega
              clear hA hd
              go_upto_region 13 with fail
              go_wp2_with fail
              go_still_tail 11, (by kernel_rfl)
              change wpList _ _ _ _ _ wr.drew
              have owd := ow2.drew
              have ow1d := ow1.drew
              have hbd : Below w.heap.size w wr.drew := hb.trans (Below.refl _ _).drew
              have hfa' := owd.frozen q
              have hca' := owd.cell (i := q) (by show q < 4; omega)
              clear ow1 ow2 hb hca hfa
              generalize wr.drew = w5 at *
              go_wp2_with fail
              have hst2 : NmRel (bytesN s) w.heap.size w (.int .i64 ((k : Int) + 1)) (w5.setCell ⟨w.heap.size + 1, q, none⟩ (.int .u64 ((L + y : Nat) : Int))) := by
                refine ⟨k + 1, by rw [HBL.out]; omega, int_eq (by omega), HNX.out, ow1d.far (by simp) _, ?_, hbd.setCell (p := ⟨w.heap.size + 1, q, none⟩) (by simp) _⟩
                rw [HR.out, ← HO1.out]
                exact owd.set _ _
              exact ⟨hst2, by simp [intOf]; omega⟩
            · have f1 : ¬ (97 : Int) ≤ (c : Int) := by omega
              have f2 : ¬ (c : Int) < 48 := by omega
              have f3 : ¬ (57 : Int) < (c : Int) := by omega
              have f4 : ((c : Int) - 48) % 256 = (d : Int) := by rw [hd]; unfold hexV; rw [if_neg (by omega)]; omega
              have f5 : (c : Int) - 48 = (d : Int) := by rw [hd]; unfold hexV; rw [if_neg (by omega)]; omega
              clear hA hd
              go_upto_region 13 with fail
              go_wp2_with fail
              go_still_tail 11, (by kernel_rfl)
              change wpList _ _ _ _ _ wr.drew
              have owd := ow2.drew
              have ow1d := ow1.drew
              have hbd : Below w.heap.size w wr.drew := hb.trans (Below.refl _ _).drew
              have hfa' := owd.frozen q
              have hca' := owd.cell (i := q) (by show q < 4; omega)
              clear ow1 ow2 hb hca hfa
              generalize wr.drew = w5 at *
              go_wp2_with fail
              have hst2 : NmRel (bytesN s) w.heap.size w (.int .i64 ((k : Int) + 1)) (w5.setCell ⟨w.heap.size + 1, q, none⟩ (.int .u64 ((L + y : Nat) : Int))) := by
                refine ⟨k + 1, by rw [HBL.out]; omega, int_eq (by omega), HNX.out, ow1d.far (by simp) _, ?_, hbd.setCell (p := ⟨w.heap.size + 1, q, none⟩) (by simp) _⟩
                rw [HR.out, ← HO1.out]
                exact owd.set _ _
              exact ⟨hst2, by simp [intOf]; omega⟩
          · have hnb : numB s = none := by
              unfold numB
              rw [if_neg (by rw [HN.out, HC0.out]; exact HBAD.out), if_neg]
              intro hall
              have hpl : p < (bytesN s).length := by rw [HBL.out]; exact hpn
              have := List.all_eq_true.1 hall (nth (bytesN s) p) (by rw [nth_eq hpl]; exact List.getElem_mem hpl)
              rw [HC.out] at this
              exact hcok this
            have HNB := Lib.hid hnb
            have hcn : ¬ ((97 ≤ c ∧ c ≤ 102) ∨ (48 ≤ c ∧ c ≤ 57)) := fun h => hcok (decide_eq_true h)
            have o2 := ow2
            have hx4 : (fl (hv (bytesN s) k)).length = 4 := rfl
            have hlt4 : hv (bytesN s) k < pw 4 := by
              have := hv_lt (bytesN s) k (by rw [HBL.out]; exact HOK.out)
              exact Nat.lt_of_lt_of_le this (by rw [show pw 4 = 16 ^ 64 by decide +kernel]; exact Nat.pow_le_pow_right (by decide) (by omega))
            generalize hv (bytesN s) k = V at *
            clear hnb hcok hq hr hz8
            have fin : ∀ tmps : Array Value, tmps.getD 2 undef = .pointer (some ⟨w.heap.size, 0, none⟩) → tmps.getD 3 undef = .bool false →
                bodyPost Tryd.prog Tryd.f77 (fun e w' => ∃ x : Nat, e = .returned (.tuple #[.agg (lim .u64 (fl x)), .bool (numB s).isSome]) ∧ x < pw 4 ∧ (∀ v, numB s = some v → x = v) ∧ Below w.heap.size w w') .ret ⟨tmps, []⟩ (wr.setRow w.heap.size (lim .u64 (fl V))) := fun tmps h2 h3 => by
              have o3 : Own (wr.setRow w.heap.size (lim .u64 (fl V))) w.heap.size 24 .u64 (fl V) := setRow_heap wr w.heap.size _ _ _ _ ow1
              refine bodyPost_ret (results_fr rfl _ h2 o3 rfl) rfl ⟨V, ?_, hlt4, fun v hv => (by rw [HNB.out] at hv; cases hv), below_setRow hb (Nat.le_refl _) _⟩
              rw [h3, HNB.out]; rfl
            have FIN := Lib.hid fin
            clear fin
            by_cases h97 : (97 : Int) ≤ (c : Int)
            · have h102 : ¬ (c : Int) ≤ 102 := by omega
              have h57 : (57 : Int) < (c : Int) := by omega
              have h48 : ¬ (c : Int) < 48 := by omega
              go_wp2_with (first
                | refine own_load o2 rfl 24 (.tmp 4) rfl rfl 4 22 hx4 (by kernel_rfl) (by kernel_rfl) ?_
                | refine wpList_store_row rfl 24 (.tmp 2) (.tmp 59) rfl w.heap.size (lim .u64 (fl V)) rfl rfl 24 _ ow1 (by kernel_rfl) rfl (lim_one _ _) ?_)
              exact FIN.out _ rfl rfl
            · by_cases h48 : (c : Int) < 48
              · go_wp2_with (first
                  | refine own_load o2 rfl 24 (.tmp 4) rfl rfl 4 22 hx4 (by kernel_rfl) (by kernel_rfl) ?_
                  | refine wpList_store_row rfl 24 (.tmp 2) (.tmp 59) rfl w.heap.size (lim .u64 (fl V)) rfl rfl 24 _ ow1 (by kernel_rfl) rfl (lim_one _ _) ?_)
                exact FIN.out _ rfl rfl
              · have h57 : (57 : Int) < (c : Int) := by omega
                go_wp2_with (first
                  | refine own_load o2 rfl 24 (.tmp 4) rfl rfl 4 22 hx4 (by kernel_rfl) (by kernel_rfl) ?_
                  | refine wpList_store_row rfl 24 (.tmp 2) (.tmp 59) rfl w.heap.size (lim .u64 (fl V)) rfl rfl 24 _ ow1 (by kernel_rfl) rfl (lim_one _ _) ?_)
                exact FIN.out _ rfl rfl
        · obtain rfl : k = n := by omega
          have hkni : ¬ (k : Int) < (k : Int) := by omega
          have hlt4 : hv (bytesN s) k < pw 4 := by
            have := hv_lt (bytesN s) k (by rw [HBL.out]; exact HOK.out)
            exact Nat.lt_of_lt_of_le this (by rw [show pw 4 = 16 ^ 64 by decide +kernel]; exact Nat.pow_le_pow_right (by decide) (by omega))
          have hnb : numB s = if ltB (hv (bytesN s) k) rN then some (hv (bytesN s) k) else none := by
            unfold numB
            rw [if_neg (by rw [HN.out, HC0.out]; exact HBAD.out), if_pos, HN.out]
            rw [List.all_eq_true]
            intro x hx
            obtain ⟨i, hi, rfl⟩ := List.mem_iff_getElem.1 hx
            rw [HBL.out] at hi
            have := HOK.out (k - 1 - i) (by omega)
            rw [show k - 1 - (k - 1 - i) = i by omega, nth_eq (by rw [HBL.out]; exact hi)] at this
            exact this
          have HNB := Lib.hid hnb
          have D := Lib.hid (fun W => fright_any (hv (bytesN s) k) W hlt4)
          have HLT := Lib.hid hlt4
          obtain ⟨V, hV⟩ : ∃ x, x = hv (bytesN s) k := ⟨_, rfl⟩
          rw [← hV] at HNB D HLT ow2
          clear hnb hlt4 hV
          obtain ⟨t, ht⟩ : ∃ t, t = ltB V rN := ⟨_, rfl⟩
          rw [← ht] at D HNB
          clear ht
          have Hxs : Hid (lim .u64 (fl V) = lim .u64 (fl V)) := Lib.hid rfl
          obtain ⟨xs, hxs⟩ : ∃ x, x = fl V := ⟨_, rfl⟩
          have e4 := fl4 V
          rw [← hxs] at D ow2 e4
          obtain ⟨a0, a1, a2, a3, rfl⟩ := e4
          have HXS := Lib.hid hxs
          clear hxs Hxs
          go_upto_region 15 with fail
          obtain ⟨p0, p1, p2, p3⟩ := ow2.drew.c4
          obtain ⟨z0, z1, z2, z3⟩ := ow1.drew.c4
          go_region_with (first
            | (go_at_call 51; refine (D.out _).mono ?_; rintro e w6 ⟨rfl, b6⟩
               have be := (Below.refl wr.heap.size wr).drew.trans b6
               have o1e := ow1.bel be
               have o2e := ow2.bel be
               have hbe := hb.trans (be.mono hb.size)
               obtain ⟨cb0, cb1, cb2, cb3⟩ := o1e.c4
               obtain ⟨cd0, cd1, cd2, cd3⟩ := o2e.c4
               have f0 := o1e.frozen 0
               have f1 := o1e.frozen 1
               have f2 := o1e.frozen 2
               have f3 := o1e.frozen 3))
          all_goals go_wp2_with fail
          all_goals
            have o3 : Own ((((w6.setCell ⟨w.heap.size, 0, none⟩ (.int .u64 (a0 : Nat))).setCell ⟨w.heap.size, 1, none⟩ (.int .u64 (a1 : Nat))).setCell ⟨w.heap.size, 2, none⟩ (.int .u64 (a2 : Nat))).setCell ⟨w.heap.size, 3, none⟩ (.int .u64 (a3 : Nat))) w.heap.size 24 .u64 [a0, a1, a2, a3] := (((o1e.set 0 a0).set 1 a1).set 2 a2).set 3 a3
            refine bodyPost_ret (results_fr rfl _ rfl o3 rfl) rfl ⟨V, ?_, HLT.out, fun v hv => ?_, (((hbe.setCell (p := ⟨w.heap.size, 0, none⟩) (Nat.le_refl _) _).setCell (p := ⟨w.heap.size, 1, none⟩) (Nat.le_refl _) _).setCell (p := ⟨w.heap.size, 2, none⟩) (Nat.le_refl _) _).setCell (p := ⟨w.heap.size, 3, none⟩) (Nat.le_refl _) _⟩
            · rw [← HXS.out, HNB.out]
              cases t <;> rfl
            · rw [HNB.out] at hv
              cases t
              · cases hv
              · exact Option.some.inj hv
end Go.Proofs.YtdilgmokiclfaaaDoor
