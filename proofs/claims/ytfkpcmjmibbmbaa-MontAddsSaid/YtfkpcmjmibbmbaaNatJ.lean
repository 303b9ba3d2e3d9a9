import Derived.Test.YtfkpcmjmibbmbaaNatI
namespace Go.Proofs.Ytfkpcmjmibbmbaa
open Go.RowKit
set_option linter.unusedVariables false

/-- A remainder handed back, with OK. -/
def RemPost (L V : Nat) (w : World) (e : Ending) (w' : World) : Prop :=
  ∃ (g : Nat) (zs : List Nat), e = .returned (.tuple #[.slice (some ⟨g, 0, none⟩) L L, .int .i64 0]) ∧ Sl w' .u64 (some ⟨g, 0, none⟩) zs ∧ zs.length = L ∧ Ok zs ∧ val zs = V ∧ Below w.heap.size w w'
def RemRel (A M na L g : Nat) (w : World) (i : Value) (wr : World) : Prop :=
  ∃ (k : Nat) (zs : List Nat), k ≤ 64 * na ∧ i = .int .i64 ((k : Int) - 1) ∧ zs.length = L + 1 ∧ Ok zs ∧ Own wr g 22 .u64 zs ∧ Below w.heap.size w wr ∧ val zs = A / 2 ^ k % M

theorem shrAnd (x r : Nat) (hx : x < 18446744073709551616) : bits .and .u64 ((x : Int) / 2 ^ r) 1 = ((x / 2 ^ r % 2 : Nat) : Int) := by
  have e : (x : Int) / 2 ^ r = ((x / 2 ^ r : Nat) : Int) := by simp
  have h : x / 2 ^ r ≤ x := Nat.div_le_self _ _
  have h1 := bits_and_u64_nat (x / 2 ^ r) 1 (by omega) (by decide)
  rw [e]
  refine h1.trans ?_
  rw [Nat.and_one_is_mod]

theorem or_dbl (x c : Nat) (hc : c ≤ 1) : bits .or .u64 (IntKind.u64.wrap ((x : Int) * 2)) (c : Int) = ((2 * x + c) % 18446744073709551616 : Nat) := by
  have e : IntKind.u64.wrap ((x : Int) * 2) = ((2 * (x % 9223372036854775808) : Nat) : Int) := by rw [IntKind.wrap_u64]; omega
  rw [e, u64_or_nat _ _ (by omega) (by omega), ← Nat.two_pow_add_eq_or_of_lt (i := 1) (b := c) (by omega) (x % 9223372036854775808)]
  omega

/-- What the first inner loop leaves: twice the rest and a bit; nothing goes beyond. -/
theorem dbl_done {zs zs0 : List Nat} {L c b R M : Nat} (hz : zs.length = L + 1) (hz0 : zs0.length = L + 1) (h : val (zs.take (L + 1)) + pw (L + 1) * c = 2 * val (zs0.take (L + 1)) + b) (hc : c ≤ 1) (hb : b < 2) (hv : val zs0 = R) (hR : R < M) (hM : M < pw L) :
    val zs = 2 * R + b := by
  rw [val_take_all _ (by omega), val_take_all _ (by omega), pw_succ] at h
  have : c = 0 ∨ c = 1 := by omega
  rcases this with rfl | rfl <;> omega

set_option maxHeartbeats 1000000 in
/-- nat.Rem, by a number that is not 0 -/
theorem rem_any (A B : Option Addr) (n c m d na L : Nat) (xs ys : List Nat) (w : World) (hn : n ≤ c) (hc : c ≤ maxLen) (hm : m ≤ d) (hd : d ≤ maxLen)
    (ea : min n 16 = na) (eb : min m 16 = L) (hx : xs.length = na) (hy : ys.length = L) (ox : Ok xs) (oy : Ok ys) (sx : Sl w .u64 A xs) (sy : Sl w .u64 B ys) (hpos : 0 < val ys) :
    Calls Try.prog 20 #[.slice A n c, .slice B m d] w (RemPost L (val xs % val ys) w) := by
  have hna : na ≤ 16 := by omega
  have hL : L ≤ 16 := by omega
  have hmk := run_mk (L + 1) (by omega)
  have H1 := Lib.hid (cut_at A n c na w hn hc ea)
  have H2 := Lib.hid (cut_at B m d L w hm hd eb)
  have H3 := Lib.hid (bits_any B L L L ys w (Nat.le_refl _) (by unfold maxLen; omega) (by omega) hy oy sy)
  have hne : ((bitLen (val ys) : Nat) : Int) ≠ 0 := by have := bitLen_pos (show val ys ≠ 0 by omega); omega
  have hne' : (((bitLen (val ys) : Nat) : Int) == 0) = false := by simpa using hne
  have Hx := Lib.hid hx
  have Hy := Lib.hid hy
  have Hlt := Lib.hid (show val ys < pw L by have := val_lt oy; rwa [hy] at this)
  have hA : val xs < 2 ^ (64 * na) := by have := val_lt ox; rwa [hx, pw_two] at this
  have hbase : val xs / 2 ^ (64 * na) % val ys = 0 := by rw [Nat.div_eq_of_lt hA, Nat.zero_mod]
  have Hbase := Lib.hid hbase
  clear hx hy ea eb hA hbase hne
  go_enter Try.func20, Try.ntmps20
  go_wp2_with fail
  refine (H1.out).mono ?_
  rintro e w' ⟨rfl, rfl⟩
  go_wp2_with fail
  refine (H2.out).mono ?_
  rintro e w' ⟨rfl, rfl⟩
  go_wp2_with fail
  refine (H3.out).mono ?_
  rintro e w' ⟨rfl, rfl⟩
  have hmk' : ∀ w : World, (Instr.makeSlice 26 (.int .i64 ((L : Int) + 1)) (.int .i64 ((L : Int) + 1))).run Try.prog w = .ok (.slice (some ⟨w.heap.size, 0, none⟩) (L + 1) (L + 1)) (w.alloc (.cells (lim .u64 (List.replicate (L + 1) 0)) 22)) := hmk
  clear hmk
  go_wp2_with fail
  clear hmk' hne'
  go_loopw [7] (RemRel (val xs) (val ys) na L w.heap.size w) (fun i _ => (intOf i + 1).toNat)
  case atStart => exact ⟨64 * na, _, Nat.le_refl _, by simp, List.length_replicate, Ok.replicate _, Own.new _ _ _ _, (Below.refl _ _).alloc (Nat.le_refl _) _, by rw [val_replicate, Hbase.out]⟩
  case round =>
    obtain ⟨k, zs0, hk, hi, hz0, oz0, own0, hb0, hval0⟩ := hrel
    have Hv0 := Lib.hid hval0
    have Hz0 := Lib.hid hz0
    have Hown0 := Lib.hid own0
    clear hval0 hz0 own0
    rcases k with _ | j
    · subst hi
      go_wp2
      go_ret2
      have h := Hv0.out
      rw [Nat.pow_zero, Nat.div_one] at h
      have hl := Nat.lt_trans (Nat.mod_lt (val xs) hpos) Hlt.out
      refine ⟨_, zs0.take L, rfl, (Sl.of_own Hown0.out).take L, by rw [List.length_take, Hz0.out]; omega, oz0.take L, ?_, hb0⟩
      rw [val_take oz0, h, Nat.mod_eq_of_lt hl]
    · obtain rfl : _ = Value.int .i64 (j : Int) := hi.trans (int_eq (by omega))
      clear hi
      obtain ⟨ba, off, rfl, hlb, hcb⟩ := sx.at2 hb0 (by have := Hx.out; omega)
      have hc1 := hcb (j / 64) (by have := Hx.out; omega)
      have bx := ox.getD (j / 64)
      have hj1 : (j : Int) / 64 < (na : Int) := by omega
      clear hcb
      go_wp2_with fail
      rw [shrAnd _ _ bx, bit_limb ox j]
      have hbl := bitOf_lt (val xs) j
      obtain ⟨b, hb⟩ : ∃ b, bitOf (val xs) j = b := ⟨_, rfl⟩
      rw [hb] at hbl ⊢
      have Hb := Lib.hid hb
      clear hb hc1 hj1 bx
      obtain ⟨wo, rfl⟩ : ∃ wo : World, wo = wr := ⟨_, rfl⟩
      go_loopw [44, 8] (InRel (fun k V c => V + pw k * c = 2 * val (zs0.take k) + b) zs0 (L + 1) w.heap.size w) (fun i _ _ => L + 1 - (intOf i).toNat)
      case atStart => exact ⟨0, b, zs0, Nat.zero_le _, rfl, rfl, by omega, Hz0.out, oz0, Hown0.out, hb0, by simp [val, pw], fun t ht => rfl⟩
      case round =>
        obtain ⟨k, cy, zs, hk1, rfl, rfl, hcy, hz, oz, own, hb1, hval, hkeep⟩ := hrel
        have Hv := Lib.hid hval
        have Hz := Lib.hid hz
        have Hown := Lib.hid own
        have Hk := Lib.hid hkeep
        clear hval hkeep
        by_cases hlt : k < L + 1
        · have hcell := own.cell (i := k) (by omega)
          have hfr := own.frozen k
          have bz := oz.getD k
          clear own hz
          go_wp2_with fail
          refine ⟨InRel.step (v := (2 * nth zs k + cy) % 18446744073709551616) (c' := (2 * nth zs k + cy) / 18446744073709551616) hlt Hz.out oz Hown.out hb1 (Nat.le_refl _) Hk.out rfl (or_dbl _ _ hcy) (Nat.mod_lt _ (by decide)) (by omega) (by omega) ?_, by simp [intOf]; omega⟩
          show _ = 2 * val (zs0.take (k + 1)) + b
          rw [val_take_succ zs0, ← Hk.out k (Nat.le_refl _), pw_succ]
          exact double_step _ _ _ _ _ _ Hv.out
        · obtain rfl : k = L + 1 := by omega
          have hdone := dbl_done Hz.out Hz0.out Hv.out hcy hbl Hv0.out (Nat.mod_lt _ hpos) Hlt.out
          have hrs := rem_step (val xs) (val ys) j
          rw [Hb.out] at hrs
          have hrl := rem_lt (Nat.mod_lt (val xs / 2 ^ (j + 1)) hpos) hbl
          have Hdone := Lib.hid hdone
          have Hrs := Lib.hid (hrs.symm.trans hrl)
          clear hdone hrs hrl own hz
          go_wp2_with fail
          refine (longer_any _ B (L + 1) (L + 1) L L zs ys wr (by omega) (by omega) Hz.out Hy.out oz oy (Sl.of_own Hown.out) (sy.bel hb1)).mono ?_
          rintro e w2 ⟨rfl, hb2⟩
          have Hown2 := Lib.hid (Hown.out.bel hb2)
          have hb02 := hb1.trans (hb2.mono hb1.size)
          clear hb2
          by_cases hge : val ys ≤ val zs
          · rw [geB_yes hge]
            have Hge := Lib.hid hge
            clear hge
            go_wp2_with fail
            obtain ⟨wp, rfl⟩ : ∃ wp : World, wp = w2 := ⟨_, rfl⟩
            go_loopw [64, 11] (InRel (fun k V c => V + val (ys.take k) = val (zs.take k) + pw k * c) zs (L + 1) w.heap.size w) (fun i _ _ => L + 1 - (intOf i).toNat)
            case atStart => exact ⟨0, 0, zs, Nat.zero_le _, rfl, rfl, by decide, Hz.out, oz, Hown2.out, hb02, by simp [val], fun t ht => rfl⟩
            case round =>
              obtain ⟨k, cy2, zs2, hk2, rfl, rfl, hcy2, hz2, oz2, own2, hb2, hval2, hkeep2⟩ := hrel
              have Hv2 := Lib.hid hval2
              have Hz2 := Lib.hid hz2
              have Hown3 := Lib.hid own2
              have Hk2 := Lib.hid hkeep2
              clear hval2 hkeep2
              by_cases hlt : k < L + 1
              · have hcell := own2.cell (i := k) (by omega)
                have hfr := own2.frozen k
                have bz := oz2.getD k
                have by' := oy.getD k
                have hsub := sub64_at (nth zs2 k) (nth ys k) cy2 hcy2
                clear own2 hz2
                go_wp2_with fail
                refine (limb_any B L L ys k _ (by omega) Hy.out (sy.bel hb2)).mono ?_
                rintro e w' ⟨rfl, rfl⟩
                go_wp2_with fail
                refine ⟨InRel.step hlt Hz2.out oz2 Hown3.out hb2 (Nat.le_refl _) Hk2.out rfl rfl (subLo_lt _ _ _) rfl (subHi_le _ _ _) ?_, by simp [intOf]; omega⟩
                show _ + val (ys.take (k + 1)) = val (zs.take (k + 1)) + pw (k + 1) * _
                rw [val_take_succ ys, val_take_succ zs, ← Hk2.out k (Nat.le_refl _), pw_succ]
                exact sub_step _ _ _ _ _ _ _ bz by' hcy2 Hv2.out
              · obtain rfl : k = L + 1 := by omega
                clear own2 hz2
                go_wp2_with fail
                refine ⟨⟨j, zs2, by omega, rfl, Hz2.out, oz2, Hown3.out, hb2, ?_⟩, by simp [intOf]⟩
                have h1 := Hv2.out
                have h2 := Hdone.out
                have h3 := Hrs.out
                have h4 := Hge.out
                have h5 := val_lt oz2
                rw [Hz2.out] at h5
                rw [val_take_all zs2 (by have := Hz2.out; omega), val_take_all ys (by have := Hy.out; omega), val_take_all zs (by have := Hz.out; omega)] at h1
                rw [if_pos (by omega)] at h3
                have : cy2 = 0 ∨ cy2 = 1 := by omega
                rcases this with rfl | rfl <;> omega
          · rw [geB_no (by omega)]
            have Hge := Lib.hid hge
            clear hge
            go_wp2_with fail
            refine ⟨⟨j, zs, by omega, rfl, Hz.out, oz, Hown2.out, hb02, ?_⟩, by simp [intOf]⟩
            have h2 := Hdone.out
            have h3 := Hrs.out
            have h4 := Hge.out
            rw [if_neg (by omega)] at h3
            omega

set_option maxHeartbeats 400000 in
/-- nat.Rem, by 0 -/
theorem rem_zero (A B : Option Addr) (n c m d na L : Nat) (ys : List Nat) (w : World) (hn : n ≤ c) (hc : c ≤ maxLen) (hm : m ≤ d) (hd : d ≤ maxLen)
    (ea : min n 16 = na) (eb : min m 16 = L) (hy : ys.length = L) (oy : Ok ys) (sy : Sl w .u64 B ys) (h0 : val ys = 0) :
    Calls Try.prog 20 #[.slice A n c, .slice B m d] w fun e w' => e = .returned (.tuple #[.slice none 0 0, .int .i64 1]) ∧ w = w' := by
  have H1 := Lib.hid (cut_at A n c na w hn hc ea)
  have H2 := Lib.hid (cut_at B m d L w hm hd eb)
  have H3 := Lib.hid (bits_any B L L L ys w (Nat.le_refl _) (by unfold maxLen; omega) (by omega) hy oy sy)
  have hz : (((bitLen (val ys) : Nat) : Int) == 0) = true := by rw [h0]; rfl
  clear hy ea eb h0
  go_enter Try.func20, Try.ntmps20
  go_wp2_with fail
  refine (H1.out).mono ?_
  rintro e w' ⟨rfl, rfl⟩
  go_wp2_with fail
  refine (H2.out).mono ?_
  rintro e w' ⟨rfl, rfl⟩
  go_wp2_with fail
  refine (H3.out).mono ?_
  rintro e w' ⟨rfl, rfl⟩
  go_wp2_with fail
  go_ret2
  exact ⟨rfl, rfl⟩
end Go.Proofs.Ytfkpcmjmibbmbaa
