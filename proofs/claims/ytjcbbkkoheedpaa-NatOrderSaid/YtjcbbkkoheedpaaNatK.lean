import Derived.Test.YtjcbbkkoheedpaaNatJ
namespace Go.Proofs.Ytjcbbkkoheedpaa
open Go.RowKit
set_option linter.unusedVariables false

/-- A row handed back, as a slice that reads so. -/
def SlPost (L V : Nat) (w : World) (e : Ending) (w' : World) : Prop :=
  ∃ (g c : Nat) (zs : List Nat), e = .returned (.slice (some ⟨g, 0, none⟩) L c) ∧ L ≤ c ∧ c ≤ maxLen ∧ Sl w' .u64 (some ⟨g, 0, none⟩) zs ∧ zs.length = L ∧ Ok zs ∧ val zs = V ∧ Below w.heap.size w w'

/-- A row copied so far. -/
def CpRel (ys : List Nat) (L g : Nat) (w : World) (i : Value) (wr : World) : Prop :=
  ∃ (k : Nat) (zs : List Nat), k ≤ L ∧ i = .int .i64 (k : Int) ∧ zs.length = L + 1 ∧ Ok zs ∧ Own wr g 23 .u64 zs ∧ Below w.heap.size w wr ∧ val zs = val (ys.take k) ∧ ∀ t, k ≤ t → nth zs t = 0
def RRemRel (A M na L : Nat) (w : World) (i o : Value) (wr : World) : Prop :=
  ∃ (k g : Nat) (zs : List Nat), k ≤ 64 * na ∧ i = .int .i64 ((k : Int) - 1) ∧ o = .slice (some ⟨g, 0, none⟩) (L + 1) (L + 1) ∧ zs.length = L + 1 ∧ Ok zs ∧ Own wr g 23 .u64 zs ∧ Below w.heap.size w wr ∧ val zs = A / 2 ^ k % M

set_option maxHeartbeats 1000000 in
/-- chirographref01.Rem, by a number that is not 0 -/
theorem rrem_any (A B : Option Addr) (n c m d na L : Nat) (xs ys : List Nat) (w : World) (hn : n ≤ c) (hc : c ≤ maxLen) (hm : m ≤ d) (hd : d ≤ maxLen)
    (ea : min n 16 = na) (eb : min m 16 = L) (hx : xs.length = na) (hy : ys.length = L) (ox : Ok xs) (oy : Ok ys) (sx : Sl w .u64 A xs) (sy : Sl w .u64 B ys) (hpos : 0 < val ys) :
    Calls Try.prog 28 #[.slice A n c, .slice B m d] w (SlPost L (val xs % val ys) w) := by
  have hna : na ≤ 16 := by omega
  have hL : L ≤ 16 := by omega
  have hmk := run_mk (L + 1) (by omega)
  have H1 := Lib.hid (rcut_any A n c na w hn hc ea)
  have H2 := Lib.hid (rcut_any B m d L w hm hd eb)
  have Hx := Lib.hid hx
  have Hy := Lib.hid hy
  have Hlt := Lib.hid (show val ys < pw L by have := val_lt oy; rwa [hy] at this)
  have hA : val xs < 2 ^ (64 * na) := by have := val_lt ox; rwa [hx, pw_two] at this
  have hbase : val xs / 2 ^ (64 * na) % val ys = 0 := by rw [Nat.div_eq_of_lt hA, Nat.zero_mod]
  have Hbase := Lib.hid hbase
  clear hx hy ea eb hA hbase
  go_enter Try.func28, Try.ntmps28
  go_wp2_with fail
  refine (H1.out).mono ?_
  rintro e w' ⟨c', hc1, hc2, rfl, rfl⟩
  go_wp2_with fail
  refine (H2.out).mono ?_
  rintro e w' ⟨d', hd1, hd2, rfl, rfl⟩
  have hmk' : ∀ w : World, (Instr.makeSlice 22 (.int .i64 ((L : Int) + 1)) (.int .i64 ((L : Int) + 1))).run Try.prog w = .ok (.slice (some ⟨w.heap.size, 0, none⟩) (L + 1) (L + 1)) (w.alloc (.cells (lim .u64 (List.replicate (L + 1) 0)) 23)) := hmk
  clear hmk
  go_wp2_with fail
  go_loopw [20] (CpRel ys L w.heap.size w) (fun i _ => L - (intOf i).toNat)
  case atStart => exact ⟨0, _, Nat.zero_le _, rfl, List.length_replicate, Ok.replicate _, Own.new _ _ _ _, (Below.refl _ _).alloc (Nat.le_refl _) _, by rw [val_replicate]; rfl, fun t _ => nth_replicate _ _⟩
  case round =>
    obtain ⟨k, zs, hk, rfl, hz, oz, own, hb, hval, hkeep⟩ := hrel
    have Hv := Lib.hid hval
    have Hz := Lib.hid hz
    have Hown := Lib.hid own
    have Hk := Lib.hid hkeep
    clear hval hkeep
    by_cases hlt : k < L
    · obtain ⟨ba, off, rfl, hlb, hcb⟩ := sy.at2 hb (by have := Hy.out; omega)
      have hc1 := hcb k (by have := Hy.out; omega)
      have hcell := own.cell (i := k) (by omega)
      have hfr := own.frozen k
      clear own hz hcb
      go_wp2_with fail
      refine ⟨⟨k + 1, zs.set k (nth ys k), by omega, rfl, by simpa using Hz.out, oz.set (oy.getD k) k, Hown.out.set k _, hb.setCell (Nat.le_refl _) _, ?_, ?_⟩, by simp [intOf]; omega⟩
      · have h1 := val_set (l := zs) (k := k) (by have := Hz.out; omega) (nth ys k)
        rw [Hk.out k (Nat.le_refl _), Nat.mul_zero, Nat.add_zero, Hv.out] at h1
        rw [h1, val_take_succ]
      · intro t ht
        rw [nth_set (by have := Hz.out; omega), if_neg (by omega)]
        exact Hk.out t (by omega)
    · obtain rfl : k = L := by omega
      have hvw : val zs = val ys := by rw [Hv.out, val_take_all ys (by have := Hy.out; omega)]
      have Hvw := Lib.hid hvw
      clear own hz hvw
      go_wp2_with fail
      clear hmk'
      obtain ⟨wo, rfl⟩ : ∃ wo : World, wo = wr := ⟨_, rfl⟩
      go_loopw [9, 8] (RRemRel (val xs) (val ys) na k wo) (fun i _ _ => (intOf i + 1).toNat)
      case atStart => exact ⟨64 * na, _, _, Nat.le_refl _, by simp, rfl, List.length_replicate, Ok.replicate _, Own.new _ _ _ _, (Below.refl _ _).alloc (Nat.le_refl _) _, by rw [val_replicate, Hbase.out]⟩
      case round =>
        obtain ⟨q, g, zs0, hq, hi, rfl, hz0, oz0, own0, hb0, hval0⟩ := hrel
        have Hv0 := Lib.hid hval0
        have Hz0 := Lib.hid hz0
        have Hown0 := Lib.hid own0
        have hbw := hb.trans (hb0.mono hb.size)
        clear hval0 hz0 own0
        rcases q with _ | j
        · subst hi
          go_wp2
          go_ret
          have h := Hv0.out
          rw [Nat.pow_zero, Nat.div_one] at h
          have hl := Nat.lt_trans (Nat.mod_lt (val xs) hpos) Hlt.out
          refine ⟨_, k + 1, zs0.take k, rfl, by omega, by unfold maxLen; omega, (Sl.of_own Hown0.out).take k, by rw [List.length_take, Hz0.out]; omega, oz0.take k, ?_, hbw⟩
          rw [val_take oz0, h, Nat.mod_eq_of_lt hl]
        · obtain rfl : _ = Value.int .i64 (j : Int) := hi.trans (int_eq (by omega))
          clear hi
          have hrs := rem_step (val xs) (val ys) j
          have hrl := rem_lt (Nat.mod_lt (val xs / 2 ^ (j + 1)) hpos) (bitOf_lt (val xs) j)
          have hR := Nat.mod_lt (val xs / 2 ^ (j + 1)) hpos
          have Hrs := Lib.hid (hrs.symm.trans hrl)
          have HR := Lib.hid hR
          have hbl := bitOf_lt (val xs) j
          clear hrs hrl hR
          go_wp2_with fail
          refine (bit_any A na _ xs j _ (by omega) (by omega) Hx.out ox (sx.bel hbw)).mono ?_
          rintro e w' ⟨rfl, rfl⟩
          rw [Int.toNat_natCast]
          go_wp2_with fail
          refine (double_any _ (k + 1) _ _ zs0 _ (by omega) Hz0.out oz0 (Sl.of_own Hown0.out) (by omega) (by omega)).mono ?_
          rintro e w1 ⟨g1, zs1, rfl, own1, hz1, oz1, hv1, hb1⟩
          have hdb : val zs1 = 2 * (val xs / 2 ^ (j + 1) % val ys) + bitOf (val xs) j := by
            have h1 := HR.out
            have h2 := Hlt.out
            rw [hv1, Hv0.out, Int.toNat_natCast, Nat.mod_eq_of_lt]
            rw [pw_succ]; omega
          have Hdb := Lib.hid hdb
          have Hz1 := Lib.hid hz1
          have Hown1 := Lib.hid own1
          have hb01 := hb0.trans (hb1.mono hb0.size)
          clear hz1 hv1 own1 hb1 hdb hbl
          have Hwide : Hid (Sl w1 .u64 (some ⟨w.heap.size, 0, none⟩) zs) := Lib.hid ((Sl.of_own Hown.out).bel hb01)
          go_wp2_with fail
          refine (less_any _ _ (k + 1) _ _ zs1 zs w1 (by omega) Hz1.out Hz.out oz1 oz (Sl.of_own Hown1.out) Hwide.out).mono ?_
          rintro e w2 ⟨rfl, hb2⟩
          have Hown2 := Lib.hid (Hown1.out.bel hb2)
          have Hwide2 := Lib.hid (Hwide.out.bel hb2)
          have hb02 := hb01.trans (hb2.mono hb01.size)
          clear hb2
          by_cases hge : val zs ≤ val zs1
          · rw [ltB_no hge]
            have Hge := Lib.hid hge
            clear hge
            go_wp2_with fail
            refine (minus_any _ _ (k + 1) _ _ zs1 zs w2 (by omega) Hz1.out Hz.out oz1 oz (Sl.of_own Hown2.out) Hwide2.out Hge.out).mono ?_
            rintro e w3 ⟨g3, zs3, rfl, own3, hz3, oz3, hv3, hb3⟩
            have Hz3 := Lib.hid hz3
            have Hv3 := Lib.hid hv3
            have Hown3 := Lib.hid own3
            have hb03 := hb02.trans (hb3.mono hb02.size)
            clear hz3 hv3 own3 hb3
            go_wp2_with fail
            refine ⟨⟨j, g3, zs3, by omega, rfl, rfl, Hz3.out, oz3, Hown3.out, hb03, ?_⟩, by simp [intOf]⟩
            have h1 := Hv3.out
            have h2 := Hdb.out
            have h3 := Hrs.out
            have h4 := Hge.out
            have h5 := Hvw.out
            rw [if_pos (by omega)] at h3
            omega
          · rw [ltB_yes (by omega)]
            have Hge := Lib.hid hge
            clear hge
            go_wp2_with fail
            refine ⟨⟨j, g1, zs1, by omega, rfl, rfl, Hz1.out, oz1, Hown2.out, hb02, ?_⟩, by simp [intOf]⟩
            have h2 := Hdb.out
            have h3 := Hrs.out
            have h4 := Hge.out
            have h5 := Hvw.out
            rw [if_neg (by omega)] at h3
            omega
end Go.Proofs.Ytjcbbkkoheedpaa
