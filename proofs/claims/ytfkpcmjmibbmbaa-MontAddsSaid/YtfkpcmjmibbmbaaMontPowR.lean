import Derived.Test.YtfkpcmjmibbmbaaMontI
namespace Go.Proofs.Ytfkpcmjmibbmbaa
open Go.RowKit
set_option linter.unusedVariables false

def RpRel (X E M k : Nat) (w : World) (i o : Value) (wr : World) : Prop :=
  ∃ (q g : Nat) (zs : List Nat), q ≤ bitLen E ∧ i = .int .i64 ((q : Int) - 1) ∧ o = .slice (some ⟨g, 0, none⟩) k k ∧ zs.length = k ∧ Ok zs ∧ Own wr g 22 .u64 zs ∧ Below w.heap.size w wr ∧ val zs = X ^ (E / 2 ^ q) % M
theorem rp_sq {X E M j v : Nat} (h : v = X ^ (E / 2 ^ (j + 1)) % M) (hb : bitOf E j = 0) : v * v % M = X ^ (E / 2 ^ j) % M := by
  have hd := div_pow_succ E j
  rw [hb] at hd
  obtain ⟨q, hq⟩ : ∃ q, E / 2 ^ (j + 1) = q := ⟨_, rfl⟩
  rw [hq] at h hd
  rw [hd, h, ← Nat.mul_mod, ← Nat.pow_add]
  congr 2; omega
theorem rp_mul {X E M j v u : Nat} (h : v = X ^ (E / 2 ^ (j + 1)) % M) (hu : u = v * v % M) (hb : bitOf E j = 1) : u * X % M = X ^ (E / 2 ^ j) % M := by
  have hd := div_pow_succ E j
  rw [hb] at hd
  obtain ⟨q, hq⟩ : ∃ q, E / 2 ^ (j + 1) = q := ⟨_, rfl⟩
  rw [hq] at h hd
  rw [hd, Nat.pow_succ, hu, h, ← Nat.mul_mod, ← Nat.pow_add, Nat.mul_mod, Nat.mod_mod, ← Nat.mul_mod]
  congr 3; omega

set_option maxHeartbeats 1000000 in
/-- chirographref02.Pow -/
theorem rpow_any (A E M : Option Addr) (k n ca ce cm : Nat) (xs es ms : List Nat) (w : World) (hca : k ≤ ca) (hca' : ca ≤ maxLen) (hce : n ≤ ce) (hce' : ce ≤ maxLen) (hcm : k ≤ cm) (hcm' : cm ≤ maxLen)
    (hn : n ≤ 16) (hm : ms.length = k) (he : es.length = n) (ox : Ok xs) (oe : Ok es) (om : Ok ms) (sx : Sl w .u64 A xs) (se : Sl w .u64 E es) (sm : Sl w .u64 M ms) (hM : IsMod ms) (hX : IsEl xs ms) :
    Calls Try.prog 24 #[.slice A k ca, .slice E n ce, .slice M k cm] w (RowPost k (val xs ^ val es % val ms) w) := by
  have hx : xs.length = k := by rw [hX.1, hm]
  have hk0 : 0 < k := by have := hM.1; omega
  have hk8 : k ≤ 8 := by have := hM.2.1; omega
  have hlx := hX.2
  have hm1 := hM.2.2.2
  have hmk := run_mk k (by omega)
  have hb0 := (Below.refl w.heap.size w).alloc (Nat.le_refl _) (.cells (lim .u64 (List.replicate k 0)) 22)
  have HE : Hid ((lim .u64 (List.replicate k 0)).setIfInBounds 0 (.int .u64 1) = lim .u64 ((List.replicate k 0).set 0 1)) := Lib.hid (lim_set .u64 (List.replicate k 0) 0 1)
  have own1 := Own.new w 22 .u64 ((List.replicate k 0).set 0 1)
  have hb1 := (Below.refl w.heap.size w).alloc (Nat.le_refl _) (.cells (lim .u64 ((List.replicate k 0).set 0 1)) 22)
  have D0 := Lib.hid (rbits_any E n ce n es _ hce hce' (by omega) he oe (se.bel hb1))
  have hbase : val ((List.replicate k 0).set 0 1) = val xs ^ (val es / 2 ^ bitLen (val es)) % val ms := by
    rw [val_one k hk0, Nat.div_eq_of_lt (bitLen_lt _), Nat.pow_zero, Nat.mod_eq_of_lt hm1]
  have hbl := bitLen_bound oe he
  have hcell := (Own.new w 22 .u64 (List.replicate k 0)).cell (i := 0) (by simp; omega)
  have hfr := (Own.new w 22 .u64 (List.replicate k 0)).frozen 0
  have Hbase := Lib.hid hbase
  have Hx := Lib.hid hx
  have He := Lib.hid he
  have Hm := Lib.hid hm
  have Hl := Lib.hid hlx
  have Own1 := Lib.hid own1
  have Hm1 := Lib.hid hm1
  clear hx he hm hlx hbase own1 hM hX hb0 hm1
  go_enter Try.func24, Try.ntmps24
  go_wp2_with fail
  clear hmk hcell hfr
  rw [HE.out]
  refine (D0.out).mono ?_
  rintro e w' ⟨rfl, rfl⟩
  go_wp2_with fail
  go_loopw [8, 7] (RpRel (val xs) (val es) (val ms) k w) (fun i _ _ => (intOf i + 1).toNat)
  case atStart => exact ⟨bitLen (val es), _, _, Nat.le_refl _, rfl, rfl, by simp, (Ok.replicate k).set (by decide) 0, Own1.out, hb1, Hbase.out⟩
  case round =>
    obtain ⟨q, g, zs, hq, hi, rfl, hz, oz, own, hb, hval⟩ := hrel
    have Hv := Lib.hid hval
    have Hz := Lib.hid hz
    have Hown := Lib.hid own
    clear hval hz own
    rcases q with _ | j
    · subst hi
      go_wp2
      go_ret
      have h := Hv.out
      rw [Nat.pow_zero, Nat.div_one] at h
      exact ⟨g, zs, rfl, Hown.out, Hz.out, oz, h, hb⟩
    · obtain rfl : _ = Value.int .i64 (j : Int) := hi.trans (int_eq (by omega))
      clear hi
      have hpos : 0 < val ms := by have := Hl.out; omega
      have hlz : val zs < val ms := by rw [Hv.out]; exact Nat.mod_lt _ hpos
      have D1 := Lib.hid (mulmod_any _ _ M k k k cm zs zs ms wr hk8 (Nat.le_refl _) (by unfold maxLen; omega) (Nat.le_refl _) (by unfold maxLen; omega) hcm hcm' Hz.out Hz.out Hm.out oz oz om (Sl.of_own Hown.out) (Sl.of_own Hown.out) (sm.bel hb) hlz)
      clear hlz
      go_wp2_with fail
      refine (D1.out).mono ?_
      rintro e w1 ⟨g1, z1, rfl, o1, l1, k1, v1, b1⟩
      have L1 := Lib.hid l1
      have V1 := Lib.hid v1
      have hb1' := hb.trans (b1.mono hb.size)
      clear l1 v1
      go_wp2_with fail
      refine (bit_any E n ce es j w1 (by omega) (by omega) He.out oe (se.bel hb1')).mono ?_
      rintro e w' ⟨rfl, rfl⟩
      rw [Int.toNat_natCast]
      have hbt := bitOf_lt (val es) j
      by_cases hbit : bitOf (val es) j = 1
      · have ht : (((bitOf (val es) j : Nat) : Int) == 1) = true := by rw [hbit]; rfl
        have hl1 : val z1 < val ms := by rw [V1.out]; exact Nat.mod_lt _ hpos
        have Hbit := Lib.hid hbit
        have D2 := Lib.hid (mulmod_any _ A M k k ca cm z1 xs ms w1 hk8 (Nat.le_refl _) (by unfold maxLen; omega) hca hca' hcm hcm' L1.out Hx.out Hm.out k1 ox om (Sl.of_own o1) (sx.bel hb1') (sm.bel hb1') Hl.out)
        clear hbit hbt hl1
        go_wp2_with fail
        refine (D2.out).mono ?_
        rintro e w2 ⟨g2, z2, rfl, o2, l2, k2, v2, b2⟩
        have L2 := Lib.hid l2
        have V2 := Lib.hid v2
        have hb2 := hb1'.trans (b2.mono hb1'.size)
        clear l2 v2
        go_wp2_with fail
        refine ⟨⟨j, g2, z2, by omega, rfl, rfl, L2.out, k2, o2, hb2, ?_⟩, by simp [intOf]⟩
        rw [V2.out]
        exact rp_mul Hv.out V1.out Hbit.out
      · have hb0 : bitOf (val es) j = 0 := by omega
        have ht : (((bitOf (val es) j : Nat) : Int) == 1) = false := by rw [hb0]; rfl
        have Hbit := Lib.hid hb0
        clear hbit hbt hb0
        go_wp2_with fail
        refine ⟨⟨j, g1, z1, by omega, rfl, rfl, L1.out, k1, o1, hb1', ?_⟩, by simp [intOf]⟩
        rw [V1.out]
        exact rp_sq Hv.out Hbit.out
end Go.Proofs.Ytfkpcmjmibbmbaa
