import Derived.Test.YtfkpcmjmibbmbaaMontF
namespace Go.Proofs.Ytfkpcmjmibbmbaa
open Go.RowKit
set_option linter.unusedVariables false

/-- Twice or a sum, less the modulus if it is not below: the remainder. -/
theorem red_sum {S M P z c : Nat} (hz : z < P) (hM : M < P) (hc : c ≤ 1) (h : z + P * c = S) (hS : S < 2 * M) : (c = 1 ∨ M ≤ z ↔ M ≤ S) ∧ S % M = if M ≤ S then S - M else S := by
  have : c = 0 ∨ c = 1 := by omega
  refine ⟨by rcases this with rfl | rfl <;> omega, ?_⟩
  split
  · rw [Nat.mod_eq_sub_mod (by omega), Nat.mod_eq_of_lt (by omega)]
  · exact Nat.mod_eq_of_lt (by omega)
theorem red_sub {S M P z c d y : Nat} (hz : z < P) (hM : M < P) (hc : c ≤ 1) (h : z + P * c = S) (hS : S < 2 * M) (hge : M ≤ S) (hy : y < P) (hd : d ≤ 1) (hv : y + M = z + P * d) : y = S % M := by
  rw [Nat.mod_eq_sub_mod hge, Nat.mod_eq_of_lt (by omega)]
  have h1 : c = 0 ∨ c = 1 := by omega
  have h2 : d = 0 ∨ d = 1 := by omega
  rcases h1 with rfl | rfl <;> rcases h2 with rfl | rfl <;> omega

set_option maxHeartbeats 1000000 in
/-- chirographref02.Twice -/
theorem twice_any (A M : Option Addr) (k ca cm : Nat) (xs ms : List Nat) (w : World) (hk8 : k ≤ 8) (hcm : k ≤ cm) (hcm' : cm ≤ maxLen) (hx : xs.length = k) (hm : ms.length = k) (ox : Ok xs) (om : Ok ms) (sx : Sl w .u64 A xs) (sm : Sl w .u64 M ms)
    (hlt : val xs < val ms) :
    Calls Try.prog 32 #[.slice A k ca, .slice M k cm] w (RowPost k (2 * val xs % val ms) w) := by
  have hmk := run_mk k (by omega)
  have Hx := Lib.hid hx
  have Hm := Lib.hid hm
  have Hlt := Lib.hid hlt
  clear hx hm hlt
  go_enter Try.func32, Try.ntmps32
  go_wp2
  clear hmk
  go_loopw [16, 6] (MkRel (fun j => 2 * val (xs.take j)) k w.heap.size w) (fun i _ _ => k - (intOf i).toNat)
  case atStart => exact MkRel.start (c := 0) (by omega) k w (by simp [val])
  case round =>
    obtain ⟨j, cy, zs, hj, rfl, rfl, hcy, hz, oz, own, hb, hval⟩ := hrel
    have Hv := Lib.hid hval
    have Hz := Lib.hid hz
    have Hown := Lib.hid own
    clear hval
    by_cases hl : j < k
    · obtain ⟨ba, off, rfl, hlb, hcb⟩ := sx.at2 hb (by have := Hx.out; omega)
      have hc1 := hcb j (by have := Hx.out; omega)
      have hcell := own.cell (i := j) (by omega)
      have hfr := own.frozen j
      have bx := ox.getD j
      clear hcb own hz sx
      go_wp2
      refine ⟨MkRel.step (S := 2 * nth xs j + cy) hl Hz.out oz Hown.out hb (Nat.le_refl _) rfl ?_ ?_ (by omega) ?_, by simp [intOf]; omega⟩
      · rw [IntKind.wrap_u64, IntKind.wrap_u64]; omega
      · omega
      · show _ = 2 * val (xs.take (j + 1))
        rw [val_take_succ, Nat.mul_add, Nat.mul_add]
        have h := Hv.out
        have e := Nat.mul_left_comm (pw j) 2 (nth xs j)
        simp only at h
        omega
    · obtain rfl : j = k := by omega
      have hS : val zs + pw j * cy = 2 * val xs := by
        have h := Hv.out
        simp only at h
        rwa [val_take_all zs (by omega), val_take_all xs (by have := Hx.out; omega)] at h
      have hzl : val zs < pw j := by have := val_lt oz; rwa [hz] at this
      have hml : val ms < pw j := by have := val_lt om; rwa [Hm.out] at this
      have hS2 : 2 * val xs < 2 * val ms := by have := Hlt.out; omega
      have HS := Lib.hid hS
      have Hzl := Lib.hid hzl
      have Hml := Lib.hid hml
      have HS2 := Lib.hid hS2
      have D1 := Lib.hid (fun w' (s1 : Sl w' .u64 (some ⟨w.heap.size, 0, none⟩) zs) (sm : Sl w' .u64 M ms) => less_any (some ⟨w.heap.size, 0, none⟩) M j j cm zs ms w' (by omega) Hz.out Hm.out oz om s1 sm)
      have D2 := Lib.hid (fun w' (s1 : Sl w' .u64 (some ⟨w.heap.size, 0, none⟩) zs) (sm : Sl w' .u64 M ms) => rsub_any (some ⟨w.heap.size, 0, none⟩) M j j j cm j j j zs ms w' (Nat.le_refl _) (by unfold maxLen; omega) hcm hcm' (by omega) (by omega) (Nat.max_self j) Hz.out Hm.out oz om s1 sm)
      have s1 := Sl.of_own Hown.out
      have sm1 := sm.bel hb
      have hcase : cy = 0 ∨ cy = 1 := by omega
      clear own hz hS hzl hml hS2
      rcases hcase with rfl | rfl
      · by_cases hge : val ms ≤ val zs
        · have Hge := Lib.hid hge
          have D1' := Lib.hid (ltB_no hge ▸ D1.out wr s1 sm1)
          clear hge
          go_wp2_with fail
          refine (D1'.out).mono ?_
          rintro e w1 ⟨rfl, b1⟩
          have hb1 := hb.trans (b1.mono hb.size)
          go_wp2_with fail
          refine (D2.out w1 (s1.bel b1) (sm1.bel b1)).mono ?_
          rintro e w2 ⟨g2, z2, c2, rfl, o2, l2, k2, hc2, v2, b2⟩
          have L2 := Lib.hid l2
          have V2 := Lib.hid v2
          have hb2 := hb1.trans (b2.mono hb1.size)
          clear l2 v2
          go_wp2_with fail
          go_ret
          refine ⟨g2, z2, rfl, o2, L2.out, k2, ?_, hb2⟩
          exact red_sub Hzl.out Hml.out hcy HS.out HS2.out (by have := HS.out; have := Hge.out; omega) (by have := val_lt k2; rwa [L2.out] at this) hc2 V2.out
        · have Hge := Lib.hid hge
          have D1' := Lib.hid (ltB_yes (show val zs < val ms by omega) ▸ D1.out wr s1 sm1)
          clear hge
          go_wp2_with fail
          refine (D1'.out).mono ?_
          rintro e w1 ⟨rfl, b1⟩
          have hb1 := hb.trans (b1.mono hb.size)
          go_wp2_with fail
          go_ret
          refine ⟨_, zs, rfl, Hown.out.bel b1, Hz.out, oz, ?_, hb1⟩
          have h1 := HS.out
          have h2 := Hge.out
          rw [Nat.mod_eq_of_lt (by omega)]
          omega
      · go_wp2_with fail
        refine (D2.out wr s1 sm1).mono ?_
        rintro e w2 ⟨g2, z2, c2, rfl, o2, l2, k2, hc2, v2, b2⟩
        have L2 := Lib.hid l2
        have V2 := Lib.hid v2
        have hb2 := hb.trans (b2.mono hb.size)
        clear l2 v2
        go_wp2_with fail
        go_ret
        refine ⟨g2, z2, rfl, o2, L2.out, k2, ?_, hb2⟩
        exact red_sub Hzl.out Hml.out hcy HS.out HS2.out (by have := HS.out; have := Hml.out; omega) (by have := val_lt k2; rwa [L2.out] at this) hc2 V2.out

set_option maxHeartbeats 1000000 in
/-- chirographref02.Plus -/
theorem mplus_any (A B M : Option Addr) (k ca cb cm : Nat) (xs ys ms : List Nat) (w : World) (hk8 : k ≤ 8) (hca : k ≤ ca) (hca' : ca ≤ maxLen) (hcb : k ≤ cb) (hcb' : cb ≤ maxLen) (hcm : k ≤ cm) (hcm' : cm ≤ maxLen)
    (hx : xs.length = k) (hy : ys.length = k) (hm : ms.length = k) (ox : Ok xs) (oy : Ok ys) (om : Ok ms) (sx : Sl w .u64 A xs) (sy : Sl w .u64 B ys) (sm : Sl w .u64 M ms) (hlx : val xs < val ms) (hly : val ys < val ms) :
    Calls Try.prog 48 #[.slice A k ca, .slice B k cb, .slice M k cm] w (RowPost k ((val xs + val ys) % val ms) w) := by
  have D0 := Lib.hid (radd_any A B k ca k cb k k k xs ys w hca hca' hcb hcb' (by omega) (by omega) (Nat.max_self k) hx hy ox oy sx sy)
  have Hm := Lib.hid hm
  have HS2 := Lib.hid (show val xs + val ys < 2 * val ms by omega)
  clear hx hy hm hlx hly
  go_enter Try.func48, Try.ntmps48
  go_wp2_with fail
  refine (D0.out).mono ?_
  rintro e w1 ⟨g1, zs, cy, rfl, o1, l1, oz, hcy, v1, b1⟩
  have hzl : val zs < pw k := by have := val_lt oz; rwa [l1] at this
  have hml : val ms < pw k := by have := val_lt om; rwa [Hm.out] at this
  have HS := Lib.hid v1
  have Hz := Lib.hid l1
  have Hzl := Lib.hid hzl
  have Hml := Lib.hid hml
  have D1 := Lib.hid (fun w' (s1 : Sl w' .u64 (some ⟨g1, 0, none⟩) zs) (sm : Sl w' .u64 M ms) => less_any (some ⟨g1, 0, none⟩) M k k cm zs ms w' (by omega) Hz.out Hm.out oz om s1 sm)
  have D2 := Lib.hid (fun w' (s1 : Sl w' .u64 (some ⟨g1, 0, none⟩) zs) (sm : Sl w' .u64 M ms) => rsub_any (some ⟨g1, 0, none⟩) M k k k cm k k k zs ms w' (Nat.le_refl _) (by unfold maxLen; omega) hcm hcm' (by omega) (by omega) (Nat.max_self k) Hz.out Hm.out oz om s1 sm)
  have s1 := Sl.of_own o1
  have sm1 := sm.bel b1
  have hcase : cy = 0 ∨ cy = 1 := by omega
  clear l1 v1 hzl hml
  rcases hcase with rfl | rfl
  · by_cases hge : val ms ≤ val zs
    · have Hge := Lib.hid hge
      have D1' := Lib.hid (ltB_no hge ▸ D1.out w1 s1 sm1)
      clear hge
      go_wp2_with fail
      refine (D1'.out).mono ?_
      rintro e w2 ⟨rfl, b2⟩
      have hb2 := b1.trans (b2.mono b1.size)
      go_wp2_with fail
      refine (D2.out w2 (s1.bel b2) (sm1.bel b2)).mono ?_
      rintro e w3 ⟨g3, z3, c3, rfl, o3, l3, k3, hc3, v3, b3⟩
      have L3 := Lib.hid l3
      have V3 := Lib.hid v3
      have hb3 := hb2.trans (b3.mono hb2.size)
      clear l3 v3
      go_wp2_with fail
      go_ret
      refine ⟨g3, z3, rfl, o3, L3.out, k3, ?_, hb3⟩
      exact red_sub Hzl.out Hml.out hcy HS.out HS2.out (by have := HS.out; have := Hge.out; omega) (by have := val_lt k3; rwa [L3.out] at this) hc3 V3.out
    · have Hge := Lib.hid hge
      have D1' := Lib.hid (ltB_yes (show val zs < val ms by omega) ▸ D1.out w1 s1 sm1)
      clear hge
      go_wp2_with fail
      refine (D1'.out).mono ?_
      rintro e w2 ⟨rfl, b2⟩
      have hb2 := b1.trans (b2.mono b1.size)
      go_wp2_with fail
      go_ret
      refine ⟨_, zs, rfl, o1.bel b2, Hz.out, oz, ?_, hb2⟩
      have h1 := HS.out
      have h2 := Hge.out
      rw [Nat.mod_eq_of_lt (by omega)]
      omega
  · go_wp2_with fail
    refine (D2.out w1 s1 sm1).mono ?_
    rintro e w2 ⟨g2, z2, c2, rfl, o2, l2, k2, hc2, v2, b2⟩
    have L2 := Lib.hid l2
    have V2 := Lib.hid v2
    have hb2 := b1.trans (b2.mono b1.size)
    clear l2 v2
    go_wp2_with fail
    go_ret
    refine ⟨g2, z2, rfl, o2, L2.out, k2, ?_, hb2⟩
    exact red_sub Hzl.out Hml.out hcy HS.out HS2.out (by have := HS.out; have := Hml.out; omega) (by have := val_lt k2; rwa [L2.out] at this) hc2 V2.out
end Go.Proofs.Ytfkpcmjmibbmbaa
