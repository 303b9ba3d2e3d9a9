import Derived.Test.YtfkpcmjmibbmbaaMontD
namespace Go.Proofs.Ytfkpcmjmibbmbaa
open Go.RowKit
set_option linter.unusedVariables false

theorem val_one (k : Nat) (hk : 0 < k) : val ((List.replicate k 0).set 0 1) = 1 := by
  obtain ⟨j, rfl⟩ : ∃ j, k = j + 1 := ⟨k - 1, by omega⟩
  rw [List.replicate_succ, List.set_cons_zero, val_cons, val_replicate]

set_option maxHeartbeats 400000 in
/-- mont.one -/
theorem one_any (M : Option Addr) (k cm : Nat) (w : World) (hk0 : 0 < k) (hk8 : k ≤ 8) :
    Calls Try.prog 31 #[.slice M k cm] w (RowPost k 1 w) := by
  have hmk := run_mk k (by omega)
  have ho := Own.new w 22 .u64 (List.replicate k 0)
  have hc := ho.cell (i := 0) (by simpa using hk0)
  have hf := ho.frozen 0
  have e : Hid ((lim .u64 (List.replicate k 0)).setIfInBounds 0 (.int .u64 1) = lim .u64 ((List.replicate k 0).set 0 1)) := Lib.hid (lim_set .u64 (List.replicate k 0) 0 1)
  clear ho
  go_enter Try.func31, Try.ntmps31
  go_wp2
  go_ret
  rw [e.out]
  exact ⟨_, _, rfl, Own.new w _ _ _, by simp, (Ok.replicate k).set (by decide) 0, val_one k hk0, (Below.refl _ _).alloc (Nat.le_refl _) _⟩

set_option maxHeartbeats 1000000 in
/-- mont.Into, of an element of a modulus -/
theorem minto_ok (A M : Option Addr) (k ca cm : Nat) (xs ms : List Nat) (w : World) (hca : k ≤ ca) (hca' : ca ≤ maxLen) (hcm : k ≤ cm) (hcm' : cm ≤ maxLen)
    (hm : ms.length = k) (ox : Ok xs) (om : Ok ms) (sx : Sl w .u64 A xs) (sm : Sl w .u64 M ms) (hM : IsMod ms) (hX : IsEl xs ms) :
    Calls Try.prog 16 #[.slice A k ca, .slice M k cm] w (ElPost k (fun v => v = val xs * pw k % val ms) w) := by
  have hx : xs.length = k := by rw [hX.1, hm]
  have hk0 : 0 < k := by have := hM.1; omega
  have hk8 : k ≤ 8 := by have := hM.2.1; omega
  have hmk := run_mk k (by omega)
  have C1 := Lib.hid (modB_yes hM ▸ modulus_any M k cm ms w hcm hcm' hm om sm)
  have C2 := Lib.hid (elB_yes hX ▸ element_any A M k k ca cm xs ms w hca hca' hcm hcm' hx hm hk8 ox om sx sm)
  obtain ⟨b, off, rfl, hlb, _⟩ := sx (by omega)
  have hown : (w.alloc (.cells (lim .u64 (List.replicate k 0)) 22)).ownsRow w.heap.size 22 1 (.slice (some ⟨w.heap.size, 0, none⟩) k k) k (u64s (List.replicate k 0)) := by
    have h := World.ownsRow_lit (base := w.heap.size) (e := 22) (size := 1) w (lim .u64 (List.replicate k 0)) k (Nat.le_refl _) (by unfold maxLen; omega) (by rw [lim_size, List.length_replicate, Nat.mul_one])
    have e : (lim .u64 (List.replicate k 0)).toList = u64s (List.replicate k 0) := by simp [lim, u64s]
    rw [e] at h
    exact h
  have hb1 := (Below.refl w.heap.size w).alloc (Nat.le_refl _) (.cells (lim .u64 (List.replicate k 0)) 22)
  have S1 := sx.bel hb1
  have HM := Lib.hid hM
  have Hx := Lib.hid hx
  have Hm := Lib.hid hm
  have Hown := Lib.hid hown
  obtain ⟨i0, hi, hz0, hz1, hz2⟩ := info_parts info_u64
  clear hX hM hx hm hown
  go_enter Try.func16, Try.ntmps16
  go_wp2_with fail
  refine (C1.out).mono ?_
  rintro e w' ⟨rfl, rfl⟩
  go_wp2_with fail
  refine (C2.out).mono ?_
  rintro e w' ⟨rfl, rfl⟩
  go_wp2_with (at_builtin; refine wpList_append_own _ rfl (.tmp 17) (.tmp 18) 26 rfl w.heap.size 22 i0 (.int .u64 0) 1 8 Try.underlying26 hi hz0 hz1 hz2 rfl (by decide) _ k (u64s (List.replicate k 0)) rfl Hown.out ⟨b, off, none⟩ k ca (u64s xs) rfl (by simp only [u64s, List.length_map, Hx.out, Nat.mul_one]) (sl_news S1) (u64s_one _) (by unfold maxLen; omega) (by omega) (by simp) ?_; intro v2 w2 hown2 hgr2 hnil2; have b2 := below_own hb1 Hown.out hgr2 (by simp) (Nat.le_refl _); obtain ⟨g2, cap2, rfl, hg2, hg2', hcap2, hcap2', hl2, s2⟩ := app_form (ne_nil _ _ _) hown2 hnil2; clear hnil2 hgr2 hown2)
  have HX2 := Lib.hid hl2
  have hv2 : val (List.replicate k 0 ++ xs) = val xs * pw k := by rw [val_append, val_replicate, List.length_replicate, Nat.zero_add, Nat.mul_comm]
  have HV2 := Lib.hid hv2
  have ok2 : Ok (List.replicate k 0 ++ xs) := (Ok.replicate k).append ox
  clear hl2 hv2 i0 hi hz0 hz1 hz2 hmk
  generalize List.replicate k 0 ++ xs = z2 at *
  refine (rem_any _ M (k + k) cap2 k cm (k + k) k z2 ms w2 hcap2 hcap2' hcm hcm' (by omega) (by omega) HX2.out Hm.out ok2 om s2 (sm.bel b2) (by have := HM.out.2.2.2; omega)).mono ?_
  rintro e w3 ⟨g3, z3, rfl, s3, l3, k3, v3, b3⟩
  have L3 := Lib.hid l3
  have V3 := Lib.hid (v3.trans (by rw [HV2.out]))
  clear l3 v3
  go_wp2_with fail
  go_ret2
  exact ⟨g3, z3, rfl, s3, L3.out, k3, V3.out, b2.trans (b3.mono b2.size)⟩

set_option maxHeartbeats 1000000 in
/-- mont.From, of an element of a modulus -/
theorem mfrom_ok (A M : Option Addr) (k ca cm : Nat) (xs ms : List Nat) (w : World) (hca : k ≤ ca) (hca' : ca ≤ maxLen) (hcm : k ≤ cm) (hcm' : cm ≤ maxLen)
    (hm : ms.length = k) (ox : Ok xs) (om : Ok ms) (sx : Sl w .u64 A xs) (sm : Sl w .u64 M ms) (hM : IsMod ms) (hX : IsEl xs ms) :
    Calls Try.prog 17 #[.slice A k ca, .slice M k cm] w (ElPost k (MulR (val xs) 1 (val ms) k) w) := by
  have hx : xs.length = k := by rw [hX.1, hm]
  have hk0 : 0 < k := by have := hM.1; omega
  have hk8 : k ≤ 8 := by have := hM.2.1; omega
  have C1 := Lib.hid (modB_yes hM ▸ modulus_any M k cm ms w hcm hcm' hm om sm)
  have C2 := Lib.hid (elB_yes hX ▸ element_any A M k k ca cm xs ms w hca hca' hcm hcm' hx hm hk8 ox om sx sm)
  have HM := Lib.hid hM
  have HX := Lib.hid hX
  have Hm := Lib.hid hm
  clear hX hM hx hm
  go_enter Try.func17, Try.ntmps17
  go_wp2_with fail
  refine (C1.out).mono ?_
  rintro e w' ⟨rfl, rfl⟩
  go_wp2_with fail
  refine (C2.out).mono ?_
  rintro e w' ⟨rfl, rfl⟩
  go_wp2_with fail
  refine (one_any M k cm w hk0 hk8).mono ?_
  rintro e w1 ⟨g1, z1, rfl, o1, l1, k1, v1, b1⟩
  have HZ : Hid (IsEl z1 ms) := Lib.hid ⟨by rw [l1, Hm.out], by rw [v1]; exact HM.out.2.2.2⟩
  have V1 := Lib.hid v1
  clear l1 v1
  go_wp2_with fail
  refine (mmul_ok A _ M k ca k cm xs z1 ms w1 hca hca' (Nat.le_refl _) (by unfold maxLen; omega) hcm hcm' Hm.out ox k1 om (sx.bel b1) (Sl.of_own o1) (sm.bel b1) HM.out HX.out HZ.out).mono ?_
  rintro e w2 ⟨g2, z2, rfl, s2, l2, k2, v2, b2⟩
  have L2 := Lib.hid l2
  have V2 := Lib.hid (V1.out ▸ v2)
  clear l2 v2
  go_wp2_with fail
  go_ret2
  exact ⟨g2, z2, rfl, s2, L2.out, k2, V2.out, b1.trans (b2.mono b1.size)⟩
end Go.Proofs.Ytfkpcmjmibbmbaa
