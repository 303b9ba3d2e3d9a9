import Derived.Test.YtfkpcmjmibbmbaaMontC
namespace Go.Proofs.Ytfkpcmjmibbmbaa
open Go.RowKit
set_option linter.unusedVariables false

/-- An element handed back, with OK: a row of k limbs that is below the modulus and meets R. -/
def ElPost (k : Nat) (R : Nat → Prop) (w : World) (e : Ending) (w' : World) : Prop :=
  ∃ (g : Nat) (zs : List Nat), e = .returned (.tuple #[.slice (some ⟨g, 0, none⟩) k k, .int .i64 0]) ∧ Sl w' .u64 (some ⟨g, 0, none⟩) zs ∧ zs.length = k ∧ Ok zs ∧ R (val zs) ∧ Below w.heap.size w w'
def ErrPost (w : World) (e : Ending) (w' : World) : Prop := e = .returned (.tuple #[.slice none 0 0, .int .i64 1]) ∧ Below w.heap.size w w'

/-- What a Montgomery product is. -/
def MulR (A B M k : Nat) (v : Nat) : Prop := v < M ∧ v * pw k % M = A * B % M

theorem below_grown_own {a w w' : World} {g : Nat} (h : Below a.heap.size a w) (hg : w.grownBy w' (some g)) (hge : a.heap.size ≤ g) : Below a.heap.size a w' :=
  h.grown hg h.size fun k hk => by injection hk with hk; omega

set_option maxHeartbeats 1000000 in
/-- mont.Mul, of elements of a modulus -/
theorem mmul_ok (A B M : Option Addr) (k ca cb cm : Nat) (xs ys ms : List Nat) (w : World) (hca : k ≤ ca) (hca' : ca ≤ maxLen) (hcb : k ≤ cb) (hcb' : cb ≤ maxLen) (hcm : k ≤ cm) (hcm' : cm ≤ maxLen)
    (hm : ms.length = k) (ox : Ok xs) (oy : Ok ys) (om : Ok ms) (sx : Sl w .u64 A xs) (sy : Sl w .u64 B ys) (sm : Sl w .u64 M ms) (hM : IsMod ms) (hX : IsEl xs ms) (hY : IsEl ys ms) :
    Calls Try.prog 12 #[.slice A k ca, .slice B k cb, .slice M k cm] w (ElPost k (MulR (val xs) (val ys) (val ms) k) w) := by
  have hx : xs.length = k := by rw [hX.1, hm]
  have hy : ys.length = k := by rw [hY.1, hm]
  have hk0 : 0 < k := by have := hM.1; omega
  have hk8 : k ≤ 8 := by have := hM.2.1; omega
  have hmk := run_mk k (by omega)
  have C1 := Lib.hid (modB_yes hM ▸ modulus_any M k cm ms w hcm hcm' hm om sm)
  have C2 := Lib.hid (elB_yes hX ▸ element_any A M k k ca cm xs ms w hca hca' hcm hcm' hx hm hk8 ox om sx sm)
  have C3 := Lib.hid (elB_yes hY ▸ element_any B M k k cb cm ys ms w hcb hcb' hcm hcm' hy hm hk8 oy om sy sm)
  obtain ⟨b, off, rfl, hlb, hcell⟩ := sm (by omega)
  have hm0 := hcell 0 (by omega)
  rw [Nat.add_zero] at hm0
  have hm0l := om.getD 0
  have HM := Lib.hid hM
  have HY := Lib.hid hY.2
  have Hx := Lib.hid hx
  have Hy := Lib.hid hy
  have Hm := Lib.hid hm
  clear hX hY hM hx hy hm hcell
  go_enter Try.func12, Try.ntmps12
  go_wp2_with fail
  refine (C1.out).mono ?_
  rintro e w' ⟨rfl, rfl⟩
  go_wp2_with fail
  refine (C2.out).mono ?_
  rintro e w' ⟨rfl, rfl⟩
  go_wp2_with fail
  refine (C3.out).mono ?_
  rintro e w' ⟨rfl, rfl⟩
  go_wp2_with fail
  clear hmk
  refine (neg_any (nth ms 0) _ hm0l).mono ?_
  rintro e w' ⟨n, rfl, hn, rfl⟩
  have Hn := Lib.hid hn
  clear hn hm0
  go_wp2_with fail
  have hb1 := (Below.refl w.heap.size w).alloc (Nat.le_refl _) (.cells (lim .u64 (List.replicate k 0)) 22)
  refine (product_any w.heap.size k k ca cb cm n 22 A B (some ⟨b, off, none⟩) (List.replicate k 0) xs ys ms _ hk0 hk8 (Own.new w _ _ _) List.length_replicate Hx.out Hy.out Hm.out ox oy om (sx.bel hb1) (sy.bel hb1) (sm.bel hb1) hcm Hn.out HM.out.2.2.1 HY.out).mono ?_
  rintro e w2 ⟨zs, rfl, ownz, hz, oz, hlt, hmod, hg⟩
  have Hz := Lib.hid hz
  have HR := Lib.hid (show MulR (val xs) (val ys) (val ms) k (val zs) from ⟨hlt, hmod⟩)
  have hb2 := below_grown_own hb1 hg (Nat.le_refl _)
  clear hz hlt hmod
  go_wp2_with fail
  go_ret2
  exact ⟨_, zs, rfl, Sl.of_own ownz, Hz.out, oz, HR.out, hb2⟩


set_option maxHeartbeats 1000000 in
theorem mmul_no (A B M : Option Addr) (n m k ca cb cm : Nat) (xs ys ms : List Nat) (w : World) (hca : n ≤ ca) (hca' : ca ≤ maxLen) (hcb : m ≤ cb) (hcb' : cb ≤ maxLen) (hcm : k ≤ cm) (hcm' : cm ≤ maxLen)
    (hx : xs.length = n) (hy : ys.length = m) (hm : ms.length = k) (ox : Ok xs) (oy : Ok ys) (om : Ok ms) (sx : Sl w .u64 A xs) (sy : Sl w .u64 B ys) (sm : Sl w .u64 M ms) (hno : ¬ (IsMod ms ∧ IsEl xs ms ∧ IsEl ys ms)) :
    Calls Try.prog 12 #[.slice A n ca, .slice B m cb, .slice M k cm] w (ErrPost w) := by
  have C1 := modulus_any M k cm ms w hcm hcm' hm om sm
  by_cases hM : IsMod ms
  · have hk8 : k ≤ 8 := by have := hM.2.1; omega
    have C2 := element_any A M n k ca cm xs ms w hca hca' hcm hcm' hx hm hk8 ox om sx sm
    have C3 := element_any B M m k cb cm ys ms w hcb hcb' hcm hcm' hy hm hk8 oy om sy sm
    rw [modB_yes hM] at C1
    by_cases hX : IsEl xs ms
    · have hY : ¬ IsEl ys ms := fun h => hno ⟨hM, hX, h⟩
      rw [elB_yes hX] at C2
      rw [elB_no hY] at C3
      have D1 := Lib.hid C1
      have D2 := Lib.hid C2
      have D3 := Lib.hid C3
      clear C1 C2 C3 hM hX hY hno hx hy hm
      go_enter Try.func12, Try.ntmps12
      go_wp2_with fail
      refine (D1.out).mono ?_
      rintro e w' ⟨rfl, rfl⟩
      go_wp2_with fail
      refine (D2.out).mono ?_
      rintro e w' ⟨rfl, rfl⟩
      go_wp2_with fail
      refine (D3.out).mono ?_
      rintro e w' ⟨rfl, rfl⟩
      go_wp2_with fail
      go_ret2
      exact ⟨rfl, Below.refl _ _⟩
    · rw [elB_no hX] at C2
      have D1 := Lib.hid C1
      have D2 := Lib.hid C2
      clear C1 C2 C3 hM hX hno hx hy hm
      go_enter Try.func12, Try.ntmps12
      go_wp2_with fail
      refine (D1.out).mono ?_
      rintro e w' ⟨rfl, rfl⟩
      go_wp2_with fail
      refine (D2.out).mono ?_
      rintro e w' ⟨rfl, rfl⟩
      go_wp2_with fail
      go_ret2
      exact ⟨rfl, Below.refl _ _⟩
  · rw [modB_no hM] at C1
    have D1 := Lib.hid C1
    clear C1 hM hno hx hy hm
    go_enter Try.func12, Try.ntmps12
    go_wp2_with fail
    refine (D1.out).mono ?_
    rintro e w' ⟨rfl, rfl⟩
    go_wp2_with fail
    go_ret2
    exact ⟨rfl, Below.refl _ _⟩


set_option maxHeartbeats 1000000 in
theorem minto_no (A M : Option Addr) (n k ca cm : Nat) (xs ms : List Nat) (w : World) (hca : n ≤ ca) (hca' : ca ≤ maxLen) (hcm : k ≤ cm) (hcm' : cm ≤ maxLen)
    (hx : xs.length = n) (hm : ms.length = k) (ox : Ok xs) (om : Ok ms) (sx : Sl w .u64 A xs) (sm : Sl w .u64 M ms) (hno : ¬ (IsMod ms ∧ IsEl xs ms)) :
    Calls Try.prog 16 #[.slice A n ca, .slice M k cm] w (ErrPost w) := by
  have C1 := modulus_any M k cm ms w hcm hcm' hm om sm
  by_cases hM : IsMod ms
  · have hk8 : k ≤ 8 := by have := hM.2.1; omega
    have C2 := element_any A M n k ca cm xs ms w hca hca' hcm hcm' hx hm hk8 ox om sx sm
    rw [modB_yes hM] at C1
    rw [elB_no (fun h => hno ⟨hM, h⟩)] at C2
    have D1 := Lib.hid C1
    have D2 := Lib.hid C2
    clear C1 C2 hM hno hx hm
    go_enter Try.func16, Try.ntmps16
    go_wp2_with fail
    refine (D1.out).mono ?_
    rintro e w' ⟨rfl, rfl⟩
    go_wp2_with fail
    refine (D2.out).mono ?_
    rintro e w' ⟨rfl, rfl⟩
    go_wp2_with fail
    go_ret2
    exact ⟨rfl, Below.refl _ _⟩
  · rw [modB_no hM] at C1
    have D1 := Lib.hid C1
    clear C1 hM hno hx hm
    go_enter Try.func16, Try.ntmps16
    go_wp2_with fail
    refine (D1.out).mono ?_
    rintro e w' ⟨rfl, rfl⟩
    go_wp2_with fail
    go_ret2
    exact ⟨rfl, Below.refl _ _⟩
set_option maxHeartbeats 1000000 in
theorem mfrom_no (A M : Option Addr) (n k ca cm : Nat) (xs ms : List Nat) (w : World) (hca : n ≤ ca) (hca' : ca ≤ maxLen) (hcm : k ≤ cm) (hcm' : cm ≤ maxLen)
    (hx : xs.length = n) (hm : ms.length = k) (ox : Ok xs) (om : Ok ms) (sx : Sl w .u64 A xs) (sm : Sl w .u64 M ms) (hno : ¬ (IsMod ms ∧ IsEl xs ms)) :
    Calls Try.prog 17 #[.slice A n ca, .slice M k cm] w (ErrPost w) := by
  have C1 := modulus_any M k cm ms w hcm hcm' hm om sm
  by_cases hM : IsMod ms
  · have hk8 : k ≤ 8 := by have := hM.2.1; omega
    have C2 := element_any A M n k ca cm xs ms w hca hca' hcm hcm' hx hm hk8 ox om sx sm
    rw [modB_yes hM] at C1
    rw [elB_no (fun h => hno ⟨hM, h⟩)] at C2
    have D1 := Lib.hid C1
    have D2 := Lib.hid C2
    clear C1 C2 hM hno hx hm
    go_enter Try.func17, Try.ntmps17
    go_wp2_with fail
    refine (D1.out).mono ?_
    rintro e w' ⟨rfl, rfl⟩
    go_wp2_with fail
    refine (D2.out).mono ?_
    rintro e w' ⟨rfl, rfl⟩
    go_wp2_with fail
    go_ret2
    exact ⟨rfl, Below.refl _ _⟩
  · rw [modB_no hM] at C1
    have D1 := Lib.hid C1
    clear C1 hM hno hx hm
    go_enter Try.func17, Try.ntmps17
    go_wp2_with fail
    refine (D1.out).mono ?_
    rintro e w' ⟨rfl, rfl⟩
    go_wp2_with fail
    go_ret2
    exact ⟨rfl, Below.refl _ _⟩
end Go.Proofs.Ytfkpcmjmibbmbaa
