import Derived.Test.YtjcbbkkoheedpaaNatH
namespace Go.Proofs.Ytjcbbkkoheedpaa
open Go.RowKit
set_option linter.unusedVariables false

/-- Is a number not below another one? Is it below? -/
def geB (A B : Nat) : Bool := decide (B ≤ A)
def ltB (A B : Nat) : Bool := decide (A < B)
theorem geB_yes {A B : Nat} (h : B ≤ A) : geB A B = true := decide_eq_true h
theorem geB_no {A B : Nat} (h : A < B) : geB A B = false := decide_eq_false (by omega)
theorem ltB_yes {A B : Nat} (h : A < B) : ltB A B = true := decide_eq_true h
theorem ltB_no {A B : Nat} (h : B ≤ A) : ltB A B = false := decide_eq_false (by omega)

theorem limb_q (A : Option Addr) (n c : Nat) (xs : List Nat) (i : Int) (w : World) (h0 : 0 ≤ i) (hx : xs.length = n) (hs : Sl w .u64 A xs) :
    Calls Try.prog 32 #[.slice A n c, .int .i64 i] w fun e w' => e = .returned (.int .u64 (nth xs i.toNat : Nat)) ∧ w' = w :=
  (limb_any A n c xs i w h0 hx hs).mono fun _ _ ⟨h1, h2⟩ => ⟨h1, h2.symm⟩
theorem ret_bool {a b : Bool} (h : a = b) : Ending.returned (.bool a) = .returned (.bool b) := by rw [h]

set_option maxHeartbeats 800000 in
/-- nat.longer -/
theorem longer_any (A B : Option Addr) (n c m d : Nat) (xs ys : List Nat) (w : World) (hn : n ≤ 1000) (hmn : m ≤ n) (hx : xs.length = n) (hy : ys.length = m) (ox : Ok xs) (oy : Ok ys) (sx : Sl w .u64 A xs) (sy : Sl w .u64 B ys) :
    Calls Try.prog 43 #[.slice A n c, .slice B m d] w fun e w' => e = .returned (.bool (geB (val xs) (val ys))) ∧ Below w.heap.size w w' := by
  have Hx := Lib.hid hx
  have Hy := Lib.hid hy
  have Htop := Lib.hid ((val_top ox (show xs.length ≤ n by omega)).trans (val_top oy (show ys.length ≤ n by omega)).symm)
  clear hx hy
  go_enter Try.func43, Try.ntmps43
  go_wp2_with fail
  go_loopw [5] (fun i wr => ∃ k : Nat, k ≤ n ∧ i = .int .i64 ((k : Int) - 1) ∧ Hid (val xs / pw k = val ys / pw k) ∧ Below w.heap.size w wr) (fun i _ => (intOf i + 1).toNat)
  case atStart => exact ⟨n, Nat.le_refl _, rfl, Htop, Below.refl _ _⟩
  case round =>
    obtain ⟨k, hk, hi, He, hb⟩ := hrel
    rcases k with _ | j
    · subst hi
      go_wp2
      go_ret
      exact ⟨ret_bool (geB_yes (by have := He.out; rw [pw_zero, Nat.div_one, Nat.div_one] at this; omega)).symm, hb⟩
    · obtain rfl : _ = Value.int .i64 (j : Int) := hi.trans (int_eq (by omega))
      clear hi
      obtain ⟨ba, off, rfl, hlb, hcb⟩ := (sx.bel hb) (by have := Hx.out; omega)
      have hc1 := hcb j (by have := Hx.out; omega)
      have hj1 : (j : Int) < (n : Int) := by omega
      have hj0 : (0 : Int) ≤ (j : Int) := by omega
      have syb := fun k => (sy.bel (below_drewN hb k))
      have Hl := Lib.hid (fun k => limb_q B m d ys (j : Int) (wr.drewN k) (by omega) Hy.out (syb k))
      clear hcb syb
      rcases Nat.lt_trichotomy (nth xs j) (nth ys j) with h | h | h
      · have hne : (((nth xs j : Nat) : Int) != ((nth ys j : Nat) : Int)) = true := by simp; omega
        have hgt : decide (((nth ys j : Nat) : Int) < ((nth xs j : Nat) : Int)) = false := by simp; omega
        go_wp2_with fail
        go_quiet ((go_at_call 32; exact Calls.quiet_of_same (Hl.out _)))
        go_wp2_with fail
        go_ret
        exact ⟨ret_bool ((decide_eq_false (by omega)).trans (geB_no (val_lt_of ox oy He.out h)).symm), below_drewN hb _⟩
      · have hne : (((nth xs j : Nat) : Int) != ((nth ys j : Nat) : Int)) = false := by rw [h]; simp
        have H := Lib.hid h
        clear h
        go_wp2_with fail
        go_quiet ((go_at_call 32; exact Calls.quiet_of_same (Hl.out _)))
        go_wp2_with fail
        exact ⟨⟨j, by omega, rfl, val_eq_of ox oy He.out H.out, below_drewN hb _⟩, by simp [intOf]⟩
      · have hne : (((nth xs j : Nat) : Int) != ((nth ys j : Nat) : Int)) = true := by simp; omega
        have hgt : decide (((nth ys j : Nat) : Int) < ((nth xs j : Nat) : Int)) = true := by simp; omega
        go_wp2_with fail
        go_quiet ((go_at_call 32; exact Calls.quiet_of_same (Hl.out _)))
        go_wp2_with fail
        go_ret
        exact ⟨ret_bool (geB_yes (Nat.le_of_lt (val_lt_of oy ox He.out.symm h))).symm, below_drewN hb _⟩

set_option maxHeartbeats 800000 in
/-- chirographref01.Less -/
theorem less_any (A B : Option Addr) (n c d : Nat) (xs ys : List Nat) (w : World) (hn : n ≤ 9223372036854775807) (hx : xs.length = n) (hy : ys.length = n) (ox : Ok xs) (oy : Ok ys) (sx : Sl w .u64 A xs) (sy : Sl w .u64 B ys) :
    Calls Try.prog 44 #[.slice A n c, .slice B n d] w fun e w' => e = .returned (.bool (ltB (val xs) (val ys))) ∧ Below w.heap.size w w' := by
  have Hx := Lib.hid hx
  have Hy := Lib.hid hy
  have Htop := Lib.hid ((val_top ox (show xs.length ≤ n by omega)).trans (val_top oy (show ys.length ≤ n by omega)).symm)
  clear hx hy
  go_enter Try.func44, Try.ntmps44
  go_wp2_with fail
  go_loopw [5] (fun i wr => ∃ k : Nat, k ≤ n ∧ i = .int .i64 ((k : Int) - 1) ∧ Hid (val xs / pw k = val ys / pw k) ∧ Below w.heap.size w wr) (fun i _ => (intOf i + 1).toNat)
  case atStart => exact ⟨n, Nat.le_refl _, rfl, Htop, Below.refl _ _⟩
  case round =>
    obtain ⟨k, hk, hi, He, hb⟩ := hrel
    rcases k with _ | j
    · subst hi
      go_wp2
      go_ret
      exact ⟨ret_bool (ltB_no (by have := He.out; rw [pw_zero, Nat.div_one, Nat.div_one] at this; omega)).symm, hb⟩
    · obtain rfl : _ = Value.int .i64 (j : Int) := hi.trans (int_eq (by omega))
      clear hi
      obtain ⟨ba, off, rfl, hlb, hcb⟩ := (sx.bel hb) (by have := Hx.out; omega)
      obtain ⟨bb, off', rfl, hlb', hcb'⟩ := (sy.bel hb) (by have := Hy.out; omega)
      have hc1 := hcb j (by have := Hx.out; omega)
      have hc2 := hcb' j (by have := Hy.out; omega)
      have hj1 : (j : Int) < (n : Int) := by omega
      have hj0 : (0 : Int) ≤ (j : Int) := by omega
      clear hcb hcb'
      rcases Nat.lt_trichotomy (nth xs j) (nth ys j) with h | h | h
      · have hne : (((nth xs j : Nat) : Int) != ((nth ys j : Nat) : Int)) = true := by simp; omega
        have hgt : decide (((nth xs j : Nat) : Int) < ((nth ys j : Nat) : Int)) = true := by simp; omega
        go_wp2_with fail
        go_quiet (fail)
        go_wp2_with fail
        go_quiet (fail)
        go_wp2_with fail
        go_ret
        exact ⟨ret_bool (ltB_yes (val_lt_of ox oy He.out h)).symm, below_drewN (below_drewN hb _) _⟩
      · have hne : (((nth xs j : Nat) : Int) != ((nth ys j : Nat) : Int)) = false := by rw [h]; simp
        have H := Lib.hid h
        clear h
        go_wp2_with fail
        go_quiet (fail)
        go_wp2_with fail
        exact ⟨⟨j, by omega, rfl, val_eq_of ox oy He.out H.out, below_drewN hb _⟩, by simp [intOf]⟩
      · have hne : (((nth xs j : Nat) : Int) != ((nth ys j : Nat) : Int)) = true := by simp; omega
        have hgt : decide (((nth xs j : Nat) : Int) < ((nth ys j : Nat) : Int)) = false := by simp; omega
        go_wp2_with fail
        go_quiet (fail)
        go_wp2_with fail
        go_quiet (fail)
        go_wp2_with fail
        go_ret
        exact ⟨ret_bool ((decide_eq_false (by omega)).trans (ltB_no (Nat.le_of_lt (val_lt_of oy ox He.out.symm h))).symm), below_drewN (below_drewN hb _) _⟩

/-- A row that is turned limb by limb, with a carry: Q k (what the first k limbs say) (the carry); the rest stands as it stood in zs0. -/
def InRel (Q : Nat → Nat → Nat → Prop) (zs0 : List Nat) (L g : Nat) (w : World) (i cy : Value) (wr : World) : Prop :=
  ∃ (k c : Nat) (zs : List Nat), k ≤ L ∧ i = .int .i64 (k : Int) ∧ cy = .int .u64 (c : Int) ∧ c ≤ 1 ∧ zs.length = L ∧ Ok zs ∧ Own wr g 23 .u64 zs ∧ Below w.heap.size w wr ∧
    Q k (val (zs.take k)) c ∧ ∀ t, k ≤ t → nth zs t = nth zs0 t
theorem InRel.step {Q : Nat → Nat → Nat → Prop} {L g k v c' : Nat} {zs zs0 : List Nat} {iv cv : Int} {w wr wr' : World} (hk : k < L) (hz : zs.length = L) (oz : Ok zs) (own : Own wr g 23 .u64 zs)
    (hb : Below w.heap.size w wr) (hg : w.heap.size ≤ g) (hkeep : ∀ t, k ≤ t → nth zs t = nth zs0 t) (ew : wr.setCell ⟨g, k, none⟩ (.int .u64 iv) = wr') (e1 : iv = (v : Nat)) (hv : v < 18446744073709551616) (e2 : cv = (c' : Nat)) (hc : c' ≤ 1)
    (h : Q (k + 1) (val (zs.take k) + pw k * v) c') : InRel Q zs0 L g w (.int .i64 ((k : Int) + 1)) (.int .u64 cv) wr' := by
  subst ew e1
  refine ⟨k + 1, c', zs.set k v, by omega, rfl, int_eq e2, hc, by simpa using hz, oz.set hv k, own.set k _, hb.setCell hg _, ?_, ?_⟩
  · rw [val_set_take (by omega)]; exact h
  · intro t ht
    rw [nth_set (by omega), if_neg (by omega)]
    exact hkeep t (by omega)

theorem subW {x y c : Nat} (hx : x < 18446744073709551616) (hy : y < 18446744073709551616) (hc : c ≤ 1) : IntKind.u64.wrap (IntKind.u64.wrap ((x : Int) - (y : Int)) - (c : Int)) = (subLo x y c : Nat) := by
  rw [IntKind.wrap_u64, IntKind.wrap_u64]
  unfold subLo
  omega

set_option maxHeartbeats 1000000 in
/-- chirographref01.minus -/
theorem minus_any (A B : Option Addr) (n c d : Nat) (xs ys : List Nat) (w : World) (hn : n ≤ 1000) (hx : xs.length = n) (hy : ys.length = n) (ox : Ok xs) (oy : Ok ys) (sx : Sl w .u64 A xs) (sy : Sl w .u64 B ys) (hle : val ys ≤ val xs) :
    Calls Try.prog 45 #[.slice A n c, .slice B n d] w (RowPost n (val xs - val ys) w) := by
  have hmk := run_mk n (by omega)
  have Hx := Lib.hid hx
  have Hy := Lib.hid hy
  have Hvx := Lib.hid (val_take_all xs (show xs.length ≤ n by omega))
  have Hvy := Lib.hid (val_take_all ys (show ys.length ≤ n by omega))
  have Hlt := Lib.hid (show val xs < pw n by have := val_lt ox; rwa [hx] at this)
  clear hx hy
  go_enter Try.func45, Try.ntmps45
  go_wp2
  clear hmk
  go_loopw [14, 6] (InRel (fun k V c => V + val (ys.take k) = val (xs.take k) + pw k * c) (List.replicate n 0) n w.heap.size w) (fun i _ _ => n - (intOf i).toNat)
  case atStart => exact ⟨0, 0, _, Nat.zero_le _, rfl, rfl, by decide, List.length_replicate, Ok.replicate _, Own.new _ _ _ _, (Below.refl _ _).alloc (Nat.le_refl _) _, by simp [val], fun t ht => rfl⟩
  case round =>
    obtain ⟨k, cy, zs, hk, rfl, rfl, hcy, hz, oz, own, hb, hval, hkeep⟩ := hrel
    have Hv := Lib.hid hval
    have Hz := Lib.hid hz
    have Hown := Lib.hid own
    have Hk := Lib.hid hkeep
    clear hval hkeep
    by_cases hlt : k < n
    · obtain ⟨ba, off, rfl, hlb, hcb⟩ := sx.at2 hb (by have := Hx.out; omega)
      obtain ⟨bb, off', rfl, hlb', hcb'⟩ := sy.at2 hb (by have := Hy.out; omega)
      have hc1 := hcb k (by have := Hx.out; omega)
      have hc2 := hcb' k (by have := Hy.out; omega)
      have hc3 := cell_far (g := w.heap.size) (j := k) (by omega) hc2
      have hcell := own.cell (i := k) (by omega)
      have hfr := own.frozen k
      have bx := ox.getD k
      have by' := oy.getD k
      have fin : ∀ iv cv : Int, iv = (subLo (nth xs k) (nth ys k) cy : Nat) → cv = (subHi (nth xs k) (nth ys k) cy : Nat) →
          InRel (fun k V c => V + val (ys.take k) = val (xs.take k) + pw k * c) (List.replicate n 0) n w.heap.size w (.int .i64 ((k : Int) + 1)) (.int .u64 cv) (wr.setCell ⟨w.heap.size, k, none⟩ (.int .u64 iv)) := by
        intro iv cv e1 e2
        refine InRel.step hlt Hz.out oz Hown.out hb (Nat.le_refl _) Hk.out rfl e1 (subLo_lt _ _ _) e2 (subHi_le _ _ _) ?_
        show _ + val (ys.take (k + 1)) = val (xs.take (k + 1)) + pw (k + 1) * _
        rw [val_take_succ ys, val_take_succ xs, pw_succ]
        exact sub_step _ _ _ _ _ _ _ bx by' hcy Hv.out
      have Fin := Lib.hid fin
      clear hcb hcb' own hz fin
      rcases Nat.lt_trichotomy (nth xs k) (nth ys k) with h | h | h
      · have h' : ((nth xs k : Nat) : Int) < ((nth ys k : Nat) : Int) := by omega
        go_wp2_with fail
        exact ⟨Fin.out _ _ (subW bx by' hcy) (by unfold subHi; rw [if_pos (by omega)]; rfl), by simp [intOf]; omega⟩
      · have h' : ¬ ((nth xs k : Nat) : Int) < ((nth ys k : Nat) : Int) := by omega
        have he : (((nth xs k : Nat) : Int) == ((nth ys k : Nat) : Int)) = true := by rw [h]; simp
        have hcc : cy = 0 ∨ cy = 1 := by omega
        have H := Lib.hid h
        clear h
        rcases hcc with rfl | rfl
        · go_wp2_with fail
          exact ⟨Fin.out _ _ (by have := H.out; unfold subLo; omega) (by unfold subHi; rw [if_neg (by have := H.out; omega)]; rfl), by simp [intOf]; omega⟩
        · go_wp2_with fail
          exact ⟨Fin.out _ _ (by have := H.out; rw [IntKind.wrap_u64]; unfold subLo; omega) (by unfold subHi; rw [if_pos (by have := H.out; omega)]; rfl), by simp [intOf]; omega⟩
      · have h' : ¬ ((nth xs k : Nat) : Int) < ((nth ys k : Nat) : Int) := by omega
        have he : (((nth xs k : Nat) : Int) == ((nth ys k : Nat) : Int)) = false := by simp; omega
        go_wp2_with fail
        exact ⟨Fin.out _ _ (by unfold subLo; omega) (by unfold subHi; rw [if_neg (by omega)]; rfl), by simp [intOf]; omega⟩
    · obtain rfl : k = n := by omega
      clear own hz
      go_wp2
      go_ret
      have h := Hv.out
      simp only [Hvx.out, Hvy.out] at h
      rw [val_take_all zs (by have := Hz.out; omega)] at h
      have hv := val_lt oz
      rw [Hz.out] at hv
      refine ⟨_, zs, rfl, Hown.out, Hz.out, oz, ?_, hb⟩
      have : cy = 0 ∨ cy = 1 := by omega
      rcases this with rfl | rfl <;> omega
end Go.Proofs.Ytjcbbkkoheedpaa
