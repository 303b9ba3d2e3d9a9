import Derived.Test.YtfkpcmjmibbmbaaNatH
namespace Go.Proofs.Ytfkpcmjmibbmbaa
open Go.RowKit
set_option linter.unusedVariables false

/-- Is a number not below another one? Is it below? -/
def geB (A B : Nat) : Bool := decide (B ≤ A)
def ltB (A B : Nat) : Bool := decide (A < B)
theorem geB_yes {A B : Nat} (h : B ≤ A) : geB A B = true := decide_eq_true h
theorem geB_no {A B : Nat} (h : A < B) : geB A B = false := decide_eq_false (by omega)
theorem ltB_yes {A B : Nat} (h : A < B) : ltB A B = true := decide_eq_true h
theorem ltB_no {A B : Nat} (h : B ≤ A) : ltB A B = false := decide_eq_false (by omega)

theorem limb_q (A : Option Addr) (n c : Nat) (xs : List Nat) (i : Int) (w : World) (h0 : 0 ≤ i) (hx : xs.length = n) (hs : Sl w .u64 A xs) :
    Calls Try.prog 38 #[.slice A n c, .int .i64 i] w fun e w' => e = .returned (.int .u64 (nth xs i.toNat : Nat)) ∧ w' = w :=
  (limb_any A n c xs i w h0 hx hs).mono fun _ _ ⟨h1, h2⟩ => ⟨h1, h2.symm⟩
theorem ret_bool {a b : Bool} (h : a = b) : Ending.returned (.bool a) = .returned (.bool b) := by rw [h]

set_option maxHeartbeats 800000 in
/-- nat.longer -/
theorem longer_any (A B : Option Addr) (n c m d : Nat) (xs ys : List Nat) (w : World) (hn : n ≤ 1000) (hmn : m ≤ n) (hx : xs.length = n) (hy : ys.length = m) (ox : Ok xs) (oy : Ok ys) (sx : Sl w .u64 A xs) (sy : Sl w .u64 B ys) :
    Calls Try.prog 36 #[.slice A n c, .slice B m d] w fun e w' => e = .returned (.bool (geB (val xs) (val ys))) ∧ Below w.heap.size w w' := by
  have Hx := Lib.hid hx
  have Hy := Lib.hid hy
  have Htop := Lib.hid ((val_top ox (show xs.length ≤ n by omega)).trans (val_top oy (show ys.length ≤ n by omega)).symm)
  clear hx hy
  go_enter Try.func36, Try.ntmps36
  go_wp2_with fail
  go_loopw [5] (fun i wr => ∃ k : Nat, k ≤ n ∧ i = .int .i64 ((k : Int) - 1) ∧ Hid (val xs / pw k = val ys / pw k) ∧ Below w.heap.size w wr) (fun i _ => (intOf i + 1).toNat)
  case atStart => exact ⟨n, Nat.le_refl _, rfl, Htop, Below.refl _ _⟩
  case round =>
    obtain ⟨k, hk, hi, He, hb⟩ := hrel
    rcases k with _ | j
    · subst hi
      go_wp2
      go_ret
      exact ⟨ret_bool (geB_yes (by have := He.out; rw [pw_zero, Nat.div_one, Nat.div_one] at this; omega)).symm, hb⟩
    · obtain rfl : _ = Value.int .i64 (j : Int) := hi.trans (int_eq (by omega))
      clear hi
      obtain ⟨ba, off, rfl, hlb, hcb⟩ := (sx.bel hb) (by have := Hx.out; omega)
      have hc1 := hcb j (by have := Hx.out; omega)
      have hj1 : (j : Int) < (n : Int) := by omega
      have hj0 : (0 : Int) ≤ (j : Int) := by omega
      have syb := fun k => (sy.bel (below_drewN hb k))
      have Hl := Lib.hid (fun k => limb_q B m d ys (j : Int) (wr.drewN k) (by omega) Hy.out (syb k))
      clear hcb syb
      rcases Nat.lt_trichotomy (nth xs j) (nth ys j) with h | h | h
      · have hne : (((nth xs j : Nat) : Int) != ((nth ys j : Nat) : Int)) = true := by simp; omega
        have hgt : decide (((nth ys j : Nat) : Int) < ((nth xs j : Nat) : Int)) = false := by simp; omega
        go_wp2_with fail
        go_quiet ((go_at_call 38; exact Calls.quiet_of_same (Hl.out _)))
        go_wp2_with fail
        go_ret
        exact ⟨ret_bool ((decide_eq_false (by omega)).trans (geB_no (val_lt_of ox oy He.out h)).symm), below_drewN hb _⟩
      · have hne : (((nth xs j : Nat) : Int) != ((nth ys j : Nat) : Int)) = false := by rw [h]; simp
        have H := Lib.hid h
        clear h
        go_wp2_with fail
        go_quiet ((go_at_call 38; exact Calls.quiet_of_same (Hl.out _)))
        go_wp2_with fail
        exact ⟨⟨j, by omega, rfl, val_eq_of ox oy He.out H.out, below_drewN hb _⟩, by simp [intOf]⟩
      · have hne : (((nth xs j : Nat) : Int) != ((nth ys j : Nat) : Int)) = true := by simp; omega
        have hgt : decide (((nth ys j : Nat) : Int) < ((nth xs j : Nat) : Int)) = true := by simp; omega
        go_wp2_with fail
        go_quiet ((go_at_call 38; exact Calls.quiet_of_same (Hl.out _)))
        go_wp2_with fail
        go_ret
        exact ⟨ret_bool (geB_yes (Nat.le_of_lt (val_lt_of oy ox He.out.symm h))).symm, below_drewN hb _⟩

set_option maxHeartbeats 800000 in
/-- chirographref01.Less -/
theorem less_any (A B : Option Addr) (n c d : Nat) (xs ys : List Nat) (w : World) (hn : n ≤ 9223372036854775807) (hx : xs.length = n) (hy : ys.length = n) (ox : Ok xs) (oy : Ok ys) (sx : Sl w .u64 A xs) (sy : Sl w .u64 B ys) :
    Calls Try.prog 47 #[.slice A n c, .slice B n d] w fun e w' => e = .returned (.bool (ltB (val xs) (val ys))) ∧ Below w.heap.size w w' := by
  have Hx := Lib.hid hx
  have Hy := Lib.hid hy
  have Htop := Lib.hid ((val_top ox (show xs.length ≤ n by omega)).trans (val_top oy (show ys.length ≤ n by omega)).symm)
  clear hx hy
  go_enter Try.func47, Try.ntmps47
  go_wp2_with fail
  go_loopw [5] (fun i wr => ∃ k : Nat, k ≤ n ∧ i = .int .i64 ((k : Int) - 1) ∧ Hid (val xs / pw k = val ys / pw k) ∧ Below w.heap.size w wr) (fun i _ => (intOf i + 1).toNat)
  case atStart => exact ⟨n, Nat.le_refl _, rfl, Htop, Below.refl _ _⟩
  case round =>
    obtain ⟨k, hk, hi, He, hb⟩ := hrel
    rcases k with _ | j
    · subst hi
      go_wp2
      go_ret
      exact ⟨ret_bool (ltB_no (by have := He.out; rw [pw_zero, Nat.div_one, Nat.div_one] at this; omega)).symm, hb⟩
    · obtain rfl : _ = Value.int .i64 (j : Int) := hi.trans (int_eq (by omega))
      clear hi
      obtain ⟨ba, off, rfl, hlb, hcb⟩ := (sx.bel hb) (by have := Hx.out; omega)
      obtain ⟨bb, off', rfl, hlb', hcb'⟩ := (sy.bel hb) (by have := Hy.out; omega)
      have hc1 := hcb j (by have := Hx.out; omega)
      have hc2 := hcb' j (by have := Hy.out; omega)
      have hj1 : (j : Int) < (n : Int) := by omega
      have hj0 : (0 : Int) ≤ (j : Int) := by omega
      clear hcb hcb'
      rcases Nat.lt_trichotomy (nth xs j) (nth ys j) with h | h | h
      · have hne : (((nth xs j : Nat) : Int) != ((nth ys j : Nat) : Int)) = true := by simp; omega
        have hgt : decide (((nth xs j : Nat) : Int) < ((nth ys j : Nat) : Int)) = true := by simp; omega
        go_wp2_with fail
        go_quiet (fail)
        go_wp2_with fail
        go_quiet (fail)
        go_wp2_with fail
        go_ret
        exact ⟨ret_bool (ltB_yes (val_lt_of ox oy He.out h)).symm, below_drewN (below_drewN hb _) _⟩
      · have hne : (((nth xs j : Nat) : Int) != ((nth ys j : Nat) : Int)) = false := by rw [h]; simp
        have H := Lib.hid h
        clear h
        go_wp2_with fail
        go_quiet (fail)
        go_wp2_with fail
        exact ⟨⟨j, by omega, rfl, val_eq_of ox oy He.out H.out, below_drewN hb _⟩, by simp [intOf]⟩
      · have hne : (((nth xs j : Nat) : Int) != ((nth ys j : Nat) : Int)) = true := by simp; omega
        have hgt : decide (((nth xs j : Nat) : Int) < ((nth ys j : Nat) : Int)) = false := by simp; omega
        go_wp2_with fail
        go_quiet (fail)
        go_wp2_with fail
        go_quiet (fail)
        go_wp2_with fail
        go_ret
        exact ⟨ret_bool ((decide_eq_false (by omega)).trans (ltB_no (Nat.le_of_lt (val_lt_of oy ox He.out.symm h))).symm), below_drewN (below_drewN hb _) _⟩

/-- A row that is turned limb by limb, with a carry: Q k (what the first k limbs say) (the carry); the rest stands as it stood in zs0. -/
def InRel (Q : Nat → Nat → Nat → Prop) (zs0 : List Nat) (L g : Nat) (w : World) (i cy : Value) (wr : World) : Prop :=
  ∃ (k c : Nat) (zs : List Nat), k ≤ L ∧ i = .int .i64 (k : Int) ∧ cy = .int .u64 (c : Int) ∧ c ≤ 1 ∧ zs.length = L ∧ Ok zs ∧ Own wr g 22 .u64 zs ∧ Below w.heap.size w wr ∧
    Q k (val (zs.take k)) c ∧ ∀ t, k ≤ t → nth zs t = nth zs0 t
theorem InRel.step {Q : Nat → Nat → Nat → Prop} {L g k v c' : Nat} {zs zs0 : List Nat} {iv cv : Int} {w wr wr' : World} (hk : k < L) (hz : zs.length = L) (oz : Ok zs) (own : Own wr g 22 .u64 zs)
    (hb : Below w.heap.size w wr) (hg : w.heap.size ≤ g) (hkeep : ∀ t, k ≤ t → nth zs t = nth zs0 t) (ew : wr.setCell ⟨g, k, none⟩ (.int .u64 iv) = wr') (e1 : iv = (v : Nat)) (hv : v < 18446744073709551616) (e2 : cv = (c' : Nat)) (hc : c' ≤ 1)
    (h : Q (k + 1) (val (zs.take k) + pw k * v) c') : InRel Q zs0 L g w (.int .i64 ((k : Int) + 1)) (.int .u64 cv) wr' := by
  subst ew e1
  refine ⟨k + 1, c', zs.set k v, by omega, rfl, int_eq e2, hc, by simpa using hz, oz.set hv k, own.set k _, hb.setCell hg _, ?_, ?_⟩
  · rw [val_set_take (by omega)]; exact h
  · intro t ht
    rw [nth_set (by omega), if_neg (by omega)]
    exact hkeep t (by omega)

theorem subW {x y c : Nat} (hx : x < 18446744073709551616) (hy : y < 18446744073709551616) (hc : c ≤ 1) : IntKind.u64.wrap (IntKind.u64.wrap ((x : Int) - (y : Int)) - (c : Int)) = (subLo x y c : Nat) := by
  rw [IntKind.wrap_u64, IntKind.wrap_u64]
  unfold subLo
  omega

end Go.Proofs.Ytfkpcmjmibbmbaa
