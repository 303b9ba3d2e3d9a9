import Derived.Test.YtfkpcmjmibbmbaaMontG
namespace Go.Proofs.Ytfkpcmjmibbmbaa
open Go.RowKit
set_option linter.unusedVariables false

/-- Doubling and adding, modulo M. -/
theorem mm_step {A B M j v : Nat} (hv : v = A / 2 ^ (j + 1) * B % M) : (2 * v % M + bitOf A j * B) % M = A / 2 ^ j * B % M := by
  rw [mul_shift A B j, hv, Nat.mul_mod 2, Nat.mod_mod, ← Nat.mul_mod, Nat.mod_add_mod]

def MmRel (A B M k : Nat) (w : World) (i o : Value) (wr : World) : Prop :=
  ∃ (q g : Nat) (zs : List Nat), q ≤ bitLen A ∧ i = .int .i64 ((q : Int) - 1) ∧ o = .slice (some ⟨g, 0, none⟩) k k ∧ zs.length = k ∧ Ok zs ∧ Own wr g 22 .u64 zs ∧ Below w.heap.size w wr ∧ val zs = A / 2 ^ q * B % M
theorem bitLen_bound {xs : List Nat} {k : Nat} (ox : Ok xs) (hx : xs.length = k) : bitLen (val xs) ≤ 64 * k := by
  rcases Nat.lt_or_ge (64 * k) (bitLen (val xs)) with h | h
  · have h0 : val xs ≠ 0 := by intro e; rw [e] at h; simp [bitLen] at h
    have h1 := bitLen_le h0
    have h2 := val_lt ox
    rw [hx, pw_two] at h2
    have h3 : (2 : Nat) ^ (64 * k) ≤ 2 ^ (bitLen (val xs) - 1) := Nat.pow_le_pow_right (by decide) (by omega)
    omega
  · exact h

set_option maxHeartbeats 1000000 in
/-- chirographref02.MulMod -/
theorem mulmod_any (A B M : Option Addr) (k ca cb cm : Nat) (xs ys ms : List Nat) (w : World) (hk8 : k ≤ 8) (hca : k ≤ ca) (hca' : ca ≤ maxLen) (hcb : k ≤ cb) (hcb' : cb ≤ maxLen) (hcm : k ≤ cm) (hcm' : cm ≤ maxLen)
    (hx : xs.length = k) (hy : ys.length = k) (hm : ms.length = k) (ox : Ok xs) (oy : Ok ys) (om : Ok ms) (sx : Sl w .u64 A xs) (sy : Sl w .u64 B ys) (sm : Sl w .u64 M ms) (hly : val ys < val ms) :
    Calls Try.prog 30 #[.slice A k ca, .slice B k cb, .slice M k cm] w (RowPost k (val xs * val ys % val ms) w) := by
  have hmk := run_mk k (by omega)
  have hb1 := (Below.refl w.heap.size w).alloc (Nat.le_refl _) (.cells (lim .u64 (List.replicate k 0)) 22)
  have D0 := Lib.hid (rbits_any A k ca k xs _ hca hca' (by omega) hx ox (sx.bel hb1))
  have hbase : val xs / 2 ^ bitLen (val xs) * val ys % val ms = 0 := by rw [Nat.div_eq_of_lt (bitLen_lt _), Nat.zero_mul, Nat.zero_mod]
  have hbl := bitLen_bound ox hx
  have Hbase := Lib.hid hbase
  have Hx := Lib.hid hx
  have Hy := Lib.hid hy
  have Hm := Lib.hid hm
  have Hly := Lib.hid hly
  clear hx hy hm hly hbase
  go_enter Try.func30, Try.ntmps30
  go_wp2_with fail
  clear hmk
  refine (D0.out).mono ?_
  rintro e w' ⟨rfl, rfl⟩
  go_wp2_with fail
  go_loopw [8, 7] (MmRel (val xs) (val ys) (val ms) k w) (fun i _ _ => (intOf i + 1).toNat)
  case atStart => exact ⟨bitLen (val xs), _, _, Nat.le_refl _, rfl, rfl, List.length_replicate, Ok.replicate _, Own.new _ _ _ _, hb1, by rw [val_replicate, Hbase.out]⟩
  case round =>
    obtain ⟨q, g, zs, hq, hi, rfl, hz, oz, own, hb, hval⟩ := hrel
    have Hv := Lib.hid hval
    have Hz := Lib.hid hz
    have Hown := Lib.hid own
    clear hval hz own
    rcases q with _ | j
    · subst hi
      go_wp2
      go_ret
      have h := Hv.out
      rw [Nat.pow_zero, Nat.div_one] at h
      exact ⟨g, zs, rfl, Hown.out, Hz.out, oz, h, hb⟩
    · obtain rfl : _ = Value.int .i64 (j : Int) := hi.trans (int_eq (by omega))
      clear hi
      have hpos : 0 < val ms := by have := Hly.out; omega
      have hlz : val zs < val ms := by rw [Hv.out]; exact Nat.mod_lt _ hpos
      have Hst := Lib.hid (mm_step (A := val xs) (B := val ys) (M := val ms) Hv.out)
      have D1 := Lib.hid (twice_any _ M k k cm zs ms wr hk8 hcm hcm' Hz.out Hm.out oz om (Sl.of_own Hown.out) (sm.bel hb) hlz)
      clear hlz
      go_wp2_with fail
      refine (D1.out).mono ?_
      rintro e w1 ⟨g1, z1, rfl, o1, l1, k1, v1, b1⟩
      have L1 := Lib.hid l1
      have V1 := Lib.hid v1
      have hb1' := hb.trans (b1.mono hb.size)
      clear l1 v1
      go_wp2_with fail
      refine (bit_any A k ca xs j w1 (by omega) (by omega) Hx.out ox (sx.bel hb1')).mono ?_
      rintro e w' ⟨rfl, rfl⟩
      rw [Int.toNat_natCast]
      have hbt := bitOf_lt (val xs) j
      by_cases hbit : bitOf (val xs) j = 1
      · have ht : (((bitOf (val xs) j : Nat) : Int) == 1) = true := by rw [hbit]; rfl
        have hl1 : val z1 < val ms := by rw [V1.out]; exact Nat.mod_lt _ hpos
        have Hbit := Lib.hid hbit
        have D2 := Lib.hid (mplus_any _ B M k k cb cm z1 ys ms w1 hk8 (Nat.le_refl _) (by unfold maxLen; omega) hcb hcb' hcm hcm' L1.out Hy.out Hm.out k1 oy om (Sl.of_own o1) (sy.bel hb1') (sm.bel hb1') hl1 Hly.out)
        clear hbit hbt hl1
        go_wp2_with fail
        refine (D2.out).mono ?_
        rintro e w2 ⟨g2, z2, rfl, o2, l2, k2, v2, b2⟩
        have L2 := Lib.hid l2
        have V2 := Lib.hid v2
        have hb2 := hb1'.trans (b2.mono hb1'.size)
        clear l2 v2
        go_wp2_with fail
        refine ⟨⟨j, g2, z2, by omega, rfl, rfl, L2.out, k2, o2, hb2, ?_⟩, by simp [intOf]⟩
        rw [V2.out, V1.out, ← Hst.out, Hbit.out, Nat.one_mul]
      · have hb0 : bitOf (val xs) j = 0 := by omega
        have ht : (((bitOf (val xs) j : Nat) : Int) == 1) = false := by rw [hb0]; rfl
        have Hbit := Lib.hid hb0
        clear hbit hbt hb0
        go_wp2_with fail
        refine ⟨⟨j, g1, z1, by omega, rfl, rfl, L1.out, k1, o1, hb1', ?_⟩, by simp [intOf]⟩
        rw [← Hst.out, Hbit.out, Nat.zero_mul, Nat.add_zero, Nat.mod_mod, V1.out]

/-- Halving, from the highest limb on: S is what is halved (with what stands beyond). -/
theorem half_step (S p : Nat) (hp : 0 < p) : S / p / 2 * p = S / (18446744073709551616 * p) / 2 * (18446744073709551616 * p) + p * (S / p % 18446744073709551616 / 2 + S / (18446744073709551616 * p) % 2 * 9223372036854775808) := by
  have e : S / (18446744073709551616 * p) = S / p / 18446744073709551616 := by rw [Nat.mul_comm, Nat.div_div_eq_div_mul]
  rw [e]
  generalize S / p = X
  have h1 : X / 2 = 18446744073709551616 * (X / 18446744073709551616 / 2) + (X % 18446744073709551616 / 2 + X / 18446744073709551616 % 2 * 9223372036854775808) := by omega
  rw [Nat.mul_comm (X / 2), h1, Nat.mul_add, Nat.mul_left_comm p 18446744073709551616, Nat.mul_comm (X / 18446744073709551616 / 2), Nat.mul_assoc]
def halfBit (S j : Nat) : Nat := S / pw j % 2
theorem halfBit_lt (S j : Nat) : halfBit S j < 2 := Nat.mod_lt _ (by decide)
def HalfRel (S k g : Nat) (w : World) (i mo : Value) (wr : World) : Prop :=
  ∃ (j : Nat) (zs : List Nat), j ≤ k ∧ i = .int .i64 ((j : Int) - 1) ∧ mo = .int .u64 ((halfBit S j : Nat) : Int) ∧ zs.length = k ∧ Ok zs ∧ Own wr g 22 .u64 zs ∧ Below w.heap.size w wr ∧ val zs = S / pw j / 2 * pw j ∧ ∀ t, t < j → nth zs t = 0
theorem nth_ext (ss : List Nat) (c : Nat) {i : Nat} (h : i < ss.length) : nth (ss ++ [c]) i = nth ss i := by
  rw [nth_eq (by simp; omega), nth_eq h, List.getElem_append_left h]
theorem HalfRel.step {ss zs : List Nat} {c k g j : Nat} {w wr wr' : World} {iv mv : Int} (os : Ok ss) (hc : c ≤ 1) (hs : ss.length = k) (hj : j < k) (hz : zs.length = k) (oz : Ok zs) (own : Own wr g 22 .u64 zs) (hb : Below w.heap.size w wr) (hg : w.heap.size ≤ g)
    (hv : val zs = val (ss ++ [c]) / pw (j + 1) / 2 * pw (j + 1)) (h0 : ∀ t, t < j + 1 → nth zs t = 0)
    (ew : wr.setCell ⟨g, j, none⟩ (.int .u64 iv) = wr') (e1 : iv = (nth ss j / 2 + halfBit (val (ss ++ [c])) (j + 1) * 9223372036854775808 : Nat)) (e2 : mv = (nth ss j % 2 : Nat)) :
    HalfRel (val (ss ++ [c])) k g w (.int .i64 ((j : Int) - 1)) (.int .u64 mv) wr' := by
  have oe : Ok (ss ++ [c]) := os.append (Ok.cons (by omega) Ok.nil)
  have hn : nth ss j = val (ss ++ [c]) / pw j % 18446744073709551616 := by rw [← getD_val oe, nth_ext ss c (by omega)]
  unfold halfBit at e1
  have hl : nth ss j / 2 + val (ss ++ [c]) / pw (j + 1) % 2 * 9223372036854775808 < 18446744073709551616 := by have := os.getD j; omega
  subst ew e1
  refine ⟨j, zs.set j _, by omega, rfl, ?_, by simpa using hz, oz.set hl _, own.set _ _, hb.setCell hg _, ?_, ?_⟩
  · rw [e2, hn]; unfold halfBit; exact int_eq (by omega)
  · have h1 := val_set (l := zs) (k := j) (by omega) (nth ss j / 2 + val (ss ++ [c]) / pw (j + 1) % 2 * 9223372036854775808)
    rw [h0 j (by omega), Nat.mul_zero, Nat.add_zero, hv] at h1
    rw [h1, half_step _ _ (pw_pos j), hn, pw_succ]
  · intro t ht
    rw [nth_set (by omega), if_neg (by omega)]
    exact h0 t (by omega)

/-- What half an element is. -/
def HalfR (M v : Nat) (u : Nat) : Prop := u < M ∧ 2 * u % M = v % M

def HalfPost (k M v : Nat) (w : World) (e : Ending) (w' : World) : Prop :=
  ∃ (g : Nat) (zs : List Nat), e = .returned (.slice (some ⟨g, 0, none⟩) k k) ∧ Own w' g 22 .u64 zs ∧ zs.length = k ∧ Ok zs ∧ HalfR M v (val zs) ∧ Below w.heap.size w w'

set_option maxHeartbeats 1000000 in
/-- chirographref02.Half -/
theorem half_any (A M : Option Addr) (k ca cm : Nat) (xs ms : List Nat) (w : World) (hk0 : 0 < k) (hk8 : k ≤ 8) (hca : k ≤ ca) (hca' : ca ≤ maxLen) (hcm : k ≤ cm) (hcm' : cm ≤ maxLen) (hx : xs.length = k) (hm : ms.length = k) (ox : Ok xs) (om : Ok ms) (sx : Sl w .u64 A xs) (sm : Sl w .u64 M ms)
    (hlt : val xs < val ms) (hodd : nth ms 0 % 2 = 1) :
    Calls Try.prog 33 #[.slice A k ca, .slice M k cm] w (HalfPost k (val ms) (val xs) w) := by
  have hmk := run_mk k (by omega)
  have hpar : ∀ l : List Nat, Ok l → nth l 0 % 2 = val l % 2 := fun l ol => by rw [getD_val ol, pw_zero, Nat.div_one]; omega
  have hom : val ms % 2 = 1 := by rw [← hpar ms om]; exact hodd
  have hxl : val xs < pw k := by have := val_lt ox; rwa [hx] at this
  have Hx := Lib.hid hx
  obtain ⟨ba, offa, rfl, hla, hca0⟩ := sx (by omega)
  have hx0 := hca0 0 (by omega)
  rw [Nat.add_zero] at hx0
  have bx0 := ox.getD 0
  by_cases hp : nth xs 0 % 2 = 1
  · have ht : (((nth xs 0 : Nat) : Int) % 2 == 1) = true := by rw [show ((nth xs 0 : Nat) : Int) % 2 = ((nth xs 0 % 2 : Nat) : Int) from rfl, hp]; rfl
    have hxp : val xs % 2 = 1 := by rw [← hpar xs ox]; exact hp
    have D0 := Lib.hid (radd_any (some ⟨ba, offa, none⟩) M k ca k cm k k k xs ms w hca hca' hcm hcm' (by omega) (by omega) (Nat.max_self k) hx hm ox om sx sm)
    have HR := Lib.hid (fun u (h : u = (val xs + val ms) / 2) => show HalfR (val ms) (val xs) u from ⟨by omega, by subst h; rw [show 2 * ((val xs + val ms) / 2) = val xs + val ms by omega, Nat.add_mod_right]⟩)
    clear hx hm hpar hom hxl hxp hp hca0 hlt
    go_enter Try.func33, Try.ntmps33
    go_wp2_with fail
    refine (D0.out).mono ?_
    rintro e w1 ⟨g1, ss, c1, rfl, o1, l1, os, hc1, v1, b1⟩
    have hsl := val_lt os
    rw [l1] at hsl
    have hS : val (ss ++ [c1]) = val xs + val ms := by rw [val_append, l1, val_cons, val_nil, Nat.mul_zero, Nat.add_zero]; exact v1
    have htop : val (ss ++ [c1]) / pw k = c1 := by rw [val_append, l1, val_cons, val_nil, Nat.mul_zero, Nat.add_zero, Nat.add_mul_div_left _ _ (pw_pos k), Nat.div_eq_of_lt hsl, Nat.zero_add]
    have HtopS := Lib.hid htop
    have HS := Lib.hid hS
    have L1 := Lib.hid l1
    have ss1 : Sl w1 .u64 (some ⟨g1, 0, none⟩) ss := Sl.of_own o1
    clear hsl hS htop l1 v1 hx0 ht
    go_wp2_with fail
    go_loopw [9, 5] (HalfRel (val (ss ++ [c1])) k (w1).heap.size (w1)) (fun i _ _ => (intOf i + 1).toNat)
    case atStart =>
      refine ⟨k, List.replicate k 0, Nat.le_refl _, rfl, ?_, List.length_replicate, Ok.replicate _, Own.new _ _ _ _, (Below.refl _ _).alloc (Nat.le_refl _) _, ?_, fun t ht => nth_replicate _ _⟩
      · refine congrArg _ ?_
        unfold halfBit; rw [HtopS.out]; exact congrArg Int.ofNat (by omega)
      · rw [HtopS.out, val_replicate]; rw [show c1 / 2 = 0 by omega, Nat.zero_mul]
    case round =>
      obtain ⟨q, zs, hq, hi, rfl, hz, oz, own, hb, hval, hzero⟩ := hrel
      have Hv := Lib.hid hval
      have Hz := Lib.hid hz
      have Hown := Lib.hid own
      have H0 := Lib.hid hzero
      clear hval hzero
      rcases q with _ | j
      · subst hi
        clear own hz
        go_wp2
        go_ret
        have h := Hv.out
        rw [pw_zero, Nat.div_one, Nat.mul_one] at h
        exact ⟨_, zs, rfl, Hown.out, Hz.out, oz, HR.out _ (by rw [h, HS.out]), b1.trans (hb.mono b1.size)⟩
      · obtain rfl : _ = Value.int .i64 (j : Int) := hi.trans (int_eq (by omega))
        clear hi
        obtain ⟨bs, offs, hss, hls, hcs⟩ := ss1.at2 hb (by have := L1.out; omega)
        injection hss with hss; injection hss with hss1 hss2; subst hss1; subst hss2
        have hc2 := hcs j (by have := L1.out; omega)
        rw [Nat.zero_add] at hc2
        have hcell := own.cell (i := j) (by omega)
        have hfr := own.frozen j
        have bs' := os.getD j
        have hml := halfBit_lt (val (ss ++ [c1])) (j + 1)
        clear own hz hcs
        go_wp2_with fail
        refine ⟨HalfRel.step os hc1 L1.out (by omega) Hz.out oz Hown.out hb (Nat.le_refl _) Hv.out H0.out rfl ?_ ?_, by simp [intOf]⟩
        · omega
        · omega
  · have ht : (((nth xs 0 : Nat) : Int) % 2 == 1) = false := by rw [show ((nth xs 0 : Nat) : Int) % 2 = ((nth xs 0 % 2 : Nat) : Int) from rfl, show nth xs 0 % 2 = 0 by omega]; rfl
    have hxp : val xs % 2 = 0 := by rw [← hpar xs ox]; omega
    have hS : val (xs ++ [0]) = val xs := by rw [val_append, val_cons, val_nil]; simp
    have HR := Lib.hid (fun u (h : u = val xs / 2) => show HalfR (val ms) (val xs) u from ⟨by omega, by subst h; rw [show 2 * (val xs / 2) = val xs by omega]⟩)
    have htop : val (xs ++ [0]) / pw k = 0 := by rw [hS, Nat.div_eq_of_lt hxl]
    have HtopS := Lib.hid htop
    have HS := Lib.hid hS
    clear hx hm hpar hom hxl hxp hp hca0 hlt hS htop
    go_enter Try.func33, Try.ntmps33
    go_wp2_with fail
    go_loopw [9, 5] (HalfRel (val (xs ++ [0])) k (w).heap.size (w)) (fun i _ _ => (intOf i + 1).toNat)
    case atStart =>
      refine ⟨k, List.replicate k 0, Nat.le_refl _, rfl, ?_, List.length_replicate, Ok.replicate _, Own.new _ _ _ _, (Below.refl _ _).alloc (Nat.le_refl _) _, ?_, fun t ht => nth_replicate _ _⟩
      · refine congrArg _ ?_
        unfold halfBit; rw [HtopS.out]; rfl
      · rw [HtopS.out, val_replicate]; rw [Nat.zero_div, Nat.zero_mul]
    case round =>
      obtain ⟨q, zs, hq, hi, rfl, hz, oz, own, hb, hval, hzero⟩ := hrel
      have Hv := Lib.hid hval
      have Hz := Lib.hid hz
      have Hown := Lib.hid own
      have H0 := Lib.hid hzero
      clear hval hzero
      rcases q with _ | j
      · subst hi
        clear own hz
        go_wp2
        go_ret
        have h := Hv.out
        rw [pw_zero, Nat.div_one, Nat.mul_one] at h
        exact ⟨_, zs, rfl, Hown.out, Hz.out, oz, HR.out _ (by rw [h, HS.out]), hb⟩
      · obtain rfl : _ = Value.int .i64 (j : Int) := hi.trans (int_eq (by omega))
        clear hi
        obtain ⟨bs, offs, hss, hls, hcs⟩ := sx.at2 hb (by have := Hx.out; omega)
        injection hss with hss; injection hss with hss1 hss2; subst hss1; subst hss2
        have hc2 := hcs j (by have := Hx.out; omega)
        have hcell := own.cell (i := j) (by omega)
        have hfr := own.frozen j
        have bs' := ox.getD j
        have hml := halfBit_lt (val (xs ++ [0])) (j + 1)
        clear own hz hcs
        go_wp2_with fail
        refine ⟨HalfRel.step ox (Nat.zero_le _) Hx.out (by omega) Hz.out oz Hown.out hb (Nat.le_refl _) Hv.out H0.out rfl ?_ ?_, by simp [intOf]⟩
        · omega
        · omega
end Go.Proofs.Ytfkpcmjmibbmbaa
