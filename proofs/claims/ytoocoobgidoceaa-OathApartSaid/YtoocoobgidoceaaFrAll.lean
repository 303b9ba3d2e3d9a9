import Derived.Test.YtoocoobgidoceaaMontX
import Derived.Test.YtoocoobgidoceaaSpAll
import Derived.Deep.CutRange
import Derived.Deep.RegionWith
import Derived.DeepKeys
import Derived.Laws.StructEq
namespace Go.Proofs.Ytoocoobgidoceaa
open Go.RowKit
set_option linter.unusedVariables false

def rL : List Nat := [18446744069414584321, 6034159408538082302, 3691218898639771653, 8353516859464449352]
def sqL : List Nat := [14526898881837571181, 3129137299524312099, 419701826671360399, 524908885293268753]
def oneL : List Nat := [1, 0, 0, 0]
def rN : Nat := 52435875175126190479447740508185965837690552500527637822603658699938581184513
theorem rL_val : val rL = rN := by decide +kernel
theorem rL_ok : Ok rL := by unfold Ok rL; decide +kernel
theorem rL_len : rL.length = 4 := rfl
theorem sqL_ok : Ok sqL := by unfold Ok sqL; decide +kernel
theorem oneL_ok : Ok oneL := by unfold Ok oneL; decide +kernel
theorem rN_odd : rN % 2 = 1 := by decide +kernel
theorem rN_two : 2 * rN < pw 4 := by decide +kernel
theorem rN_three : pw 4 < 3 * rN := by decide +kernel
theorem rN_pos : 0 < rN := by decide +kernel
theorem sqL_val : val sqL = pw 4 * pw 4 % rN := by decide +kernel
theorem oneL_val : val oneL = 1 := by decide +kernel
theorem rL_odd : nth rL 0 % 2 = 1 := by decide +kernel
theorem rL_neg : NegIs (nth rL 0) 18446744069414584319 := ⟨by decide +kernel, by decide +kernel, by decide +kernel⟩

/-- A number of 256 bits, as limbs. -/
def fl (v : Nat) : List Nat := [v % 18446744073709551616, v / pw 1 % 18446744073709551616, v / pw 2 % 18446744073709551616, v / pw 3 % 18446744073709551616]
theorem fl_len (v : Nat) : (fl v).length = 4 := rfl
theorem fl_ok (v : Nat) : Ok (fl v) := by
  unfold fl
  refine Ok.cons (Nat.mod_lt _ (by decide)) (Ok.cons (Nat.mod_lt _ (by decide)) (Ok.cons (Nat.mod_lt _ (by decide)) (Ok.cons (Nat.mod_lt _ (by decide)) Ok.nil)))
theorem fl_val {v : Nat} (h : v < pw 4) : val (fl v) = v := by
  unfold fl
  simp only [val, show pw 1 = 18446744073709551616 from rfl, show pw 2 = 18446744073709551616 * 18446744073709551616 from rfl, show pw 3 = 18446744073709551616 * (18446744073709551616 * 18446744073709551616) from rfl, show pw 4 = 18446744073709551616 * (18446744073709551616 * (18446744073709551616 * 18446744073709551616)) from rfl] at *
  omega
theorem fl_of {zs : List Nat} {v : Nat} (hl : zs.length = 4) (ho : Ok zs) (hv : val zs = v) : zs = fl v := by
  refine val_inj ho (fl_ok v) (by rw [hl, fl_len]) ?_
  rw [hv, fl_val]
  rw [← hv, ← hl]
  exact val_lt ho
theorem rN_lt : rN < pw 4 := by have := rN_two; have := rN_pos; omega

/-- In the form in which it is multiplied. -/
def mgt (a : Nat) : Nat := a * pw 4 % rN
theorem mgt_lt (a : Nat) : mgt a < rN := Nat.mod_lt _ rN_pos
theorem mgt_val (a : Nat) : val (fl (mgt a)) = mgt a := fl_val (Nat.lt_trans (mgt_lt a) rN_lt)
theorem mgt_mod (a : Nat) : mgt (a % rN) = mgt a := by unfold mgt; rw [Nat.mod_mul_mod]
theorem cancel {x y : Nat} (h : x * pw 4 % rN = y * pw 4 % rN) : x % rN = y % rN := by
  rw [pw_two] at h
  exact mul_cancel_mod rN_odd _ h
theorem mgt_prod {a b x : Nat} (hx : x < rN) (h : x * pw 4 % rN = mgt a * mgt b % rN) : x = mgt (a * b) := by
  have h1 : x * pw 4 % rN = (a * b * pw 4) * pw 4 % rN := by
    rw [h]
    unfold mgt
    rw [← Nat.mul_mod, Nat.mul_mul_mul_comm, Nat.mul_assoc (a * b)]
  have h2 := cancel h1
  rw [Nat.mod_eq_of_lt hx] at h2
  exact h2
theorem mgt_in {a x : Nat} (hx : x < rN) (h : x * pw 4 % rN = a * (pw 4 * pw 4 % rN) % rN) : x = mgt a := by
  have h1 : x * pw 4 % rN = (a * pw 4) * pw 4 % rN := by
    rw [h, Nat.mul_mod_mod, Nat.mul_assoc]
  have h2 := cancel h1
  rw [Nat.mod_eq_of_lt hx] at h2
  exact h2
theorem mgt_out {a x : Nat} (hx : x < rN) (h : x * pw 4 % rN = mgt a * 1 % rN) : x = a % rN := by
  have h1 : x * pw 4 % rN = a * pw 4 % rN := by
    rw [h, Nat.mul_one]; unfold mgt; rw [Nat.mod_mod]
  have h2 := cancel h1
  rw [Nat.mod_eq_of_lt hx] at h2
  exact h2
theorem mgt_add (a b : Nat) : (mgt a + mgt b) % rN = mgt (a + b) := by
  unfold mgt
  rw [← Nat.add_mod, Nat.add_mul]
end Go.Proofs.Ytoocoobgidoceaa
namespace Go.Proofs.Ytoocoobgidoceaa
open Go.RowKit
set_option linter.unusedVariables false

theorem wpList_store_new1 {P : Program} {ops : Array Oper} {rest : List Oper} {o : Oper} {a : Act} {w : World} {A : Obj} {Q : Exit → Act → World → Prop} (hgd : o.guard = none) (ty : TypeId) (x y : Operand) (ho : o.op = .store ty x y)
    (k : IntKind) (zs : List Nat) (hx : a.eval x = .pointer (some ⟨w.heap.size + 1, 0, none⟩)) (hy : a.eval y = .agg (lim k zs))
    (t : TypeId) (old : Array Value) (hi : (P.info? ty).map (·.size) = some zs.length)
    (hold : old.size = zs.length) (h : wpList P ops Q rest (a.put o.dst undef) ((w.alloc A).alloc (.cells (lim k zs) t))) : wpList P ops Q (o :: rest) a ((w.alloc A).alloc (.cells old t)) := by
  have e : (w.alloc A).heap.size = w.heap.size + 1 := by simp
  exact wpList_store_new hgd ty x y ho k zs (by rw [hx, e]) hy t old hi hold h
theorem OwnX.own {w : World} {g : Nat} {T : TypeId} {zs : List Nat} (h : OwnX [] w g T zs) : Own w g T .u64 zs := by
  have e : lim .u64 zs ++ ([] : List Value).toArray = lim .u64 zs := by simp
  unfold OwnX at h; rw [e] at h; exact h
theorem Own.grew {w w' : World} {g go : Nat} {T : TypeId} {zs : List Nat} (h : Own w g T .u64 zs) (hg : w.grownBy w' (some go)) (hne : g ≠ go) : Own w' g T .u64 zs :=
  (hg.block g h.lt (fun e => hne (by injection e))).trans h
def FrPost (v : Nat) (w : World) (e : Ending) (w' : World) : Prop := e = .returned (.agg (lim .u64 (fl v))) ∧ Below w.heap.size w w'

set_option maxHeartbeats 400000 in
/-- core.R -/
theorem coreR_any (w : World) :
    Calls Try.prog 38 #[] w fun e w' => e = .returned (.agg (lim .u64 rL)) ∧ Below w.heap.size w w' := by
  go_enter Try.func38, Try.ntmps38
  have o1 := Own.new w 35 .u64 rL
  go_wp2_with (first | refine wpList_build_to rfl 35 _ rfl (lim .u64 rL) (by kernel_rfl) ?_ | refine wpList_store_new rfl 35 (.tmp 0) (.tmp 1) rfl .u64 rL rfl rfl 35 _ (by kernel_rfl) rfl ?_)
  exact bodyPost_ret (results_cell_row rfl _ _ w.heap.size 35 (lim .u64 rL) (0, 0) (.array 4 33) rfl o1 (by kernel_rfl) rfl (by kernel_rfl)) rfl ⟨rfl, (Below.refl _ _).alloc (Nat.le_refl _) _⟩

set_option maxHeartbeats 1000000 in
/-- core.InS -/
theorem ins_any (xs : List Nat) (w : World) (hx : xs.length = 4) (ox : Ok xs) :
    Calls Try.prog 34 #[.agg (lim .u64 xs)] w (FrPost (mgt (val xs)) w) := by
  have D1 := Lib.hid (fun W => coreR_any W)
  have hal1 : Try.prog.arrayLen 35 = 4 := by kernel_rfl
  have hal2 : Try.prog.arrayLen 60 = 4 := by kernel_rfl
  have o1 := ((Own.new w 35 .u64 xs).alloc (.cells (lim .u64 [0, 0, 0, 0]) 60)).alloc (.cells (lim .u64 [0, 0, 0, 0]) 60)
  have o2 := (own_new1 w (.cells (lim .u64 xs) 35) 60 .u64 [0, 0, 0, 0]).alloc (.cells (lim .u64 [0, 0, 0, 0]) 60)
  have o3 := own_new2 w (.cells (lim .u64 xs) 35) (.cells (lim .u64 [0, 0, 0, 0]) 60) 60 .u64 [0, 0, 0, 0]
  have b0 := (((Below.refl w.heap.size w).alloc (Nat.le_refl _) (.cells (lim .u64 xs) 35)).alloc (by simp) (.cells (lim .u64 [0, 0, 0, 0]) 60)).alloc (by simp; omega) (.cells (lim .u64 [0, 0, 0, 0]) 60)
  have Hx := Lib.hid hx
  clear hx
  go_enter Try.func34, Try.ntmps34
  go_wp2_with fail
  refine (D1.out _).mono ?_
  rintro e w1 ⟨rfl, b1⟩
  have p1 := (o1.bel b1).alloc (.cells (lim .u64 rL) 35) |>.alloc (.cells (lim .u64 sqL) 60)
  have p2 := (o2.bel b1).alloc (.cells (lim .u64 rL) 35) |>.alloc (.cells (lim .u64 sqL) 60)
  have p3 := (o3.bel b1).alloc (.cells (lim .u64 rL) 35) |>.alloc (.cells (lim .u64 sqL) 60)
  have p4 := (Own.new w1 35 .u64 rL).alloc (.cells (lim .u64 sqL) 60)
  have p5 := own_new1 w1 (.cells (lim .u64 rL) 35) 60 .u64 sqL
  have b2 := ((b0.trans (b1.mono b0.size)).alloc (b0.trans (b1.mono b0.size)).size (.cells (lim .u64 rL) 35)).alloc (Nat.le_trans (b0.trans (b1.mono b0.size)).size (by simp)) (.cells (lim .u64 sqL) 60)
  have hl3 : w.heap.size + 2 < w1.heap.size := o3.bel b1 |>.lt
  clear o1 o2 o3 b1 b0
  go_wp2_with (first | refine wpList_store_new rfl 35 (.tmp 4) (.tmp 6) rfl .u64 rL rfl rfl 35 _ (by kernel_rfl) rfl ?_ | refine wpList_build_to rfl 60 _ rfl (lim .u64 sqL) (by kernel_rfl) ?_ | refine wpList_store_new1 rfl 60 (.tmp 5) (.tmp 7) rfl .u64 sqL rfl rfl 60 _ (by kernel_rfl) rfl ?_)
  generalize (w1.alloc (.cells (lim .u64 rL) 35)).alloc (.cells (lim .u64 sqL) 60) = W2 at p1 p2 p3 p4 p5 b2 ⊢
  go_still_tail 4, (by kernel_rfl)
  go_wp2_with fail
  have p3' : Own W2.drew (w.heap.size + 1 + 1) 60 .u64 [0, 0, 0, 0] := p3
  have hlt : val sqL < val rL := by decide +kernel
  refine (product_x [] (w.heap.size + 1 + 1) 4 4 4 4 4 18446744069414584319 60 (some ⟨w.heap.size, 0, none⟩) (some ⟨w1.heap.size + 1, 0, none⟩) (some ⟨w1.heap.size, 0, none⟩) [0, 0, 0, 0] xs sqL rL W2.drew (by decide) (by decide) p3'.x0 rfl Hx.out rfl rfl ox sqL_ok rL_ok (Sl.of_own (Own.drew p1)) (Sl.of_own (Own.drew p5)) (Sl.of_own (Own.drew p4)) (Nat.le_refl _) rL_neg rL_odd hlt).mono ?_
  rintro e w3 ⟨zs, rfl, oz, lz, kz, hz, hzz, hg⟩
  have q3 : Own w3 (w.heap.size + 1 + 1) 60 .u64 zs := oz.own
  have q2 : Own w3 (w.heap.size + 1) 60 .u64 [0, 0, 0, 0] := (Own.drew p2).grew hg (by omega)
  have b3 : Below w.heap.size w w3 := below_grown_own b2.drew hg (by omega)
  have Lz := Lib.hid lz
  rw [rL_val] at hz hzz
  have he : zs = fl (mgt (val xs)) := fl_of lz kz (mgt_in hz (by rw [hzz, sqL_val]))
  have Hz := Lib.hid he
  clear p1 p2 p3 p4 p5 b2 hlt hg oz lz hz hzz he
  go_wp2_with (first | refine own_load q3 rfl 60 (.tmp 3) rfl rfl 4 33 Lz.out (by kernel_rfl) (by kernel_rfl) ?_ | refine wpList_store_row rfl 60 (.tmp 2) (.tmp 13) rfl (w.heap.size + 1) (lim .u64 zs) rfl rfl 60 _ q2 (by rw [lim_size, Lz.out]; kernel_rfl) (by rw [lim_size, lim_size, Lz.out]; rfl) (lim_one _ _) ?_)
  have q2' : Own (w3.setRow (w.heap.size + 1) (lim .u64 zs)) (w.heap.size + 1) 60 .u64 zs := setRow_heap _ _ _ _ _ _ q2
  exact bodyPost_ret (results_cell_row rfl _ _ (w.heap.size + 1) 60 (lim .u64 zs) (0, 0) (.array 4 33) rfl q2' (by kernel_rfl) rfl (by rw [lim_size, Lz.out]; kernel_rfl)) rfl ⟨by rw [Hz.out], below_setRow b3 (by omega) _⟩

set_option maxHeartbeats 1000000 in
/-- (core.S).Out -/
theorem sout_any (a : Nat) (w : World) :
    Calls Try.prog 29 #[.agg (lim .u64 (fl (mgt a)))] w (FrPost (a % rN) w) := by
  have hx := fl_len (mgt a)
  have ox := fl_ok (mgt a)
  have hv := mgt_val a
  generalize fl (mgt a) = xs at *
  have Hv := Lib.hid hv
  clear hv
  have D1 := Lib.hid (fun W => coreR_any W)
  have hal1 : Try.prog.arrayLen 35 = 4 := by kernel_rfl
  have hal2 : Try.prog.arrayLen 60 = 4 := by kernel_rfl
  have o1 := ((Own.new w 60 .u64 xs).alloc (.cells (lim .u64 [0, 0, 0, 0]) 35)).alloc (.cells (lim .u64 [0, 0, 0, 0]) 35)
  have o2 := (own_new1 w (.cells (lim .u64 xs) 60) 35 .u64 [0, 0, 0, 0]).alloc (.cells (lim .u64 [0, 0, 0, 0]) 35)
  have o3 := own_new2 w (.cells (lim .u64 xs) 60) (.cells (lim .u64 [0, 0, 0, 0]) 35) 35 .u64 [0, 0, 0, 0]
  have b0 := (((Below.refl w.heap.size w).alloc (Nat.le_refl _) (.cells (lim .u64 xs) 60)).alloc (by simp) (.cells (lim .u64 [0, 0, 0, 0]) 35)).alloc (by simp; omega) (.cells (lim .u64 [0, 0, 0, 0]) 35)
  have Hx := Lib.hid hx
  clear hx
  go_enter Try.func29, Try.ntmps29
  go_wp2_with fail
  refine (D1.out _).mono ?_
  rintro e w1 ⟨rfl, b1⟩
  have p1 := (o1.bel b1).alloc (.cells (lim .u64 rL) 35) |>.alloc (.cells (lim .u64 oneL) 60)
  have p2 := (o2.bel b1).alloc (.cells (lim .u64 rL) 35) |>.alloc (.cells (lim .u64 oneL) 60)
  have p3 := (o3.bel b1).alloc (.cells (lim .u64 rL) 35) |>.alloc (.cells (lim .u64 oneL) 60)
  have p4 := (Own.new w1 35 .u64 rL).alloc (.cells (lim .u64 oneL) 60)
  have p5 := own_new1 w1 (.cells (lim .u64 rL) 35) 60 .u64 oneL
  have b2 := ((b0.trans (b1.mono b0.size)).alloc (b0.trans (b1.mono b0.size)).size (.cells (lim .u64 rL) 35)).alloc (Nat.le_trans (b0.trans (b1.mono b0.size)).size (by simp)) (.cells (lim .u64 oneL) 60)
  have hl3 : w.heap.size + 2 < w1.heap.size := o3.bel b1 |>.lt
  clear o1 o2 o3 b1 b0
  go_wp2_with (first | refine wpList_store_new rfl 35 (.tmp 4) (.tmp 6) rfl .u64 rL rfl rfl 35 _ (by kernel_rfl) rfl ?_ | refine wpList_build_to rfl 60 _ rfl (lim .u64 oneL) (by kernel_rfl) ?_ | refine wpList_store_new1 rfl 60 (.tmp 5) (.tmp 7) rfl .u64 oneL rfl rfl 60 _ (by kernel_rfl) rfl ?_)
  generalize (w1.alloc (.cells (lim .u64 rL) 35)).alloc (.cells (lim .u64 oneL) 60) = W2 at p1 p2 p3 p4 p5 b2 ⊢
  go_still_tail 4, (by kernel_rfl)
  go_wp2_with fail
  have p3' : Own W2.drew (w.heap.size + 1 + 1) 35 .u64 [0, 0, 0, 0] := p3
  have hlt : val oneL < val rL := by decide +kernel
  refine (product_x [] (w.heap.size + 1 + 1) 4 4 4 4 4 18446744069414584319 35 (some ⟨w.heap.size, 0, none⟩) (some ⟨w1.heap.size + 1, 0, none⟩) (some ⟨w1.heap.size, 0, none⟩) [0, 0, 0, 0] xs oneL rL W2.drew (by decide) (by decide) p3'.x0 rfl Hx.out rfl rfl ox oneL_ok rL_ok (Sl.of_own (Own.drew p1)) (Sl.of_own (Own.drew p5)) (Sl.of_own (Own.drew p4)) (Nat.le_refl _) rL_neg rL_odd hlt).mono ?_
  rintro e w3 ⟨zs, rfl, oz, lz, kz, hz, hzz, hg⟩
  have q3 : Own w3 (w.heap.size + 1 + 1) 35 .u64 zs := oz.own
  have q2 : Own w3 (w.heap.size + 1) 35 .u64 [0, 0, 0, 0] := (Own.drew p2).grew hg (by omega)
  have b3 : Below w.heap.size w w3 := below_grown_own b2.drew hg (by omega)
  have Lz := Lib.hid lz
  rw [rL_val] at hz hzz
  have he : zs = fl (a % rN) := fl_of lz kz (mgt_out hz (by rw [hzz, oneL_val, Hv.out]))
  have Hz := Lib.hid he
  clear p1 p2 p3 p4 p5 b2 hlt hg oz lz hz hzz he
  go_wp2_with (first | refine own_load q3 rfl 35 (.tmp 3) rfl rfl 4 33 Lz.out (by kernel_rfl) (by kernel_rfl) ?_ | refine wpList_store_row rfl 35 (.tmp 2) (.tmp 13) rfl (w.heap.size + 1) (lim .u64 zs) rfl rfl 35 _ q2 (by rw [lim_size, Lz.out]; kernel_rfl) (by rw [lim_size, lim_size, Lz.out]; rfl) (lim_one _ _) ?_)
  have q2' : Own (w3.setRow (w.heap.size + 1) (lim .u64 zs)) (w.heap.size + 1) 35 .u64 zs := setRow_heap _ _ _ _ _ _ q2
  exact bodyPost_ret (results_cell_row rfl _ _ (w.heap.size + 1) 35 (lim .u64 zs) (0, 0) (.array 4 33) rfl q2' (by kernel_rfl) rfl (by rw [lim_size, Lz.out]; kernel_rfl)) rfl ⟨by rw [Hz.out], below_setRow b3 (by omega) _⟩

set_option maxHeartbeats 1000000 in
/-- core.SmallS -/
theorem smalls_any (n : Nat) (w : World) (hn : n < 18446744073709551616) :
    Calls Try.prog 26 #[.int .u64 (n : Int)] w (FrPost (mgt n) w) := by
  have ov : val [n, 0, 0, 0] = n := by simp [val]
  have D1 := Lib.hid (fun W => ins_any [n, 0, 0, 0] W rfl (Ok.cons hn (Ok.replicate 3)))
  rw [ov] at D1
  have o2 := Own.new w 60 .u64 [0, 0, 0, 0]
  have b0 := (Below.refl w.heap.size w).alloc (Nat.le_refl _) (.cells (lim .u64 [0, 0, 0, 0]) 60)
  have lz : (fl (mgt n)).length = 4 := rfl
  clear hn ov
  go_enter Try.func26, Try.ntmps26
  go_wp2_with fail
  refine (D1.out _).mono ?_
  rintro e w3 ⟨rfl, b1⟩
  generalize hfz : fl (mgt n) = zs at *
  have Hf := Lib.hid hfz
  clear hfz
  have q2 := o2.bel b1
  have b3 := b0.trans (b1.mono b0.size)
  clear D1 o2 b1 b0
  go_wp2_with (refine wpList_store_row rfl 60 (.tmp 2) (.tmp 5) rfl w.heap.size (lim .u64 zs) rfl rfl 60 _ q2 (by rw [lim_size, lz]; kernel_rfl) (by rw [lim_size, lim_size, lz]; rfl) (lim_one _ _) ?_)
  have q2' : Own (w3.setRow w.heap.size (lim .u64 zs)) w.heap.size 60 .u64 zs := setRow_heap _ _ _ _ _ _ q2
  exact bodyPost_ret (results_cell_row rfl _ _ w.heap.size 60 (lim .u64 zs) (0, 0) (.array 4 33) rfl q2' (by kernel_rfl) rfl (by rw [lim_size, lz]; kernel_rfl)) rfl ⟨by rw [Hf.out], below_setRow b3 (Nat.le_refl _) _⟩
end Go.Proofs.Ytoocoobgidoceaa
namespace Go.Proofs.Ytoocoobgidoceaa
open Go.RowKit
set_option linter.unusedVariables false

def RdRel (xs : List Nat) (s g : Nat) (w : World) (i cy : Value) (wr : World) : Prop :=
  ∃ (k c : Nat) (zs : List Nat), k ≤ 4 ∧ i = .int .i64 (k : Int) ∧ cy = .int .u64 (c : Int) ∧ c ≤ 1 ∧ zs.length = 4 ∧ Ok zs ∧ Own wr s 60 .u64 xs ∧ Own wr (s + 1) 60 .u64 [0, 0, 0, 0] ∧ Own wr g 35 .u64 rL ∧ Own wr (g + 1) 60 .u64 zs ∧ Below s w wr ∧
    val (zs.take k) + val (rL.take k) = val (xs.take k) + pw k * c
theorem RdRel.step {xs zs : List Nat} {s g k c : Nat} {w wr : World} (ox : Ok xs) (hk : k < 4) (hc : c ≤ 1) (hz : zs.length = 4) (oz : Ok zs) (o1 : Own wr s 60 .u64 xs) (o2 : Own wr (s + 1) 60 .u64 [0, 0, 0, 0]) (o3 : Own wr g 35 .u64 rL) (o4 : Own wr (g + 1) 60 .u64 zs)
    (hb : Below s w wr) (hg : s + 1 < g) (h : val (zs.take k) + val (rL.take k) = val (xs.take k) + pw k * c) :
    RdRel xs s g w (.int .i64 ((k : Int) + 1)) (.int .u64 (subHi (nth xs k) (nth rL k) c : Nat)) (wr.setCell ⟨g + 1, k, none⟩ (.int .u64 (subLo (nth xs k) (nth rL k) c : Nat))) := by
  refine ⟨k + 1, _, zs.set k (subLo (nth xs k) (nth rL k) c), by omega, rfl, rfl, subHi_le _ _ _, by simpa using hz, oz.set (subLo_lt _ _ _) k, o1.far (by show s ≠ g + 1; omega) _, o2.far (by show s + 1 ≠ g + 1; omega) _, o3.far (by show g ≠ g + 1; omega) _, o4.set k _, hb.setCell (p := ⟨g + 1, k, none⟩) (by show s ≤ g + 1; omega) _, ?_⟩
  rw [val_set_take (by omega), val_take_succ xs, val_take_succ rL, pw_succ]
  exact sub_step _ _ _ _ _ _ _ (ox.getD k) (rL_ok.getD k) hc h

set_option maxHeartbeats 1000000 in
/-- core.reducedS -/
theorem reduceds_any (xs : List Nat) (w : World) (hx : xs.length = 4) (ox : Ok xs) (hlt : val xs < 2 * rN) :
    Calls Try.prog 37 #[.agg (lim .u64 xs)] w (FrPost (val xs % rN) w) := by
  have D1 := Lib.hid (fun W => coreR_any W)
  have hal1 : Try.prog.arrayLen 35 = 4 := by kernel_rfl
  have hal2 : Try.prog.arrayLen 60 = 4 := by kernel_rfl
  have o1 := (Own.new w 60 .u64 xs).alloc (.cells (lim .u64 [0, 0, 0, 0]) 60)
  have o2 := own_new1 w (.cells (lim .u64 xs) 60) 60 .u64 [0, 0, 0, 0]
  have b0 := ((Below.refl w.heap.size w).alloc (Nat.le_refl _) (.cells (lim .u64 xs) 60)).alloc (by simp) (.cells (lim .u64 [0, 0, 0, 0]) 60)
  have Hx := Lib.hid hx
  have Hlt := Lib.hid hlt
  clear hx hlt
  go_enter Try.func37, Try.ntmps37
  go_wp2_with fail
  refine (D1.out _).mono ?_
  rintro e w1 ⟨rfl, b1⟩
  have p1 := (o1.bel b1).alloc (.cells (lim .u64 rL) 35) |>.alloc (.cells (lim .u64 [0, 0, 0, 0]) 60)
  have p2 := (o2.bel b1).alloc (.cells (lim .u64 rL) 35) |>.alloc (.cells (lim .u64 [0, 0, 0, 0]) 60)
  have p4 := (Own.new w1 35 .u64 rL).alloc (.cells (lim .u64 [0, 0, 0, 0]) 60)
  have p5 := own_new1 w1 (.cells (lim .u64 rL) 35) 60 .u64 [0, 0, 0, 0]
  have b2 := ((b0.trans (b1.mono b0.size)).alloc (b0.trans (b1.mono b0.size)).size (.cells (lim .u64 rL) 35)).alloc (Nat.le_trans (b0.trans (b1.mono b0.size)).size (by simp)) (.cells (lim .u64 [0, 0, 0, 0]) 60)
  have hl3 : w.heap.size + 1 < w1.heap.size := o2.bel b1 |>.lt
  clear o1 o2 b1 b0
  go_wp2_with (refine wpList_store_new rfl 35 (.tmp 3) (.tmp 7) rfl .u64 rL rfl rfl 35 _ (by kernel_rfl) rfl ?_)
  have start : RdRel xs w.heap.size w1.heap.size w (.int .i64 0) (.int .u64 0) ((w1.alloc (.cells (lim .u64 rL) 35)).alloc (.cells (lim .u64 [0, 0, 0, 0]) 60)) :=
    ⟨0, 0, [0, 0, 0, 0], by decide, rfl, rfl, by decide, rfl, Ok.replicate 4, p1, p2, p4, p5, b2, by simp [val]⟩
  clear p1 p2 p4 p5 b2
  go_loopw [8, 5] (RdRel xs w.heap.size w1.heap.size w) (fun i _ _ => 4 - (intOf i).toNat)
  case atStart => exact start
  case round =>
    clear start
    obtain ⟨k, cy, zs, hk, rfl, rfl, hcy, hz, oz, o1, o2, o3, o4, hb, hval⟩ := hrel
    have Hz := Lib.hid hz
    have Hv := Lib.hid hval
    clear hval
    by_cases hk4 : k < 4
    · have hc1 := o1.cell (i := k) (by have := Hx.out; omega)
      have hc2 := o3.cell (i := k) (by rw [rL_len]; exact hk4)
      have hc3 := o4.cell (i := k) (by omega)
      have hf := o4.frozen k
      have hsub := sub64_at (nth xs k) (nth rL k) cy hcy
      clear hz
      have hk4' : (k : Int) < 4 := by omega
      go_wp2_with fail
      go_region
      all_goals go_wp2_with fail
      all_goals exact ⟨RdRel.step (wr := wr.drew) ox hk4 hcy Hz.out oz o1.drew o2.drew o3.drew o4.drew hb.drew (by omega) Hv.out, by simp [intOf]; omega⟩
    · obtain rfl : k = 4 := by omega
      have hvx := val_lt ox
      rw [Hx.out] at hvx
      have hvz := val_lt oz
      rw [hz] at hvz
      have hv := Hv.out
      rw [val_take_all _ (by omega), val_take_all _ (by rw [rL_len]; omega), val_take_all _ (by have := Hx.out; omega), rL_val] at hv
      have hr := Hlt.out
      by_cases hc0 : cy = 0
      · subst hc0
        have hval : zs = fl (val xs % rN) := fl_of hz oz (by
          rw [Nat.mul_zero, Nat.add_zero] at hv
          have hlt2 : val zs < rN := by omega
          rw [← hv, Nat.add_mod_right, Nat.mod_eq_of_lt hlt2])
        have Hval := Lib.hid hval
        clear hvx hvz hv hr hval hz
        go_wp2_with (first | refine own_load o4 rfl 60 (.tmp 4) rfl rfl 4 33 Hz.out (by kernel_rfl) (by kernel_rfl) ?_ | refine wpList_store_row rfl 60 (.tmp 2) (.tmp 27) rfl (w.heap.size + 1) (lim .u64 zs) rfl rfl 60 _ o2 (by rw [lim_size, Hz.out]; kernel_rfl) (by rw [lim_size, lim_size, Hz.out]; rfl) (lim_one _ _) ?_)
        have q2' : Own (wr.setRow (w.heap.size + 1) (lim .u64 zs)) (w.heap.size + 1) 60 .u64 zs := setRow_heap _ _ _ _ _ _ o2
        exact bodyPost_ret (results_cell_row rfl _ _ (w.heap.size + 1) 60 (lim .u64 zs) (0, 0) (.array 4 33) rfl q2' (by kernel_rfl) rfl (by rw [lim_size, Hz.out]; kernel_rfl)) rfl ⟨by rw [Hval.out], below_setRow hb (by omega) _⟩
      · obtain rfl : cy = 1 := by omega
        have hval : xs = fl (val xs % rN) := fl_of Hx.out ox (by
          have hlt2 : val xs < rN := by omega
          rw [Nat.mod_eq_of_lt hlt2])
        have Hval := Lib.hid hval
        clear hvx hvz hv hr hval hz hc0
        go_wp2_with (first | refine own_load o1 rfl 60 (.tmp 1) rfl rfl 4 33 Hx.out (by kernel_rfl) (by kernel_rfl) ?_ | refine wpList_store_row rfl 60 (.tmp 2) (.tmp 28) rfl (w.heap.size + 1) (lim .u64 xs) rfl rfl 60 _ o2 (by rw [lim_size, Hx.out]; kernel_rfl) (by rw [lim_size, lim_size, Hx.out]; rfl) (lim_one _ _) ?_)
        have q2' : Own (wr.setRow (w.heap.size + 1) (lim .u64 xs)) (w.heap.size + 1) 60 .u64 xs := setRow_heap _ _ _ _ _ _ o2
        exact bodyPost_ret (results_cell_row rfl _ _ (w.heap.size + 1) 60 (lim .u64 xs) (0, 0) (.array 4 33) rfl q2' (by kernel_rfl) rfl (by rw [lim_size, Hx.out]; kernel_rfl)) rfl ⟨by rw [← Hval.out], below_setRow hb (by omega) _⟩
end Go.Proofs.Ytoocoobgidoceaa
namespace Go.Proofs.Ytoocoobgidoceaa
open Go.RowKit
set_option linter.unusedVariables false

theorem addHi_le {x y c : Nat} (hx : x < 18446744073709551616) (hy : y < 18446744073709551616) (hc : c ≤ 1) : addHi x y c ≤ 1 := add_carry hx hy hc
theorem plus_val {a0 a1 a2 a3 b0 b1 b2 b3 z0 z1 z2 z3 c0 c1 c2 c3 : Nat} (h0 : z0 + 18446744073709551616 * c0 = a0 + b0 + 0) (h1 : z1 + 18446744073709551616 * c1 = a1 + b1 + c0) (h2 : z2 + 18446744073709551616 * c2 = a2 + b2 + c1) (h3 : z3 + 18446744073709551616 * c3 = a3 + b3 + c2)
    (hlt : val [a0, a1, a2, a3] + val [b0, b1, b2, b3] < pw 4) : val [z0, z1, z2, z3] = val [a0, a1, a2, a3] + val [b0, b1, b2, b3] := by
  simp only [val, show pw 4 = 18446744073709551616 * (18446744073709551616 * (18446744073709551616 * 18446744073709551616)) from rfl] at *
  omega
theorem add_eq (x y c : Nat) : addLo x y c + 18446744073709551616 * addHi x y c = x + y + c := by unfold addLo addHi; omega

set_option maxHeartbeats 1000000 in
/-- core.S.Plus -/
theorem splus_any (a b : Nat) (w : World) :
    Calls Try.prog 28 #[.agg (lim .u64 (fl (mgt a))), .agg (lim .u64 (fl (mgt b)))] w (FrPost (mgt (a + b)) w) := by
  have va := mgt_val a
  have vb := mgt_val b
  have la := mgt_lt a
  have lb := mgt_lt b
  have oa := fl_ok (mgt a)
  have ob := fl_ok (mgt b)
  have hv := mgt_add a b
  rw [← va, ← vb] at hv
  rw [← va] at la
  rw [← vb] at lb
  clear va vb
  obtain ⟨a0, a1, a2, a3, ha⟩ : ∃ a0 a1 a2 a3, fl (mgt a) = [a0, a1, a2, a3] := ⟨_, _, _, _, rfl⟩
  obtain ⟨b0, b1, b2, b3, hb⟩ : ∃ b0 b1 b2 b3, fl (mgt b) = [b0, b1, b2, b3] := ⟨_, _, _, _, rfl⟩
  rw [ha] at oa la hv ⊢
  rw [hb] at ob lb hv ⊢
  clear ha hb
  have x0 : a0 < 18446744073709551616 := oa.head
  have x1 : a1 < 18446744073709551616 := oa.tail.head
  have x2 : a2 < 18446744073709551616 := oa.tail.tail.head
  have x3 : a3 < 18446744073709551616 := oa.tail.tail.tail.head
  have y0 : b0 < 18446744073709551616 := ob.head
  have y1 : b1 < 18446744073709551616 := ob.tail.head
  have y2 : b2 < 18446744073709551616 := ob.tail.tail.head
  have y3 : b3 < 18446744073709551616 := ob.tail.tail.tail.head
  have f0 := add64_0 a0 b0 x0 y0
  have k0 := addHi_le x0 y0 (show (0 : Nat) ≤ 1 by decide)
  have e0 := add_eq a0 b0 0
  have t0 := addLo_lt a0 b0 0
  generalize addLo a0 b0 0 = z0 at f0 e0 t0
  generalize addHi a0 b0 0 = c0 at f0 k0 e0
  have f1 := add64_at a1 b1 c0 x1 y1 k0
  have k1 := addHi_le x1 y1 k0
  have e1 := add_eq a1 b1 c0
  have t1 := addLo_lt a1 b1 c0
  generalize addLo a1 b1 c0 = z1 at f1 e1 t1
  generalize addHi a1 b1 c0 = c1 at f1 k1 e1
  have f2 := add64_at a2 b2 c1 x2 y2 k1
  have k2 := addHi_le x2 y2 k1
  have e2 := add_eq a2 b2 c1
  have t2 := addLo_lt a2 b2 c1
  generalize addLo a2 b2 c1 = z2 at f2 e2 t2
  generalize addHi a2 b2 c1 = c2 at f2 k2 e2
  have f3 := add64_at a3 b3 c2 x3 y3 k2
  have e3 := add_eq a3 b3 c2
  have t3 := addLo_lt a3 b3 c2
  generalize addLo a3 b3 c2 = z3 at f3 e3 t3
  generalize addHi a3 b3 c2 = c3 at f3 e3
  have hv2 := rN_two
  have hsum := plus_val e0 e1 e2 e3 (by omega)
  have D1 := Lib.hid (fun W => reduceds_any [z0, z1, z2, z3] W rfl (Ok.cons t0 (Ok.cons t1 (Ok.cons t2 (Ok.cons t3 Ok.nil)))) (by rw [hsum]; omega))
  rw [hsum, hv] at D1
  clear hsum hv hv2 e0 e1 e2 e3 k0 k1 k2 t0 t1 t2 t3 x0 x1 x2 x3 y0 y1 y2 y3 la lb oa ob
  have hal2 : Try.prog.arrayLen 60 = 4 := by kernel_rfl
  obtain ⟨W, hW⟩ : ∃ W, (((w.alloc (.cells (lim .u64 [a0, a1, a2, a3]) 60)).alloc (.cells (lim .u64 [b0, b1, b2, b3]) 60)).alloc (.cells (lim .u64 [0, 0, 0, 0]) 60)).alloc (.cells (lim .u64 [0, 0, 0, 0]) 60) = W := ⟨_, rfl⟩
  have o1 : Own W w.heap.size 60 .u64 [a0, a1, a2, a3] := by rw [← hW]; exact (((Own.new w _ _ _).alloc _).alloc _).alloc _
  have o2 : Own W (w.heap.size + 1) 60 .u64 [b0, b1, b2, b3] := by rw [← hW]; exact ((own_new1 w _ _ _ _).alloc _).alloc _
  have o3 : Own W (w.heap.size + 1 + 1) 60 .u64 [0, 0, 0, 0] := by rw [← hW]; exact (own_new2 w _ _ _ _ _).alloc _
  have o4 : Own W (w.heap.size + 1 + 1 + 1) 60 .u64 [0, 0, 0, 0] := by
    rw [← hW]
    have := Own.new (((w.alloc (.cells (lim .u64 [a0, a1, a2, a3]) 60)).alloc (.cells (lim .u64 [b0, b1, b2, b3]) 60)).alloc (.cells (lim .u64 [0, 0, 0, 0]) 60)) 60 .u64 [0, 0, 0, 0]
    rwa [World.size_alloc, World.size_alloc, World.size_alloc] at this
  have b0' : Below w.heap.size w W := by rw [← hW]; exact ((((Below.refl w.heap.size w).alloc (Nat.le_refl _) _).alloc (by simp) _).alloc (by simp; omega) _).alloc (by simp; omega) _
  have ca0 : W.cell? ⟨w.heap.size, 0, none⟩ = some (.int .u64 (a0 : Nat)) := o1.cell (i := 0) (by simp)
  have cb0 : W.cell? ⟨w.heap.size + 1, 0, none⟩ = some (.int .u64 (b0 : Nat)) := o2.cell (i := 0) (by simp)
  have cz0 : W.cell? ⟨w.heap.size + 1 + 1 + 1, 0, none⟩ = some (.int .u64 ((0 : Nat) : Int)) := o4.cell (i := 0) (by simp)
  have cf0 : W.frozen? ⟨w.heap.size + 1 + 1 + 1, 0, none⟩ = false := o4.frozen 0
  obtain ⟨W0, hW0⟩ : ∃ U, W.setCell ⟨w.heap.size + 1 + 1 + 1, 0, none⟩ (.int .u64 (z0 : Nat)) = U := ⟨_, rfl⟩
  have q10 : Own W0 (w.heap.size) 60 .u64 [a0, a1, a2, a3] := by rw [← hW0]; exact o1.far (by intro h; simp at h; try omega) _
  have q20 : Own W0 (w.heap.size + 1) 60 .u64 [b0, b1, b2, b3] := by rw [← hW0]; exact o2.far (by intro h; simp at h; try omega) _
  have q30 : Own W0 (w.heap.size + 1 + 1) 60 .u64 [0, 0, 0, 0] := by rw [← hW0]; exact o3.far (by intro h; simp at h; try omega) _
  have q40 : Own W0 (w.heap.size + 1 + 1 + 1) 60 .u64 [z0, 0, 0, 0] := by rw [← hW0]; exact o4.set 0 z0
  have qb0 : Below w.heap.size w W0 := by rw [← hW0]; exact b0'.setCell (p := ⟨w.heap.size + 1 + 1 + 1, 0, none⟩) (by simp; omega) _
  have ca1 : W0.cell? ⟨w.heap.size, 1, none⟩ = some (.int .u64 (a1 : Nat)) := q10.cell (i := 1) (by simp)
  have cb1 : W0.cell? ⟨w.heap.size + 1, 1, none⟩ = some (.int .u64 (b1 : Nat)) := q20.cell (i := 1) (by simp)
  have cz1 : W0.cell? ⟨w.heap.size + 1 + 1 + 1, 1, none⟩ = some (.int .u64 ((0 : Nat) : Int)) := q40.cell (i := 1) (by simp)
  have cf1 : W0.frozen? ⟨w.heap.size + 1 + 1 + 1, 1, none⟩ = false := q40.frozen 1
  obtain ⟨W1, hW1⟩ : ∃ U, W0.setCell ⟨w.heap.size + 1 + 1 + 1, 1, none⟩ (.int .u64 (z1 : Nat)) = U := ⟨_, rfl⟩
  have q11 : Own W1 (w.heap.size) 60 .u64 [a0, a1, a2, a3] := by rw [← hW1]; exact q10.far (by intro h; simp at h; try omega) _
  have q21 : Own W1 (w.heap.size + 1) 60 .u64 [b0, b1, b2, b3] := by rw [← hW1]; exact q20.far (by intro h; simp at h; try omega) _
  have q31 : Own W1 (w.heap.size + 1 + 1) 60 .u64 [0, 0, 0, 0] := by rw [← hW1]; exact q30.far (by intro h; simp at h; try omega) _
  have q41 : Own W1 (w.heap.size + 1 + 1 + 1) 60 .u64 [z0, z1, 0, 0] := by rw [← hW1]; exact q40.set 1 z1
  have qb1 : Below w.heap.size w W1 := by rw [← hW1]; exact qb0.setCell (p := ⟨w.heap.size + 1 + 1 + 1, 1, none⟩) (by simp; omega) _
  have ca2 : W1.cell? ⟨w.heap.size, 2, none⟩ = some (.int .u64 (a2 : Nat)) := q11.cell (i := 2) (by simp)
  have cb2 : W1.cell? ⟨w.heap.size + 1, 2, none⟩ = some (.int .u64 (b2 : Nat)) := q21.cell (i := 2) (by simp)
  have cz2 : W1.cell? ⟨w.heap.size + 1 + 1 + 1, 2, none⟩ = some (.int .u64 ((0 : Nat) : Int)) := q41.cell (i := 2) (by simp)
  have cf2 : W1.frozen? ⟨w.heap.size + 1 + 1 + 1, 2, none⟩ = false := q41.frozen 2
  obtain ⟨W2, hW2⟩ : ∃ U, W1.setCell ⟨w.heap.size + 1 + 1 + 1, 2, none⟩ (.int .u64 (z2 : Nat)) = U := ⟨_, rfl⟩
  have q12 : Own W2 (w.heap.size) 60 .u64 [a0, a1, a2, a3] := by rw [← hW2]; exact q11.far (by intro h; simp at h; try omega) _
  have q22 : Own W2 (w.heap.size + 1) 60 .u64 [b0, b1, b2, b3] := by rw [← hW2]; exact q21.far (by intro h; simp at h; try omega) _
  have q32 : Own W2 (w.heap.size + 1 + 1) 60 .u64 [0, 0, 0, 0] := by rw [← hW2]; exact q31.far (by intro h; simp at h; try omega) _
  have q42 : Own W2 (w.heap.size + 1 + 1 + 1) 60 .u64 [z0, z1, z2, 0] := by rw [← hW2]; exact q41.set 2 z2
  have qb2 : Below w.heap.size w W2 := by rw [← hW2]; exact qb1.setCell (p := ⟨w.heap.size + 1 + 1 + 1, 2, none⟩) (by simp; omega) _
  have ca3 : W2.cell? ⟨w.heap.size, 3, none⟩ = some (.int .u64 (a3 : Nat)) := q12.cell (i := 3) (by simp)
  have cb3 : W2.cell? ⟨w.heap.size + 1, 3, none⟩ = some (.int .u64 (b3 : Nat)) := q22.cell (i := 3) (by simp)
  have cz3 : W2.cell? ⟨w.heap.size + 1 + 1 + 1, 3, none⟩ = some (.int .u64 ((0 : Nat) : Int)) := q42.cell (i := 3) (by simp)
  have cf3 : W2.frozen? ⟨w.heap.size + 1 + 1 + 1, 3, none⟩ = false := q42.frozen 3
  obtain ⟨W3, hW3⟩ : ∃ U, W2.setCell ⟨w.heap.size + 1 + 1 + 1, 3, none⟩ (.int .u64 (z3 : Nat)) = U := ⟨_, rfl⟩
  have q13 : Own W3 (w.heap.size) 60 .u64 [a0, a1, a2, a3] := by rw [← hW3]; exact q12.far (by intro h; simp at h; try omega) _
  have q23 : Own W3 (w.heap.size + 1) 60 .u64 [b0, b1, b2, b3] := by rw [← hW3]; exact q22.far (by intro h; simp at h; try omega) _
  have q33 : Own W3 (w.heap.size + 1 + 1) 60 .u64 [0, 0, 0, 0] := by rw [← hW3]; exact q32.far (by intro h; simp at h; try omega) _
  have q43 : Own W3 (w.heap.size + 1 + 1 + 1) 60 .u64 [z0, z1, z2, z3] := by rw [← hW3]; exact q42.set 3 z3
  have qb3 : Below w.heap.size w W3 := by rw [← hW3]; exact qb2.setCell (p := ⟨w.heap.size + 1 + 1 + 1, 3, none⟩) (by simp; omega) _
  clear o1 o2 o3 o4 b0' q10 q11 q12 q13 q20 q21 q22 q23 q30 q31 q32 q40 q41 q42 qb0 qb1 qb2
  go_enter Try.func28, Try.ntmps28
  go_upto_region 3 with fail
  rw [show (((w.alloc (.cells (lim .u64 [a0, a1, a2, a3]) 60)).alloc (.cells (lim .u64 [b0, b1, b2, b3]) 60)).alloc (.cells #[.int .u64 0, .int .u64 0, .int .u64 0, .int .u64 0] 60)).alloc (.cells #[.int .u64 0, .int .u64 0, .int .u64 0, .int .u64 0] 60) = W from hW]
  clear hW
  go_wp2_with (refine own_load q43 rfl 60 (.tmp 5) rfl rfl 4 33 rfl (by kernel_rfl) (by kernel_rfl) ?_)
  refine (D1.out _).mono ?_
  rintro e w5 ⟨rfl, b5⟩
  have r3 := q33.bel b5
  have bb := qb3.trans (b5.mono qb3.size)
  have Hl := Lib.hid (fl_len (mgt (a + b)))
  generalize hf : fl (mgt (a + b)) = zs at *
  have Hf := Lib.hid hf
  clear D1 hf
  go_wp2_with (refine wpList_store_row rfl 60 (.tmp 4) (.tmp 47) rfl (w.heap.size + 1 + 1) (lim .u64 zs) rfl rfl 60 _ r3 (by rw [lim_size, Hl.out]; kernel_rfl) (by rw [lim_size, lim_size, Hl.out]; rfl) (lim_one _ _) ?_)
  have q2' : Own (w5.setRow (w.heap.size + 1 + 1) (lim .u64 zs)) (w.heap.size + 1 + 1) 60 .u64 zs := setRow_heap _ _ _ _ _ _ r3
  exact bodyPost_ret (results_cell_row rfl _ _ (w.heap.size + 1 + 1) 60 (lim .u64 zs) (0, 0) (.array 4 33) rfl q2' (by kernel_rfl) rfl (by rw [lim_size, Hl.out]; kernel_rfl)) rfl ⟨by rw [Hf.out], below_setRow bb (by omega) _⟩
end Go.Proofs.Ytoocoobgidoceaa
namespace Go.Proofs.Ytoocoobgidoceaa
open Go.RowKit
set_option linter.unusedVariables false

theorem eqItems_lim4 (xs ys : List Nat) (hx : xs.length = 4) (hy : ys.length = 4) (w : World) : ∀ is : List Nat, (∀ i ∈ is, i < 4) →
    (Op.eqItems 9999 33 1 (lim .u64 xs) (lim .u64 ys) is).run Try.prog w = .ok (is.all fun i => nth xs i == nth ys i) w
  | [], _ => by simp [Op.eqItems]
  | i :: is, h => by
    have hi := h i (by simp)
    have hk : Try.prog.plainKey 33 = true := by kernel_rfl
    have p1 := run_part_plain (P := Try.prog) w hk (lim_get (k := .u64) (zs := xs) (i := i) (by omega))
    have p2 := run_part_plain (P := Try.prog) w hk (lim_get (k := .u64) (zs := ys) (i := i) (by omega))
    have p3 := run_equalIn_int (P := Try.prog) w 9998 33 .u64 .u64 (nth xs i : Int) (nth ys i : Int) (by kernel_rfl)
    have ih := eqItems_lim4 xs ys hx hy w is (fun j hj => h j (by simp [hj]))
    simp only [Op.eqItems, Nat.mul_one, Sem.run_bind, p1, p2, p3, Result.andThen_ok]
    rw [List.all_cons]
    by_cases e : nth xs i = nth ys i
    · rw [e]
      simp [ih]
    · have e' : ((nth xs i : Int) == (nth ys i : Int)) = false := by simp; omega
      have e2 : (nth xs i == nth ys i) = false := by simp [e]
      rw [e', e2]
      simp
theorem eq_lim4 (xs ys : List Nat) (hx : xs.length = 4) (hy : ys.length = 4) (w : World) :
    (Op.equalIn 10000 35 (.agg (lim .u64 xs)) (.agg (lim .u64 ys))).run Try.prog w = .ok (decide (xs = ys)) w := by
  have hi : ∃ i, Try.prog.info? 33 = some i := by
    have : (Try.prog.info? 33).isSome = true := by kernel_rfl
    exact Option.isSome_iff_exists.1 this
  obtain ⟨i, hi⟩ := hi
  have hc : Try.prog.cellsOf 33 = 1 := by kernel_rfl
  have h := run_equalIn_array (P := Try.prog) w 9999 (t := 35) (e := 33) (n := 4) (lim .u64 xs) (lim .u64 ys) (by kernel_rfl) hi
  rw [h, hc, eqItems_lim4 xs ys hx hy w _ (fun j hj => List.mem_range.1 hj)]
  congr 1
  by_cases e : xs = ys
  · subst e; simp
  · rw [decide_eq_false e, List.all_eq_false]
    apply Classical.byContradiction
    intro hn
    refine e (List.ext_getElem (by omega) fun j h1 h2 => ?_)
    apply Classical.byContradiction
    intro hne
    refine hn ⟨j, by simp; omega, ?_⟩
    rw [nth_eq h1, nth_eq h2]
    simpa using hne
theorem eq_four (f0 f1 f2 f3 : Nat) (w : World) : (Op.equalIn 10000 35 (.agg #[.int .u64 (f0 : Nat), .int .u64 (f1 : Nat), .int .u64 (f2 : Nat), .int .u64 (f3 : Nat)]) (.agg #[.int .u64 (f0 : Nat), .int .u64 (f1 : Nat), .int .u64 (f2 : Nat), .int .u64 (f3 : Nat)])).run Try.prog w = .ok true w := by
  have h := eq_lim4 [f0, f1, f2, f3] [f0, f1, f2, f3] rfl rfl w
  rw [decide_eq_true rfl] at h
  exact h
end Go.Proofs.Ytoocoobgidoceaa
