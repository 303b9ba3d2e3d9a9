import Derived.Test.YtoocoobgidoceaaFrD
import Derived.Test.YtoocoobgidoceaaSpAll
import Derived.Deep.RegionWith
namespace Go.Proofs.Ytoocoobgidoceaa
open Go.RowKit
set_option linter.unusedVariables false
theorem bytesN_lt (s : ByteArray) : ∀ x ∈ bytesN s, x < 256 := fun x hx => by
  unfold bytesN at hx
  obtain ⟨b, _, rfl⟩ := List.mem_map.1 hx
  exact b.toNat_lt
theorem index_strF (s : ByteArray) (j : Nat) (w : World) (hj : j < s.size) : (Instr.index 9 (.string s) (.int .i64 (j : Int))).run Try.prog w = .ok (.int .u8 (nth (bytesN s) j : Nat)) w := by
  have hu : Try.prog.underlying 9 = some .string := by kernel_rfl
  have hd : j < s.data.size := hj
  have e : nth (bytesN s) j = (s.data[j]'hd).toNat := by
    unfold bytesN nth
    rw [List.getD_eq_getElem?_getD, List.getElem?_map, Array.getElem?_toList, Array.getElem?_eq_getElem hd]
    rfl
  rw [e]
  simp only [Instr.index, Sem.run_bind, run_underlying hu, asIntOf, Sem.run_pure, Result.andThen_ok]
  simp only [Int.toNat_natCast, getElem?_pos s j hj]
  have h0 : (0 : Int) ≤ (j : Int) := by omega
  simp [h0, go_sem]
  rfl
/-- The number that the bytes are, the first one the highest. -/
def hN (l : List Nat) : Nat := l.foldl (fun h c => h * 256 + c) 0
theorem hN_succ {l : List Nat} {k : Nat} (h : k < l.length) : hN (l.take (k + 1)) = hN (l.take k) * 256 + nth l k := by
  unfold hN
  rw [List.take_add_one, List.foldl_append, nth_eq h, List.getElem?_eq_getElem h]
  rfl
theorem fl_zero : [0, 0, 0, 0] = fl (mgt (hN [])) := by
  show _ = fl (0 * pw 4 % rN)
  rw [Nat.zero_mul]; rfl
theorem fl4 (v : Nat) : ∃ a0 a1 a2 a3, fl v = [a0, a1, a2, a3] := ⟨_, _, _, _, rfl⟩
def FhRel (bs : List Nat) (s g : Nat) (w : World) (i : Value) (wr : World) : Prop :=
  ∃ k : Nat, k ≤ bs.length ∧ i = .int .i64 (k : Int) ∧ Own wr s 35 .u64 [0, 0, 0, 0] ∧ Own wr (s + 1) 60 .u64 (fl (mgt (hN (bs.take k)))) ∧ Own wr g 60 .u64 (fl (mgt 256)) ∧ Below s w wr

theorem own_four {w : World} {g : Nat} {T : TypeId} {zs : List Nat} {a0 a1 a2 a3 : Nat} (h : Own w g T .u64 zs) (hz : zs.length = 4) :
    Own ((((w.setCell ⟨g, 0, none⟩ (.int .u64 (a0 : Nat))).setCell ⟨g, 1, none⟩ (.int .u64 (a1 : Nat))).setCell ⟨g, 2, none⟩ (.int .u64 (a2 : Nat))).setCell ⟨g, 3, none⟩ (.int .u64 (a3 : Nat))) g T .u64 [a0, a1, a2, a3] := by
  have := (((h.set 0 a0).set 1 a1).set 2 a2).set 3 a3
  match zs, hz with
  | [z0, z1, z2, z3], _ => exact this
theorem own_four_far {w : World} {g b : Nat} {T : TypeId} {zs : List Nat} {a0 a1 a2 a3 : Nat} (h : Own w b T .u64 zs) (hb : b ≠ g) :
    Own ((((w.setCell ⟨g, 0, none⟩ (.int .u64 (a0 : Nat))).setCell ⟨g, 1, none⟩ (.int .u64 (a1 : Nat))).setCell ⟨g, 2, none⟩ (.int .u64 (a2 : Nat))).setCell ⟨g, 3, none⟩ (.int .u64 (a3 : Nat))) b T .u64 zs :=
  (((h.far hb _).far hb _).far hb _).far hb _
theorem below_four {B g : Nat} {v w : World} {a0 a1 a2 a3 : Nat} (h : Below B v w) (hb : B ≤ g) :
    Below B v ((((w.setCell ⟨g, 0, none⟩ (.int .u64 (a0 : Nat))).setCell ⟨g, 1, none⟩ (.int .u64 (a1 : Nat))).setCell ⟨g, 2, none⟩ (.int .u64 (a2 : Nat))).setCell ⟨g, 3, none⟩ (.int .u64 (a3 : Nat))) :=
  (((h.setCell (p := ⟨g, 0, none⟩) hb _).setCell (p := ⟨g, 1, none⟩) hb _).setCell (p := ⟨g, 2, none⟩) hb _).setCell (p := ⟨g, 3, none⟩) hb _
theorem Own.c4 {w : World} {g : Nat} {T : TypeId} {a0 a1 a2 a3 : Nat} (h : Own w g T .u64 [a0, a1, a2, a3]) :
    w.cell? ⟨g, 0, none⟩ = some (.int .u64 (a0 : Nat)) ∧ w.cell? ⟨g, 1, none⟩ = some (.int .u64 (a1 : Nat)) ∧ w.cell? ⟨g, 2, none⟩ = some (.int .u64 (a2 : Nat)) ∧ w.cell? ⟨g, 3, none⟩ = some (.int .u64 (a3 : Nat)) :=
  ⟨h.cell (i := 0) (by simp), h.cell (i := 1) (by simp), h.cell (i := 2) (by simp), h.cell (i := 3) (by simp)⟩

attribute [local irreducible] hN mgt
set_option maxHeartbeats 4000000 in
/-- fr.Hash -/
theorem fhash_any (s : ByteArray) (w : World) (hs : s.size ≤ maxLen) :
    Calls Try.prog 22 #[.string s] w (FrPost (hN (bytesN s) % rN) w) := by
  have D0 := Lib.hid (fun W => smalls_any 256 W (by decide))
  have hix : ∀ j, j < s.size → ∀ w, (Instr.index 9 (.string s) (.int .i64 (j : Int))).run Try.prog w = .ok (.int .u8 (nth (bytesN s) j : Nat)) w := fun j hj w => index_strF s j w hj
  have bl := bytesN_length s
  have bB := bytesN_lt s
  generalize bytesN s = bs at *
  obtain ⟨n, hn⟩ : ∃ n, s.size = n := ⟨_, rfl⟩
  have hsz : (s.size : Int) = (n : Int) := by omega
  rw [hn] at bl hix hs
  have o2 := (Own.new w 35 .u64 [0, 0, 0, 0]).alloc (.cells (lim .u64 [0, 0, 0, 0]) 60)
  have o3 := own_new1 w (.cells (lim .u64 [0, 0, 0, 0]) 35) 60 .u64 [0, 0, 0, 0]
  have b0 := ((Below.refl w.heap.size w).alloc (Nat.le_refl _) (.cells (lim .u64 [0, 0, 0, 0]) 35)).alloc (by simp) (.cells (lim .u64 [0, 0, 0, 0]) 60)
  clear hn
  unfold maxLen at hs
  have Hix := Lib.hid hix
  clear hix
  go_enter Try.func22, Try.ntmps22
  go_wp2_with fail
  refine (D0.out _).mono ?_
  rintro e w1 ⟨rfl, b1⟩
  have p2 := (o2.bel b1).alloc (.cells (lim .u64 (fl (mgt 256))) 60)
  have p3 := (o3.bel b1).alloc (.cells (lim .u64 (fl (mgt 256))) 60)
  have p4 := Own.new w1 60 .u64 (fl (mgt 256))
  have b2 := (b0.trans (b1.mono b0.size)).alloc (b0.trans (b1.mono b0.size)).size (.cells (lim .u64 (fl (mgt 256))) 60)
  have hl3 : w.heap.size + 1 < w1.heap.size := o3.bel b1 |>.lt
  have start : FhRel bs w.heap.size w1.heap.size w (.int .i64 0) (w1.alloc (.cells (lim .u64 (fl (mgt 256))) 60)) :=
    ⟨0, Nat.zero_le _, rfl, p2, by rw [List.take_zero, ← fl_zero]; exact p3, p4, b2⟩
  clear o2 o3 b1 b0 p2 p3 p4 b2 D0
  go_wp2_with (refine wpList_store_new rfl 60 (.tmp 4) (.tmp 6) rfl .u64 (fl (mgt 256)) rfl rfl 60 _ (by kernel_rfl) rfl ?_)
  go_loopw [9] (FhRel bs w.heap.size w1.heap.size w) (fun i _ => bs.length - (intOf i).toNat)
  case atStart => exact start
  case round =>
    clear start
    obtain ⟨k, hk, rfl, o2, o3, o4, hb⟩ := hrel
    by_cases hkn : k < bs.length
    · have hkn' : (k : Int) < (n : Int) := by omega
      have hidx := Hix.out k (by omega)
      have hx : nth bs k < 256 := bB _ (by rw [nth_eq hkn]; exact List.getElem_mem hkn)
      have HS := Lib.hid (hN_succ hkn)
      generalize hN (bs.take k) = h at *
      obtain ⟨x, hxe⟩ : ∃ x, nth bs k = x := ⟨_, rfl⟩
      rw [hxe] at hidx hx HS
      have hwx : IntKind.u64.wrap (x : Int) = (x : Int) := by rw [IntKind.wrap_u64]; omega
      have D1 := fun W => stimes_any h 256 W
      have D2 := fun W => smalls_any x W (by omega)
      have D3 := fun W => splus_any (h * 256) x W
      rw [← HS.out] at D3
      obtain ⟨a0, a1, a2, a3, ha⟩ := fl4 (mgt h)
      obtain ⟨b0, b1, b2, b3, hb'⟩ := fl4 (mgt 256)
      obtain ⟨c0, c1, c2, c3, hc⟩ := fl4 (mgt (h * 256))
      obtain ⟨d0, d1, d2, d3, hd⟩ := fl4 (mgt x)
      obtain ⟨e0, e1, e2, e3, he⟩ := fl4 (mgt (hN (bs.take (k + 1))))
      unfold FrPost at D1 D2 D3
      rw [ha] at o3
      rw [hb'] at o4
      have He := Lib.hid he
      have Hb := Lib.hid hb'
      rw [ha, hb', hc] at D1
      rw [hd] at D2
      rw [hc, hd, he] at D3
      clear HS ha hb' hc hd he hxe hx
      have D1 := Lib.hid D1
      have D2 := Lib.hid D2
      have D3 : ∀ W : World, Calls Try.prog 28 #[.agg (lim .u64 [c0, c1, c2, c3]), .agg (lim .u64 [d0, d1, d2, d3])] W fun e w' => e = .returned (.agg #[.int .u64 (e0 : Nat), .int .u64 (e1 : Nat), .int .u64 (e2 : Nat), .int .u64 (e3 : Nat)]) ∧ Below W.heap.size W w' := D3
      have D3 := Lib.hid D3
      go_wp2_with fail
      obtain ⟨ca0, ca1, ca2, ca3⟩ := o3.c4
      obtain ⟨cb0, cb1, cb2, cb3⟩ := o4.c4
      have o2d := o2.drew
      have o3d := o3.drew
      have o4d := o4.drew
      have hbd := below_drewN hb 1
      go_region_with (first
        | (go_at_call 27; refine (D1.out _).mono ?_; rintro e w5 ⟨rfl, b5⟩)
        | (go_at_call 26; refine (D2.out _).mono ?_; rintro e w6 ⟨rfl, b6⟩)
        | (go_at_call 28; refine (D3.out _).mono ?_; rintro e w7 ⟨rfl, b7⟩
           have b57 := (b5.trans (b6.mono b5.size)).trans (b7.mono (b5.trans (b6.mono b5.size)).size)
           have o2e := o2d.bel b57
           have o3e := o3d.bel b57
           have o4e := o4d.bel b57
           have hbe := hbd.trans (b57.mono hbd.size)
           obtain ⟨cc0, cc1, cc2, cc3⟩ := o3e.c4
           have f0 := o3e.frozen 0
           have f1 := o3e.frozen 1
           have f2 := o3e.frozen 2
           have f3 := o3e.frozen 3))
      all_goals go_wp2_with fail
      all_goals exact ⟨⟨k + 1, by omega, rfl, own_four_far o2e (by omega), by rw [He.out]; exact own_four o3e rfl, by rw [Hb.out]; exact own_four_far o4e (by omega), below_four hbe (by omega)⟩, by simp [intOf]; omega⟩
    · obtain rfl : k = bs.length := by omega
      rw [List.take_length] at o3
      have D1 := Lib.hid (fun W => sout_any (hN bs) W)
      have lz := fl_len (mgt (hN bs))
      have Hl := Lib.hid (fl_len (hN bs % rN))
      have hkn' : ¬ (bs.length : Int) < (n : Int) := by omega
      generalize mgt (hN bs) = v at *
      go_wp2_with (refine own_load o3 rfl 60 (.tmp 3) rfl rfl 4 33 lz (by kernel_rfl) (by kernel_rfl) ?_)
      refine (D1.out _).mono ?_
      rintro e w5 ⟨rfl, b5⟩
      have r2 := o2.bel b5
      have bb := hb.trans (b5.mono hb.size)
      generalize hf : fl (hN bs % rN) = zs at *
      have Hf := Lib.hid hf
      clear D1 hf
      go_wp2_with (refine wpList_store_row rfl 35 (.tmp 2) (.tmp 23) rfl w.heap.size (lim .u64 zs) rfl rfl 35 _ r2 (by rw [lim_size, Hl.out]; kernel_rfl) (by rw [lim_size, lim_size, Hl.out]; rfl) (lim_one _ _) ?_)
      have q2' : Own (w5.setRow w.heap.size (lim .u64 zs)) w.heap.size 35 .u64 zs := setRow_heap _ _ _ _ _ _ r2
      exact bodyPost_ret (results_cell_row rfl _ _ w.heap.size 35 (lim .u64 zs) (0, 0) (.array 4 33) rfl q2' (by kernel_rfl) rfl (by rw [lim_size, Hl.out]; kernel_rfl)) rfl ⟨by rw [Hf.out], below_setRow bb (Nat.le_refl _) _⟩
end Go.Proofs.Ytoocoobgidoceaa
