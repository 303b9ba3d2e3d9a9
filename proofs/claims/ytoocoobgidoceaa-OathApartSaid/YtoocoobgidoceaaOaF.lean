import Derived.Test.YtoocoobgidoceaaOaAll
namespace Go.Proofs.Ytoocoobgidoceaa
open Go.RowKit
set_option linter.unusedVariables false

theorem buf_bytesO (s : ByteArray) (w : World) (e : TypeId) (cap : Nat) (hc : s.size ≤ cap) :
    Buf (w.drew.alloc (.cells (bytesRow s cap) e ((bytesRow s cap).size, (bytesRow s cap).size + 1))) w.heap.size w.heap.size cap (bytesN s) := by
  refine Buf.of_cells (heap_alloc_new w.drew _) (Nat.le_refl _) (.inr (Nat.le_refl _)) (by rw [bytesN_length]; exact hc) ?_ fun j hj => ?_
  · unfold bytesRow
    rw [Array.size_append, Array.size_map, Array.size_replicate]
    show cap ≤ s.size + (cap - s.size)
    omega
  · rw [bytesN_length] at hj
    have hj' : j < s.data.size := hj
    rw [bytesRow_at s cap j hj']
    unfold bytesN nth
    rw [List.getD_eq_getElem?_getD, List.getElem?_map, Array.getElem?_toList, Array.getElem?_eq_getElem hj']
    rfl
/-- '[]byte(s)'. -/
theorem conv_bytesO (s : ByteArray) (w : World) (hs : s.size ≤ 100000) : ∃ cap W0, (convert 9 22 (.string s)).run Try.prog w = .ok (.slice (some ⟨w.heap.size, 0, none⟩) s.size cap) W0 ∧ s.size ≤ cap ∧ cap ≤ maxLen ∧ Sl W0 .u8 (some ⟨w.heap.size, 0, none⟩) (bytesN s) ∧ Below w.heap.size w W0 := by
  have hB := buf_bytesO s w 5 _ (grownCap_ge w s.size 0 5)
  refine ⟨_, _, run_bytes_of_string (P := Try.prog) w 9 22 5 s (by kernel_rfl) (by kernel_rfl) (by kernel_rfl), grownCap_ge w s.size 0 5, grownCap_le_maxLen w s.size 0 5 (by unfold maxLen; omega), ?_, ((Below.refl _ _).drew).alloc (Nat.le_refl _) _⟩
  intro hp
  exact ⟨_, 0, rfl, hB.lt, fun i hi => by rw [Nat.zero_add]; exact hB.cell i hi⟩
theorem below_viaO {a b c : World} (h : Below a.heap.size a b) (k : Below b.heap.size b c) : Below a.heap.size a c := h.trans (k.mono h.size)

set_option maxHeartbeats 2000000 in
/-- chirographref14.Say -/
theorem rsay_ok (A : Option Addr) (n c : Nat) (asked : Int) (bs : List Nat) (label bytes : ByteArray) (w : World) (hb : bs.length = n) (ob : Byt bs) (sb : Sl w .u8 A bs) (hs : MaySay n label bytes) :
    Calls Try.prog 9 #[.agg #[.slice A n c, .int .i64 asked], .string label, .string bytes] w (SayPost n bs asked (strN (recN label bytes)) w) := by
  have b0 := ((Below.refl w.heap.size w).alloc (Nat.le_refl _) (.cells #[.slice A n c, .int .i64 asked] 24)).alloc (by simp) (.cells #[.slice none 0 0, .int .i64 0] 24)
  have x0 := (Box2.new w (.slice A n c) (.int .i64 asked)).alloc (.cells #[.slice none 0 0, .int .i64 0] 24)
  have y0 : Box2 ((w.alloc (.cells #[.slice A n c, .int .i64 asked] 24)).alloc (.cells #[.slice none 0 0, .int .i64 0] 24)) (w.heap.size + 1) (.slice none 0 0) (.int .i64 0) := by
    have := Box2.new (w.alloc (.cells #[.slice A n c, .int .i64 asked] 24)) (.slice none 0 0) (.int .i64 0)
    rwa [World.size_alloc] at this
  have D1 := Lib.hid (long_ok n label bytes ((w.alloc (.cells #[.slice A n c, .int .i64 asked] 24)).alloc (.cells #[.slice none 0 0, .int .i64 0] 24)) (by have := hs.2.2.1; unfold maxLen; omega) (by have := hs.1; unfold maxLen; omega) (by have := hs.2.1; unfold maxLen; omega) hs)
  have D2 := Lib.hid (fun W => rrecord_any label bytes W hs.1 hs.2.1)
  have s0 := sb.bel b0
  have hcv := fun W (s : Sl W .u8 A bs) => conv_sl (c := c) hb ob s
  obtain ⟨S2, hS2⟩ : ∃ S, strN (recN label bytes) = S := ⟨_, rfl⟩
  obtain ⟨S1, hS1⟩ : ∃ S, strN bs = S := ⟨_, rfl⟩
  have z2 : S2.size = label.size + bytes.size + 5 := by rw [← hS2, strN_size, recN_length]
  have z1 : S1.size = n := by rw [← hS1, strN_size, hb]
  have zz : n + S2.size ≤ 65536 := by have := hs.2.2.2; omega
  have hN1 : Hid (bytesN S1 = bs) := Lib.hid (by rw [← hS1]; exact bytesN_strN ob)
  rw [hS2] at D2 ⊢
  rw [hS1] at hcv
  have z3 : S1.size + S2.size ≤ 65536 := by omega
  clear hs hb hS1 hS2 z2
  go_enter Try.func9, Try.ntmps9
  go_wp2_with fail
  refine (D1.out).mono ?_
  rintro e w' ⟨rfl, rfl⟩
  go_upto_region 3 with fail
  generalize (w.alloc (.cells #[.slice A n c, .int .i64 asked] 24)).alloc (.cells #[.slice none 0 0, .int .i64 0] 24) = U at *
  have hxU0 := x0.c0
  have hxU1 := x0.c1
  have hcU := hcv U.drew (s0.bel (Below.refl _ _).drew)
  go_region_with (first
    | (go_at_call 20; refine (D2.out _).mono ?_; rintro e w1 ⟨rfl, b1⟩
       have bU : Below U.heap.size U w1 := below_viaO ((Below.refl _ _).drew) b1
       have x1 := x0.bel bU
       have y1 := y0.bel bU
       have hx10 := x1.c0
       have hx11 := x1.c1
       have hc1 := hcv w1 (s0.bel bU)
       obtain ⟨cap, W0, hcb, hcap, hcap', sW, bW⟩ := conv_bytesO (S1 ++ S2) w1 (by rw [ByteArray.size_append]; omega)
       have x2 := x1.bel bW
       have y2 := y1.bel bW
       have hx20 := x2.c0
       have hx21 := x2.c1
       have hy20 := y2.c0
       have hy21 := y2.c1
       have hf20 := y2.f 0
       have hf21 := y2.f 1
       rw [ByteArray.size_append, z1] at hcb))
  all_goals go_wp2_with fail
  all_goals
    have y3 := (y2.set0 (.slice (some ⟨w1.heap.size, 0, none⟩) (n + S2.size) cap)).set1 (.int .i64 asked)
    have hlt := y1.lt
    have cc : Below w.heap.size w W0 := b0.trans ((below_viaO bU bW).mono b0.size)
    have sW' : Sl W0 .u8 (some ⟨w1.heap.size, 0, none⟩) (bs ++ bytesN S2) := by rw [bytesN_append, hN1.out] at sW; exact sW
    refine bodyPost_ret (results_oath rfl _ rfl y3) rfl ⟨some ⟨w1.heap.size, 0, none⟩, cap, rfl, by rw [ByteArray.size_append, z1] at hcap; exact hcap, hcap', (sW'.up (fun a e => ?_) _).up (fun a e => ?_) _, fun a e => ?_, (cc.setCell (p := ⟨w.heap.size + 1, 0, none⟩) (by simp) _).setCell (p := ⟨w.heap.size + 1, 1, none⟩) (by simp) _⟩
    all_goals (cases e; simp; try omega)
set_option maxHeartbeats 1000000 in
theorem rsay_no (A : Option Addr) (n c : Nat) (asked : Int) (bs : List Nat) (label bytes : ByteArray) (w : World) (hn : n ≤ maxLen) (hl : label.size ≤ maxLen) (hy : bytes.size ≤ maxLen) (hs : ¬ MaySay n label bytes) :
    Calls Try.prog 9 #[.agg #[.slice A n c, .int .i64 asked], .string label, .string bytes] w (NoPost w) := by
  have b0 := ((Below.refl w.heap.size w).alloc (Nat.le_refl _) (.cells #[.slice A n c, .int .i64 asked] 24)).alloc (by simp) (.cells #[.slice none 0 0, .int .i64 0] 24)
  have y0 : Box2 ((w.alloc (.cells #[.slice A n c, .int .i64 asked] 24)).alloc (.cells #[.slice none 0 0, .int .i64 0] 24)) (w.heap.size + 1) (.slice none 0 0) (.int .i64 0) := by
    have := Box2.new (w.alloc (.cells #[.slice A n c, .int .i64 asked] 24)) (.slice none 0 0) (.int .i64 0)
    rwa [World.size_alloc] at this
  have D1 := Lib.hid (long_no n label bytes ((w.alloc (.cells #[.slice A n c, .int .i64 asked] 24)).alloc (.cells #[.slice none 0 0, .int .i64 0] 24)) hn hl hy hs)
  have k0 := y0.c0
  have k1 := y0.c1
  have l0 := y0.f 0
  have l1 := y0.f 1
  clear hs hn hl hy
  go_enter Try.func9, Try.ntmps9
  go_wp2_with fail
  refine (D1.out).mono ?_
  rintro e w1 ⟨rfl, rfl⟩
  clear D1
  go_wp2_with fail
  first
  | exact bodyPost_ret (results_oath rfl _ rfl y0) rfl ⟨rfl, b0⟩
  | exact bodyPost_ret (results_oath rfl _ rfl ((y0.set0 (.slice none 0 0)).set1 (.int .i64 0))) rfl ⟨rfl, (b0.setCell (p := ⟨w.heap.size + 1, 0, none⟩) (by simp) _).setCell (p := ⟨w.heap.size + 1, 1, none⟩) (by simp) _⟩
theorem rsay_any (A : Option Addr) (n c : Nat) (asked : Int) (bs : List Nat) (label bytes : ByteArray) (w : World) (hb : bs.length = n) (ob : Byt bs) (sb : Sl w .u8 A bs) (hn : n ≤ maxLen) (hl : label.size ≤ maxLen) (hy : bytes.size ≤ maxLen) :
    Calls Try.prog 9 #[.agg #[.slice A n c, .int .i64 asked], .string label, .string bytes] w (OaPost (sayR bs asked label bytes) w) := by
  by_cases hs : MaySay n label bytes
  · exact (rsay_ok A n c asked bs label bytes w hb ob sb hs).mono fun e w' h => OaPost.ok hb hs h
  · exact (rsay_no A n c asked bs label bytes w hn hl hy hs).mono fun e w' h => OaPost.no hb hs h
theorem sayR_byt {bs : List Nat} (ob : Byt bs) (asked : Int) (label bytes : ByteArray) : Byt (sayR bs asked label bytes).1 := by
  unfold sayR
  split
  · rename_i h; exact ob.append (recN_byt h.1 h.2.1)
  · intro x hx; cases hx
end Go.Proofs.Ytoocoobgidoceaa
