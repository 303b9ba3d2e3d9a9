import Derived.Test.YtoocoobgidoceaaOaD
import Derived.Deep.CutRange
import Derived.Deep.RegionWith
namespace Go.Proofs.Ytoocoobgidoceaa
open Go.RowKit
set_option linter.unusedVariables false

set_option maxHeartbeats 1000000 in
theorem say_no (A : Option Addr) (n c : Nat) (asked : Int) (label bytes : ByteArray) (w : World) (hs : ¬ MaySay n label bytes) :
    Calls Try.prog 8 #[.agg #[.slice A n c, .int .i64 asked], .string label, .string bytes] w (NoPost w) := by
  have b0 := ((Below.refl w.heap.size w).alloc (Nat.le_refl _) (.cells #[.slice A n c, .int .i64 asked] 24)).alloc (by simp) (.cells #[.slice none 0 0, .int .i64 0] 24)
  have x0 := (Box2.new w (.slice A n c) (.int .i64 asked)).alloc (.cells #[.slice none 0 0, .int .i64 0] 24)
  have y0 : Box2 ((w.alloc (.cells #[.slice A n c, .int .i64 asked] 24)).alloc (.cells #[.slice none 0 0, .int .i64 0] 24)) (w.heap.size + 1) (.slice none 0 0) (.int .i64 0) := by
    have := Box2.new (w.alloc (.cells #[.slice A n c, .int .i64 asked] 24)) (.slice none 0 0) (.int .i64 0)
    rwa [World.size_alloc] at this
  by_cases hr : label.size ≤ 32 ∧ bytes.size ≤ 65536
  · have D1 := Lib.hid (record_ok label bytes ((w.alloc (.cells #[.slice A n c, .int .i64 asked] 24)).alloc (.cells #[.slice none 0 0, .int .i64 0] 24)) hr.1 hr.2)
    obtain ⟨R, hR⟩ : ∃ R, strN (recN label bytes) = R := ⟨_, rfl⟩
    have hRs : R.size = label.size + bytes.size + 5 := by rw [← hR, strN_size, recN_length]
    rw [hR] at D1
    have hle' : (n : Int) > 65536 - (R.size : Int) := by unfold MaySay at hs; omega
    have hRl : R.size ≤ 65600 := by omega
    clear hs hR hRs hr
    go_enter Try.func8, Try.ntmps8
    go_wp2_with fail
    refine (D1.out).mono ?_
    rintro e w1 ⟨rfl, b1⟩
    have x1 := x0.bel b1
    have y1 := y0.bel b1
    have c2 := b0.trans (b1.mono b0.size)
    have hx0 := x1.c0
    have k0 := y1.c0
    have k1 := y1.c1
    have l0 := y1.f 0
    have l1 := y1.f 1
    clear b1 x0 y0 b0 D1
    go_wp2_with fail
    have y3 := (y1.set0 (.slice none 0 0)).set1 (.int .i64 0)
    exact bodyPost_ret (results_oath rfl _ rfl y3) rfl ⟨rfl, (c2.setCell (p := ⟨w.heap.size + 1, 0, none⟩) (by simp) _).setCell (p := ⟨w.heap.size + 1, 1, none⟩) (by simp) _⟩
  · have D1 := Lib.hid (record_no label bytes ((w.alloc (.cells #[.slice A n c, .int .i64 asked] 24)).alloc (.cells #[.slice none 0 0, .int .i64 0] 24)) hr)
    have k0 := y0.c0
    have k1 := y0.c1
    have l0 := y0.f 0
    have l1 := y0.f 1
    clear hs hr
    go_enter Try.func8, Try.ntmps8
    go_wp2_with fail
    refine (D1.out).mono ?_
    rintro e w1 ⟨rfl, rfl⟩
    clear D1
    go_wp2_with fail
    first
    | exact bodyPost_ret (results_oath rfl _ rfl y0) rfl ⟨rfl, b0⟩
    | exact bodyPost_ret (results_oath rfl _ rfl ((y0.set0 (.slice none 0 0)).set1 (.int .i64 0))) rfl ⟨rfl, (b0.setCell (p := ⟨w.heap.size + 1, 0, none⟩) (by simp) _).setCell (p := ⟨w.heap.size + 1, 1, none⟩) (by simp) _⟩

instance (n : Nat) (label bytes : ByteArray) : Decidable (MaySay n label bytes) := by unfold MaySay; infer_instance
/-- What a transcript is behind a record. -/
def sayR (bs : List Nat) (asked : Int) (label bytes : ByteArray) : List Nat × Int × Int :=
  if MaySay bs.length label bytes then (bs ++ recN label bytes, asked, 0) else ([], 0, 2)
def OaPost (r : List Nat × Int × Int) (w : World) (e : Ending) (w' : World) : Prop :=
  ∃ A c, e = .returned (.tuple #[.agg #[.slice A r.1.length c, .int .i64 r.2.1], .int .i64 r.2.2]) ∧ r.1.length ≤ c ∧ c ≤ maxLen ∧ Sl w' .u8 A r.1 ∧ (∀ a, A = some a → w.heap.size ≤ a.block) ∧ Below w.heap.size w w'
theorem OaPost.ok {n : Nat} {bs : List Nat} {asked : Int} {label bytes : ByteArray} {w w' : World} {e : Ending} (hb : bs.length = n) (hs : MaySay n label bytes) (h : SayPost n bs asked (strN (recN label bytes)) w e w') : OaPost (sayR bs asked label bytes) w e w' := by
  subst hb
  obtain ⟨A, c, rfl, h1, h2, h3, h5, h4⟩ := h
  have e1 : (bs ++ recN label bytes).length = bs.length + (strN (recN label bytes)).size := by rw [List.length_append, strN_size]
  rw [bytesN_strN (recN_byt hs.1 hs.2.1)] at h3
  unfold sayR
  rw [if_pos hs]
  exact ⟨A, c, by rw [e1], by rw [e1]; exact h1, h2, h3, h5, h4⟩
theorem OaPost.no {n : Nat} {bs : List Nat} {asked : Int} {label bytes : ByteArray} {w w' : World} {e : Ending} (hb : bs.length = n) (hs : ¬ MaySay n label bytes) (h : NoPost w e w') : OaPost (sayR bs asked label bytes) w e w' := by
  subst hb
  obtain ⟨rfl, h4⟩ := h
  unfold sayR
  rw [if_neg hs]
  exact ⟨none, 0, rfl, Nat.le_refl _, Nat.zero_le _, Sl.nil _ _ _, fun a h => (by cases h), h4⟩
theorem say_any (A : Option Addr) (n c : Nat) (asked : Int) (bs : List Nat) (label bytes : ByteArray) (w : World) (hb : bs.length = n) (sb : Sl w .u8 A bs) :
    Calls Try.prog 8 #[.agg #[.slice A n c, .int .i64 asked], .string label, .string bytes] w (OaPost (sayR bs asked label bytes) w) := by
  by_cases hs : MaySay n label bytes
  · exact (say_ok A n c asked bs label bytes w hb sb hs).mono fun e w' h => OaPost.ok hb hs h
  · exact (say_no A n c asked label bytes w hs).mono fun e w' h => OaPost.no hb hs h

set_option maxHeartbeats 1000000 in
/-- oath.New -/
theorem new_any (label : ByteArray) (w : World) :
    Calls Try.prog 10 #[.string label] w (OaPost (sayR [] 0 label ⟨#[]⟩) w) := by
  have b0 := (Below.refl w.heap.size w).alloc (Nat.le_refl _) (.cells #[.slice none 0 0, .int .i64 0] 24)
  have y0 := Box2.new w (.slice none 0 0) (.int .i64 0)
  have D1 := Lib.hid (say_any none 0 0 0 [] label ⟨#[]⟩ (w.alloc (.cells #[.slice none 0 0, .int .i64 0] 24)) rfl (Sl.nil _ _ _))
  generalize sayR [] 0 label ⟨#[]⟩ = r at *
  go_enter Try.func10, Try.ntmps10
  go_wp2_with fail
  refine (D1.out).mono ?_
  rintro e w1 ⟨A1, c1, rfl, h1, h2, s1, a1, b1⟩
  have y1 := y0.bel b1
  have k0 := y1.c0
  have k1 := y1.c1
  have l0 := y1.f 0
  have l1 := y1.f 1
  have c2 := b0.trans (b1.mono b0.size)
  clear D1
  go_wp2_with fail
  have hlt := y1.lt
  refine bodyPost_ret (results_oath rfl _ rfl ((y1.set0 (.slice A1 r.1.length c1)).set1 (.int .i64 r.2.1))) rfl ⟨A1, c1, rfl, h1, h2, (s1.up (fun a e => ?_) _).up (fun a e => ?_) _, fun a e => ?_, (c2.setCell (p := ⟨w.heap.size, 0, none⟩) (by simp) _).setCell (p := ⟨w.heap.size, 1, none⟩) (by simp) _⟩ <;> (have := a1 a e; simp at this ⊢; omega)

set_option maxHeartbeats 1000000 in
/-- chirographlaw14.alive -/
theorem alive14_any (w : World) :
    Calls Try.prog 11 #[] w fun e w' => e = .returned (.bool true) ∧ Below w.heap.size w w' := by
  have D1 := Lib.hid (new_any ⟨#[97]⟩ w)
  have hr : sayR [] 0 ⟨#[97]⟩ ⟨#[]⟩ = ([1, 97, 0, 0, 0, 0], 0, 0) := by rfl
  rw [hr] at D1
  go_enter Try.func11, Try.ntmps11
  go_wp2_with fail
  refine (D1.out).mono ?_
  rintro e w1 ⟨A1, c1, rfl, h1, h2, s1, a1, b1⟩
  clear D1
  go_wp2_with fail
  go_ret
  exact ⟨rfl, b1.alloc b1.size _⟩

set_option maxHeartbeats 1000000 in
/-- chirographref14.Like, of the like -/
theorem like14_any (A B : Option Addr) (n c d : Nat) (asked : Int) (bs : List Nat) (w : World) (hb : bs.length = n) (ob : Byt bs) (sa : Sl w .u8 A bs) (sb : Sl w .u8 B bs) :
    Calls Try.prog 12 #[.agg #[.slice A n c, .int .i64 asked], .agg #[.slice B n d, .int .i64 asked]] w fun e w' => e = .returned (.bool true) ∧ Below w.heap.size w w' := by
  have b0 := ((Below.refl w.heap.size w).alloc (Nat.le_refl _) (.cells #[.slice A n c, .int .i64 asked] 24)).alloc (by simp) (.cells #[.slice B n d, .int .i64 asked] 24)
  have h1 := conv_sl (c := c) hb ob (sa.bel b0)
  have h2 := conv_sl (c := d) hb ob (sb.bel b0)
  clear hb
  go_enter Try.func12, Try.ntmps12
  go_wp2_with fail
  go_ret
  exact ⟨rfl, b0⟩

def shortB (s : ByteArray) : ByteArray := if 500 < s.size ∧ s.size < 60000 then s.extract 0 500 else s
set_option maxHeartbeats 1000000 in
/-- chirographlaw14.short -/
theorem short_any (s : ByteArray) (w : World) :
    Calls Try.prog 7 #[.string s] w fun e w' => e = .returned (.string (shortB s)) ∧ w' = w := by
  obtain ⟨n, hn⟩ : ∃ n, s.size = n := ⟨_, rfl⟩
  have hne : (s.size : Int) = (n : Int) := by omega
  by_cases h1 : 500 < n
  · have h1' : (n : Int) > 500 := by omega
    by_cases h2 : n < 60000
    · have h2' : (n : Int) < 60000 := by omega
      have h3 : (500 : Int) ≤ (n : Int) := by omega
      have hr : Hid (shortB s = s.extract 0 500) := Lib.hid (by unfold shortB; rw [if_pos (by omega)])
      go_enter Try.func7, Try.ntmps7
      go_wp2_with fail
      go_ret
      exact ⟨by rw [hr.out]; rfl, rfl⟩
    · have h2' : ¬ (n : Int) < 60000 := by omega
      have hr : Hid (shortB s = s) := Lib.hid (by unfold shortB; rw [if_neg (by omega)])
      clear hn
      go_enter Try.func7, Try.ntmps7
      go_wp2_with fail
      go_ret
      exact ⟨by rw [hr.out]; rfl, rfl⟩
  · have h1' : ¬ (n : Int) > 500 := by omega
    have hr : Hid (shortB s = s) := Lib.hid (by unfold shortB; rw [if_neg (by omega)])
    clear hn
    go_enter Try.func7, Try.ntmps7
    go_wp2_with fail
    go_ret
    exact ⟨by rw [hr.out]; rfl, rfl⟩
end Go.Proofs.Ytoocoobgidoceaa
