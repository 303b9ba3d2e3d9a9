/- Chapter 24: Print's second closure; Print. -/
import Derived.Test.YtdilgmokiclfaaaDoorScM
namespace Go.Proofs.YtdilgmokiclfaaaDoor
open Go.RowKit
set_option linter.unusedVariables false
set_option maxRecDepth 100000

def lineFn (b : Nat) : Value := .func (.func 15) #[] #[.pointer (some ⟨b, 0, none⟩)]
def fieldsWs (word : ByteArray) (xs : List Nat) : List ByteArray := word :: xs.map hexB
theorem hexB_size (v : Nat) : (hexB v).size ≤ 64 := by unfold hexB; rw [strN_size]; exact hexN_len v 64
theorem accB_size (s : ByteArray) (r : List ByteArray) (m : Nat) (h : ∀ x ∈ r, x.size ≤ m) : (accB s r).size ≤ s.size + r.length * (m + 1) := by
  induction r generalizing s with
  | nil => simp [accB]
  | cons x r ih =>
    have h1 := ih (s ++ ⟨#[32]⟩ ++ x) (fun y hy => h y (List.mem_cons_of_mem _ hy))
    have h2 := h x List.mem_cons_self
    rw [ByteArray.size_append, ByteArray.size_append] at h1
    have h3 : (⟨#[32]⟩ : ByteArray).size = 1 := rfl
    rw [accB, List.length_cons, Nat.succ_mul]
    omega
theorem joinB_size (x : ByteArray) (r : List ByteArray) (m : Nat) (h : ∀ y ∈ r, y.size ≤ m) : (joinB (x :: r)).size ≤ x.size + r.length * (m + 1) := by
  rw [joinB_cons]; exact accB_size x r m h
def PaRel (word : ByteArray) (xs : List Nat) (W : World) (v i : Value) (wr : World) : Prop :=
  ∃ k : Nat, k ≤ xs.length ∧ i = .int .i64 (k : Int) ∧ (∃ g n cap, v = .slice (some ⟨g, 0, none⟩) n cap ∧ n = 1 + k ∧ W.heap.size ≤ g ∧ g < wr.heap.size ∧
    wr.ownsRow W.heap.size 9 1 v n (strs (fieldsWs word (xs.take k)))) ∧ Below W.heap.size W wr
set_option maxHeartbeats 4000000 in
/-- Print's second closure: a line of elements is written. -/
theorem pall_any (B b lb : Nat) (word s : ByteArray) (A : Option Addr) (n c : Nat) (xs : List Nat) (w : World) (h : Bd B b (bytesN s) w) (H : FrS w A n c xs) (hl : w.cell? ⟨lb, 0, none⟩ = some (lineFn b)) (hlb : lb < w.heap.size) (hn : n ≤ 1000) (hw : word.size ≤ 1000) (hs2 : s.size ≤ 1000000000) (hBw : B ≤ w.heap.size) :
    Calls Tryd.prog 19 #[.string word, .slice A n c, .pointer (some ⟨lb, 0, none⟩)] w fun e w' => (∃ v, e = .returned v) ∧ BdAt B b (bytesN (s ++ lineB (fieldsWs word xs))) w' ∧ Below B w w' ∧ Keep b w w' := by
  have hcl : Tryd.prog.cellsOf 24 = 4 := by kernel_rfl
  have hlen := Lib.hid H.len
  have H' := Lib.hid H
  have hn' := H.lim
  have hc := H.cap
  unfold maxLen at hc
  have HBd := Lib.hid h
  have HBw := Lib.hid hBw
  have HL := Lib.hid hl
  unfold lineFn at hl
  clear H h hBw hl
  go_enter Tryd.func19, Tryd.ntmps19
  go_wp2_with fail
  have hst : PaRel word xs w (.slice (some ⟨w.heap.size, 0, none⟩) 1 1) (.int .i64 0) (w.alloc (.cells #[.string word] 9)) :=
    ⟨0, Nat.zero_le _, rfl, ⟨_, _, _, rfl, rfl, Nat.le_refl _, by simp, by simpa [fieldsWs, strs] using World.ownsRow_lit (base := w.heap.size) (e := 9) (size := 1) w #[.string word] 1 (Nat.le_refl _) (by decide) rfl⟩, (Below.refl _ _).alloc (Nat.le_refl _) _⟩
  have Hst := Lib.hid hst
  clear hst
  go_loopw [5, 12] (PaRel word xs w) (fun _ i _ => n - (intOf i).toNat)
  case atStart => exact Hst.out
  case round =>
    clear Hst
    obtain ⟨k, hk, rfl, ⟨g, N, cap, rfl, hN, hgB, hgl, hrow⟩, hb⟩ := hrel
    have HNN := Lib.hid hN
    clear hN
    rcases Nat.lt_or_ge k xs.length with hlt | hge
    · obtain ⟨bk, off, rfl, hbl, hr0⟩ := H'.out.at hlt
      have hkn : (k : Int) < (n : Int) := by have := hlen.out; omega
      have R := rangeAt_bel hr0 hb hbl
      have Hz := Lib.hid (take_succ_get hlt)
      clear hr0
      generalize xs[k] = z at *
      have hz4 : (fl z).length = 4 := rfl
      have o1 := Own.new wr 24 .u64 (fl z)
      have bn := hb.alloc hb.size (.cells (lim .u64 (fl z)) 24)
      have HRn := Lib.hid (hrow.alloc (.cells (lim .u64 (fl z)) 24))
      have hsn : (wr.alloc (.cells (lim .u64 (fl z)) 24)).heap.size = wr.heap.size + 1 := by simp
      have HSN := Lib.hid hsn
      have Lz := frC_arr z
      have D := Lib.hid (hex_any z)
      clear hrow hb hsn
      have hg5 : g < wr.heap.size + 1 := by omega
      go_wp2_with (first
        | refine wpList_load_mid rfl 24 (.tmp 14) rfl bk (off + k * 4) rfl (frC z) _ R Tryd.underlying24 rfl (by kernel_rfl) ?_
        | refine wpList_store_new rfl 24 (.tmp 7) (.tmp 15) rfl .u64 (fl z) rfl (by rw [← Lz]; rfl) 24 _ (by kernel_rfl) rfl ?_
        | refine own_load o1 rfl 24 (.tmp 7) rfl rfl 4 22 hz4 (by kernel_rfl) (by kernel_rfl) ?_)
      generalize wr.alloc (.cells (lim .u64 (fl z)) 24) = W5 at *
      refine (D.out _).mono ?_
      rintro e w6 ⟨rfl, b6⟩
      have hrow6 := ownsRow_bel HRn.out b6
      have hb6 := bn.trans (b6.mono bn.size)
      have hsz := b6.size
      have hN6 : N + 1 ≤ 1000000 := by have := HNN.out; have := hlen.out; omega
      have hg6 : g < w6.heap.size := by have := HSN.out; omega
      go_wp2_with (refine wpList_app_strs rfl (.tmp 16) (.tmp 19) rfl (B := w.heap.size) (W := w) (l := fieldsWs word (xs.take k)) (ns := [hexB z]) 1 _ rfl rfl (by decide) hN6 rfl rfl hrow6 hb6 hb6.size hg6 ?_; intro g' cap' w8 hA)
      have e1 : fieldsWs word (xs.take (k + 1)) = fieldsWs word (xs.take k) ++ [hexB z] := by rw [Hz.out]; simp [fieldsWs]
      refine ⟨⟨k + 1, by omega, int_eq (by omega), ⟨g', N + 1, cap', rfl, by have := HNN.out; omega, hA.ge, hA.lt, by rw [e1]; exact hA.row⟩, hA.below⟩, by simp [intOf]; omega⟩
    · obtain rfl : k = xs.length := by omega
      have hkn : ¬ ((xs.length : Nat) : Int) < (n : Int) := by have := hlen.out; omega
      rw [List.take_length] at hrow
      have HR := Lib.hid hrow
      have Hb := Lib.hid hb
      have hl5 : wr.cell? ⟨lb, 0, none⟩ = some (.func (.func 15) #[] #[.pointer (some ⟨b, 0, none⟩)]) := (hb.cell (p := ⟨lb, 0, none⟩) hlb).trans HL.out
      clear hrow hb
      go_wp2_with fail
      have Sw := Lib.hid (StrS.of_own HR.out hgl (by have := HNN.out; omega))
      have hNlen : N ≤ 2000 := by have := HNN.out; have := hlen.out; omega
      have hjs : (joinB (fieldsWs word xs)).size ≤ 100000000 := by
        have h1 := joinB_size word (xs.map hexB) 64 (fun y hy => by obtain ⟨x, _, rfl⟩ := List.mem_map.1 hy; exact hexB_size x)
        rw [List.length_map] at h1
        have := hlen.out
        unfold fieldsWs
        omega
      refine (pline_any B b g 0 N cap (fieldsWs word xs) s wr (HBd.out.bel Hb.out) Sw.out (by omega) hjs (by omega) (Nat.le_trans HBw.out Hb.out.size)).mono ?_
      rintro e w7 ⟨⟨v7, rfl⟩, h7, b7, k7⟩
      go_wp2_with fail
      go_end0
      exact ⟨⟨_, rfl⟩, h7, (Hb.out.mono HBw.out).trans b7, (Keep.of_below Hb.out).trans k7⟩

def tauB : ByteArray := ⟨#[116, 97, 117]⟩
def blindB : ByteArray := ⟨#[98, 108, 105, 110, 100]⟩
def giveB : ByteArray := ⟨#[103, 105, 118, 101]⟩
def opsB (s : ByteArray) : List OpE → ByteArray
  | [] => s
  | e :: r => opsB (s ++ lineB (lineWs e.d)) r
theorem opsB_snoc (s : ByteArray) (l : List OpE) (e : OpE) : opsB s (l ++ [e]) = opsB s l ++ lineB (lineWs e.d) := by
  induction l generalizing s with
  | nil => rfl
  | cons x r ih => exact ih _
def headB (p : PlD) : ByteArray := lineB (fieldsWs tauB [p.tau]) ++ lineB (fieldsWs blindB p.bs)
def textB (p : PlD) : ByteArray := opsB (headB p) p.os ++ lineB (fieldsWs giveB p.is)
theorem wordB_size (t : Int) : (wordB t).size ≤ 6 := by
  rcases tag_cases t with rfl | rfl | rfl | rfl | rfl | rfl | rfl | rfl | rfl | rfl | rfl | h
  iterate 11
    · decide
  · rw [wordB_other h]; decide
theorem mem_pairsWs : ∀ {ks : List Nat} {vs : List Int} {x : ByteArray}, (∀ v ∈ vs, inB v = true) → x ∈ pairsWs ks vs → x.size ≤ 64
  | k :: ks, v :: vs, x, h, hx => by
    rcases List.mem_cons.1 hx with rfl | hx
    · exact hexB_size k
    rcases List.mem_cons.1 hx with rfl | hx
    · have := itB_size v (h v List.mem_cons_self); omega
    · exact mem_pairsWs (fun u hu => h u (List.mem_cons_of_mem _ hu)) hx
  | [], _, x, h, hx => by cases hx
  | _ :: _, [], x, h, hx => by cases hx
theorem lineWs_size {o : OpD} (h : OpG o) : (lineB (lineWs o)).size ≤ 10000 ∧ (joinB (lineWs o)).size ≤ 10000 ∧ (lineWs o).length ≤ 200 := by
  have hn : ∀ x ∈ namesWs o, x.size ≤ 64 := by
    intro x hx
    unfold namesWs at hx
    obtain ⟨z, hz, rfl⟩ := List.mem_map.1 hx
    have hz' := List.mem_of_mem_take hz
    have : inB z = true := by
      simp only [List.mem_cons, List.not_mem_nil, or_false] at hz'
      rcases hz' with rfl | rfl | rfl
      · exact h.a
      · exact h.b
      · exact h.c
    have := itB_size z this; omega
  have hnl : (namesWs o).length ≤ 3 := by unfold namesWs; rw [List.length_map, List.length_take]; simp; omega
  have ht : (∀ x ∈ tailWs o, x.size ≤ 64) ∧ (tailWs o).length ≤ 128 := by
    by_cases h3 : o.t = 3
    · rw [tail3 h3]; exact ⟨fun x hx => by rw [List.mem_singleton.1 hx]; exact hexB_size _, by simp⟩
    by_cases h10 : o.t = 10
    · rw [tail10 h10]; exact ⟨fun x hx => by rw [List.mem_singleton.1 hx]; have := itB_size _ h.n; omega, by simp⟩
    by_cases h6 : o.t = 6
    · rw [tail6 h6]
      have h1 := pairsWs_len o.ks o.vs
      have h2 := h.t6 h6
      exact ⟨fun x hx => mem_pairsWs h.vs hx, by omega⟩
    · rw [tail0 h3 h10 h6]; exact ⟨fun x hx => (by cases hx), by simp⟩
  have hj := joinB_size (wordB o.t) (namesWs o ++ tailWs o) 64 (fun y hy => by
    rcases List.mem_append.1 hy with hy | hy
    · exact hn y hy
    · exact ht.1 y hy)
  have hw := wordB_size o.t
  rw [List.length_append] at hj
  have hj2 : (joinB (lineWs o)).size ≤ 9000 := by
    show (joinB (wordB o.t :: (namesWs o ++ tailWs o))).size ≤ 9000
    have := ht.2
    omega
  refine ⟨?_, by omega, ?_⟩
  · unfold lineB
    rw [ByteArray.size_append]
    have : nlB.size = 1 := rfl
    omega
  · unfold lineWs
    rw [List.length_cons, List.length_append]
    have := ht.2
    omega
theorem opsB_size (s : ByteArray) (l : List OpE) (h : ∀ e ∈ l, OpG e.d) : (opsB s l).size ≤ s.size + l.length * 10000 := by
  induction l generalizing s with
  | nil => simp [opsB]
  | cons x r ih =>
    have h1 := ih (s ++ lineB (lineWs x.d)) (fun e he => h e (List.mem_cons_of_mem _ he))
    have h2 := (lineWs_size (h x List.mem_cons_self)).1
    rw [ByteArray.size_append] at h1
    rw [opsB, List.length_cons]
    omega
theorem fields_size (word : ByteArray) (xs : List Nat) (hw : word.size ≤ 10) (hx : xs.length ≤ 64) : (lineB (fieldsWs word xs)).size ≤ 5000 := by
  have h1 := joinB_size word (xs.map hexB) 64 (fun y hy => by obtain ⟨x, _, rfl⟩ := List.mem_map.1 hy; exact hexB_size x)
  rw [List.length_map] at h1
  unfold lineB fieldsWs
  rw [ByteArray.size_append]
  have : nlB.size = 1 := rfl
  omega
end Go.Proofs.YtdilgmokiclfaaaDoor
