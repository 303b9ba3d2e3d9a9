import Derived.Test.YtoocoobgidoceaaOaS
import Derived.Test.YtoocoobgidoceaaOathSameLaw
import Derived.Deep.CutRange
import Derived.BigQuiet
import Derived.Deep.QuietTactic
namespace Go.Proofs.Ytoocoobgidoceaa
open Go.RowKit
set_option linter.unusedVariables false

/-- What the loop has found. -/
def sameN (ps qs : List Part3) (k : Nat) : Bool := decide (ps.length = qs.length) && decide ((ps.take k).map keyN = (qs.take k).map keyN)
theorem str_beq (a b : ByteArray) : (a.toList == b.toList) = decide (a = b) := by
  rw [ByteArray.toList_eq, ByteArray.toList_eq]
  by_cases h : a = b
  · subst h; simp
  · have hd : a.data.toList ≠ b.data.toList := fun e => h (by
      cases a; cases b
      simp only [ByteArray.mk.injEq] at *
      exact Array.ext' e)
    rw [decide_eq_false h]
    exact beq_eq_false_iff_ne.2 hd
theorem runG_byt : ∀ (f : Nat) (ps : List Part3) (s : St3), Byt s.1.1 → Byt (runG f ps s).1.1
  | 0, _, s, h => h
  | _ + 1, [], s, h => h
  | f + 1, p :: ps, s, h => by
    by_cases h0 : s.1.2.2 = 0
    · have e : runG (f + 1) (p :: ps) s = runG f ps (stepR s p) := by simp [runG, h0]
      rw [e]
      exact runG_byt f ps _ (stepR_byt h p)
    · rw [runG_err _ _ _ h0]; exact h
theorem runF_byt (ps : List Part3) : Byt (runF ps).1.1 := runG_byt 20 ps _ (sayR_byt (bs := []) (fun x h => by cases h) 0 _ _)
theorem keyN_off (ps : List Part3) : (ps.map offP).map keyN = ps.map keyN := by rw [List.map_map]; rfl
theorem off_no (ps : List Part3) : ∀ p ∈ ps.map offP, p.2.2 = false := by
  intro p hp
  obtain ⟨q, _, rfl⟩ := List.mem_map.1 hp
  rfl
theorem sameN_zero (ps qs : List Part3) : sameN ps qs 0 = decide (ps.length = qs.length) := by simp [sameN]
theorem sameN_succ {ps qs : List Part3} {k : Nat} (h1 : k < ps.length) (h2 : k < qs.length) : sameN ps qs (k + 1) = (sameN ps qs k && decide (keyN ps[k] = keyN qs[k])) := by
  unfold sameN
  rw [List.take_add_one, List.take_add_one, List.getElem?_eq_getElem h1, List.getElem?_eq_getElem h2, List.map_append, List.map_append, Bool.and_assoc]
  congr 1
  have hl : ((ps.take k).map keyN).length = ((qs.take k).map keyN).length := by simp; omega
  rw [← Bool.decide_and]
  congr 1
  apply propext
  constructor
  · intro h
    obtain ⟨a, b⟩ := List.append_inj h hl
    exact ⟨a, by simpa using b⟩
  · rintro ⟨a, b⟩
    rw [a]
    simp [b]
theorem sameN_false {ps qs : List Part3} {k : Nat} (h : sameN ps qs k = false) (hk : k < ps.length) : sameN ps qs (k + 1) = false := by
  by_cases hl : ps.length = qs.length
  · rw [sameN_succ hk (by omega), h]; rfl
  · unfold sameN; simp [hl]
theorem sameN_all {ps qs : List Part3} : sameN ps qs ps.length = decide (ps.map keyN = qs.map keyN) := by
  unfold sameN
  by_cases hl : ps.length = qs.length
  · rw [List.take_length, hl, List.take_length]; simp
  · have : ¬ ps.map keyN = qs.map keyN := fun e => hl (by have := congrArg List.length e; simpa using this)
    simp [hl, this]
theorem same_fin {ps qs : List Part3} (hl : ps.length ≤ 20) (hm : qs.length ≤ 20) (he : (runF (ps.map offP)).1.2.2 = 0) (hf : (runF (qs.map offP)).1.2.2 = 0) :
    ((strN (runF (ps.map offP)).1.1).toList == (strN (runF (qs.map offP)).1.1).toList) = sameN ps qs ps.length := by
  have h := apart (ps := ps.map offP) (qs := qs.map offP) (by simpa using hl) (by simpa using hm) (off_no ps) (off_no qs) he hf
  rw [keyN_off, keyN_off] at h
  rw [str_beq, sameN_all]
  congr 1
  apply propext
  rw [← h]
  constructor
  · intro e
    rw [← bytesN_strN (runF_byt (ps.map offP)), e, bytesN_strN (runF_byt (qs.map offP))]
  · intro e; rw [e]
def ApRel (ps qs : List Part3) (m1 : Nat) (w : World) (i sm : Value) (wr : World) : Prop := ∃ k d : Nat, k ≤ m1 ∧ i = .int .i64 (k : Int) ∧ sm = .bool (sameN ps qs k) ∧ wr = w.drewN d
theorem own_made0 (W : World) (B : Nat) (h : B ≤ W.heap.size) : (W.alloc (.cells #[] 41)).ownsRow B 41 3 (.slice (some ⟨W.heap.size, 0, none⟩) 0 0) 0 [] :=
  ⟨rfl, .inr ⟨W.heap.size, 0, #[], rfl, h, heap_alloc_new W _, Nat.le_refl _, Nat.zero_le _, rfl, rfl⟩⟩
set_option maxHeartbeats 2000000 in
theorem apart_t (A1 A2 : Option Addr) (n1 c1 n2 c2 m1 m2 : Nat) (ps qs : List Part3) (w : World) (hn1 : ps.length = m1) (hn2 : qs.length = m2) (s1 : Pl w A1 ps) (s2 : Pl w A2 qs) (h1 : n1 ≤ c1) (h1' : c1 ≤ maxLen) (h2 : n2 ≤ c2) (h2' : c2 ≤ maxLen) (hm1 : min n1 20 = m1) (hm2 : min n2 20 = m2) :
    Calls Try.prog 6 #[.slice A1 n1 c1, .slice A2 n2 c2] w fun e w' => e = .returned (.bool true) ∧ Below w.heap.size w w' := by
  have e1 : min (n1 : Int) 20 = (m1 : Int) := by omega
  have e2 : min (n2 : Int) 20 = (m2 : Int) := by omega
  have l1 : (m1 : Int) ≤ (c1 : Int) := by omega
  have l2 : (m2 : Int) ≤ (c2 : Int) := by omega
  have l3 : (m1 : Int) ≤ (n1 : Int) := by omega
  have l4 : (m2 : Int) ≤ (n2 : Int) := by omega
  have d0 := (Below.refl w.heap.size w).drew
  have s1d := s1.bel d0
  have s2d := s2.bel d0
  go_enter Try.func6, Try.ntmps6
  go_upto_region 2 with fail
  go_cut [0, 1] from 12 to 26 (fun v1 v2 wx => ApCut ps qs m1 m2 w v1 v2 wx)
  case first =>
    refine wp_region_any (by kernel_rfl) ?_
    change wpAny _ _ _ _ _ _ _ (World.drew _)
    generalize World.drew w = W0 at *
    refine wpAny_take (i := 1) (v := .slice A1 n1 c1) rfl (by kernel_rfl) (by kernel_rfl) (by kernel_rfl) (fun _ _ _ h => h) (Or.inl ⟨by rfl, ?_⟩) ?_
    · intro w
      go_simp
    refine wpAny_take (i := 2) (v := .slice A1 n1 c1) rfl (by kernel_rfl) (by kernel_rfl) (by kernel_rfl) (fun _ _ _ h => h) (Or.inl ⟨by rfl, ?_⟩) ?_
    · intro w
      go_simp
    refine wpAny_take (i := 3) (v := .int .i64 (n1 : Int)) rfl (by kernel_rfl) (by kernel_rfl) (by kernel_rfl) (fun _ _ _ h => h) (Or.inl ⟨by rfl, ?_⟩) ?_
    · intro w
      go_simp
    refine wpAny_take (i := 4) (v := .int .i64 (m1 : Int)) rfl (by kernel_rfl) (by kernel_rfl) (by kernel_rfl) (fun _ _ _ h => h) (Or.inl ⟨by rfl, ?_⟩) ?_
    · intro w
      go_simp
    refine wpAny_take (i := 5) (v := .slice A1 m1 c1) rfl (by kernel_rfl) (by kernel_rfl) (by kernel_rfl) (fun _ _ _ h => h) (Or.inl ⟨by rfl, ?_⟩) ?_
    · intro w
      go_simp
    refine wpAny_take (i := 8) (v := .slice A2 n2 c2) rfl (by kernel_rfl) (by kernel_rfl) (by kernel_rfl) (fun _ _ _ h => h) (Or.inl ⟨by rfl, ?_⟩) ?_
    · intro w
      go_simp
    refine wpAny_take (i := 9) (v := .slice A2 n2 c2) rfl (by kernel_rfl) (by kernel_rfl) (by kernel_rfl) (fun _ _ _ h => h) (Or.inl ⟨by rfl, ?_⟩) ?_
    · intro w
      go_simp
    refine wpAny_take (i := 10) (v := .int .i64 (n2 : Int)) rfl (by kernel_rfl) (by kernel_rfl) (by kernel_rfl) (fun _ _ _ h => h) (Or.inl ⟨by rfl, ?_⟩) ?_
    · intro w
      go_simp
    refine wpAny_take (i := 11) (v := .int .i64 (m2 : Int)) rfl (by kernel_rfl) (by kernel_rfl) (by kernel_rfl) (fun _ _ _ h => h) (Or.inl ⟨by rfl, ?_⟩) ?_
    · intro w
      go_simp
    refine wpAny_take (i := 12) (v := .slice A2 m2 c2) rfl (by kernel_rfl) (by kernel_rfl) (by kernel_rfl) (fun _ _ _ h => h) (Or.inl ⟨by rfl, ?_⟩) ?_
    · intro w
      go_simp
    have hs0 := d0.size
    refine wpAny_ready (rs := [0, 7]) (by kernel_rfl) (by simp) ?_
    refine AllReady.cons rfl (fun K hK => ?_) (AllReady.cons rfl (fun K hK => ?_) AllReady.nil)
    · go_simp
      refine hK _ _ ?_
      clear hK K
      have hz1 : (W0.alloc (.cells #[] 41)).heap.size = W0.heap.size + 1 := World.size_alloc _ _
      have d1 := d0.alloc d0.size (.cells #[] 41)
      have oA : (W0.alloc (.cells #[] 41)).ownsRow w.heap.size 41 3 (.slice (some ⟨W0.heap.size, 0, none⟩) 0 0) 0 [] := own_made0 W0 _ (by omega)
      refine wpAny_ready (rs := [6, 7]) (by kernel_rfl) (by simp) ?_
      refine AllReady.cons rfl (fun K hK => ?_) (AllReady.cons rfl (fun K hK => ?_) AllReady.nil)
      · refine step_app_parts rfl (.tmp 12) (.tmp 17) rfl rfl rfl hn1 (s1.bel d1) oA (by omega) (by omega) (fun g1 k1 w3 ow1 gr1 at1 lt1 => ?_)
        refine hK _ _ ?_
        clear hK K
        have d3 := Below.grown d1 gr1 (by omega) (fun q e => by injection e with e; omega)
        refine wpAny_ready (rs := [7]) (by kernel_rfl) (by simp) ?_
        refine AllReady.cons rfl (fun K hK => ?_) AllReady.nil
        go_simp
        refine hK _ _ ?_
        clear hK K
        have hs3 := d3.size
        have d4 := d3.alloc d3.size (.cells #[] 41)
        have hz3 : (w3.alloc (.cells #[] 41)).heap.size = w3.heap.size + 1 := World.size_alloc _ _
        have oB : (w3.alloc (.cells #[] 41)).ownsRow w.heap.size 41 3 (.slice (some ⟨w3.heap.size, 0, none⟩) 0 0) 0 [] := own_made0 w3 _ (by omega)
        have ow1b := ow1.alloc (.cells #[] 41)
        refine wpAny_ready (rs := [13]) (by kernel_rfl) (by simp) ?_
        refine AllReady.cons rfl (fun K hK => ?_) AllReady.nil
        refine step_app_parts rfl (.tmp 19) (.tmp 24) rfl rfl rfl hn2 (s2.bel d4) oB (by omega) (by omega) (fun g2 k2 w5 ow2 gr2 at2 lt2 => ?_)
        refine hK _ _ ?_
        clear hK K
        refine wpAny_ready (rs := [14]) (by kernel_rfl) (by simp) ?_
        refine AllReady.cons rfl (fun K hK => ?_) AllReady.nil
        go_simp
        refine hK _ _ ?_
        clear hK K
        refine wpAny_ready (rs := [15]) (by kernel_rfl) (by simp) ?_
        refine AllReady.cons rfl (fun K hK => ?_) AllReady.nil
        go_simp
        refine hK _ _ ?_
        clear hK K
        refine wpAny_done (by kernel_rfl) ?_ _
        go_wp2_with fail
        go_meet
        exact ⟨g1, g2, k1, k2, rfl, rfl, by omega, ow1b.kept gr2 (.inr (fun e => by simp [Value.ownBlock] at e; omega)), ow2, Below.grown d4 gr2 (by omega) (fun q e => by injection e with e; omega)⟩
      · go_simp
        refine hK _ _ ?_
        clear hK K
        have hz2 : ((W0.alloc (.cells #[] 41)).alloc (.cells #[] 41)).heap.size = W0.heap.size + 1 + 1 := by simp
        have d2 := d1.alloc d1.size (.cells #[] 41)
        have oA2 := oA.alloc (.cells #[] 41)
        have oB : ((W0.alloc (.cells #[] 41)).alloc (.cells #[] 41)).ownsRow w.heap.size 41 3 (.slice (some ⟨W0.heap.size + 1, 0, none⟩) 0 0) 0 [] := by have := own_made0 (W0.alloc (.cells #[] 41)) w.heap.size (by omega); rwa [hz1] at this
        refine wpAny_ready (rs := [6]) (by kernel_rfl) (by simp) ?_
        refine AllReady.cons rfl (fun K hK => ?_) AllReady.nil
        refine step_app_parts rfl (.tmp 12) (.tmp 17) rfl rfl rfl hn1 (s1.bel d2) oA2 (by omega) (by omega) (fun g1 k1 w3 ow1 gr1 at1 lt1 => ?_)
        refine hK _ _ ?_
        clear hK K
        have d3 := Below.grown d2 gr1 (by omega) (fun q e => by injection e with e; omega)
        have hs3 := d3.size
        have oB3 := oB.kept gr1 (.inr (fun e => by simp [Value.ownBlock] at e))
        have hg3 := gr1.size
        refine wpAny_ready (rs := [13]) (by kernel_rfl) (by simp) ?_
        refine AllReady.cons rfl (fun K hK => ?_) AllReady.nil
        refine step_app_parts rfl (.tmp 19) (.tmp 24) rfl rfl rfl hn2 (s2.bel d3) oB3 (by omega) (by omega) (fun g2 k2 w5 ow2 gr2 at2 lt2 => ?_)
        refine hK _ _ ?_
        clear hK K
        refine wpAny_ready (rs := [14]) (by kernel_rfl) (by simp) ?_
        refine AllReady.cons rfl (fun K hK => ?_) AllReady.nil
        go_simp
        refine hK _ _ ?_
        clear hK K
        refine wpAny_ready (rs := [15]) (by kernel_rfl) (by simp) ?_
        refine AllReady.cons rfl (fun K hK => ?_) AllReady.nil
        go_simp
        refine hK _ _ ?_
        clear hK K
        refine wpAny_done (by kernel_rfl) ?_ _
        go_wp2_with fail
        go_meet
        exact ⟨g1, g2, k1, k2, rfl, rfl, by omega, ow1.kept gr2 (.inr (fun e => by simp [Value.ownBlock] at e; omega)), ow2, Below.grown d3 gr2 (by omega) (fun q e => by injection e with e; omega)⟩
    · go_simp
      refine hK _ _ ?_
      clear hK K
      have hz1 : (W0.alloc (.cells #[] 41)).heap.size = W0.heap.size + 1 := World.size_alloc _ _
      have d1 := d0.alloc d0.size (.cells #[] 41)
      have oB : (W0.alloc (.cells #[] 41)).ownsRow w.heap.size 41 3 (.slice (some ⟨W0.heap.size, 0, none⟩) 0 0) 0 [] := own_made0 W0 _ (by omega)
      refine wpAny_ready (rs := [0]) (by kernel_rfl) (by simp) ?_
      refine AllReady.cons rfl (fun K hK => ?_) AllReady.nil
      go_simp
      refine hK _ _ ?_
      clear hK K
      have hz2 : ((W0.alloc (.cells #[] 41)).alloc (.cells #[] 41)).heap.size = W0.heap.size + 1 + 1 := by simp
      have d2 := d1.alloc d1.size (.cells #[] 41)
      have oB2 := oB.alloc (.cells #[] 41)
      have oA : ((W0.alloc (.cells #[] 41)).alloc (.cells #[] 41)).ownsRow w.heap.size 41 3 (.slice (some ⟨W0.heap.size + 1, 0, none⟩) 0 0) 0 [] := by have := own_made0 (W0.alloc (.cells #[] 41)) w.heap.size (by omega); rwa [hz1] at this
      refine wpAny_ready (rs := [6]) (by kernel_rfl) (by simp) ?_
      refine AllReady.cons rfl (fun K hK => ?_) AllReady.nil
      refine step_app_parts rfl (.tmp 12) (.tmp 17) rfl rfl rfl hn1 (s1.bel d2) oA (by omega) (by omega) (fun g1 k1 w3 ow1 gr1 at1 lt1 => ?_)
      refine hK _ _ ?_
      clear hK K
      have d3 := Below.grown d2 gr1 (by omega) (fun q e => by injection e with e; omega)
      have hs3 := d3.size
      have oB3 := oB2.kept gr1 (.inr (fun e => by simp [Value.ownBlock] at e))
      have hg3 := gr1.size
      refine wpAny_ready (rs := [13]) (by kernel_rfl) (by simp) ?_
      refine AllReady.cons rfl (fun K hK => ?_) AllReady.nil
      refine step_app_parts rfl (.tmp 19) (.tmp 24) rfl rfl rfl hn2 (s2.bel d3) oB3 (by omega) (by omega) (fun g2 k2 w5 ow2 gr2 at2 lt2 => ?_)
      refine hK _ _ ?_
      clear hK K
      refine wpAny_ready (rs := [14]) (by kernel_rfl) (by simp) ?_
      refine AllReady.cons rfl (fun K hK => ?_) AllReady.nil
      go_simp
      refine hK _ _ ?_
      clear hK K
      refine wpAny_ready (rs := [15]) (by kernel_rfl) (by simp) ?_
      refine AllReady.cons rfl (fun K hK => ?_) AllReady.nil
      go_simp
      refine hK _ _ ?_
      clear hK K
      refine wpAny_done (by kernel_rfl) ?_ _
      go_wp2_with fail
      go_meet
      exact ⟨g1, g2, k1, k2, rfl, rfl, by omega, ow1.kept gr2 (.inr (fun e => by simp [Value.ownBlock] at e; omega)), ow2, Below.grown d3 gr2 (by omega) (fun q e => by injection e with e; omega)⟩
  case rest =>
    obtain ⟨g1, g2, k1, k2, rfl, rfl, hne, o1, o2, d⟩ := hcut
    have hsm0 : ((m1 : Int) == (m2 : Int)) = sameN ps qs 0 := by
      rw [sameN_zero, hn1, hn2]
      by_cases h : m1 = m2
      · subst h; simp
      · have h' : ¬ (m1 : Int) = (m2 : Int) := by omega
        simp [h, h']
    clear e1 e2 l1 l2 l3 l4 s1 s2 s1d s2d d0 h1 h1' h2 h2'
    go_wp2_with fail
    go_loopw [33, 6] (fun i sm wr => ApRel ps qs m1 wc i sm wr) (fun i _ _ => m1 - (intOf i).toNat)
    case atStart => exact ⟨0, 0, Nat.zero_le _, rfl, by rw [← hsm0], rfl⟩
    case round =>
      obtain ⟨k, dd, hk, rfl, rfl, hwr⟩ := hrel
      have dw : Below wc.heap.size wc wr := by rw [hwr]; exact below_drewN (Below.refl _ _) dd
      have r1 := ownsRow_bel o1 dw
      have r2 := ownsRow_bel o2 dw
      have Hwr := Lib.hid hwr
      clear hwr dw
      by_cases hkm : k < m1
      · have hkm' : (k : Int) < (m1 : Int) := by omega
        have hm20 : (m1 : Int) ≤ 20 := by omega
        have hwk : IntKind.i64.wrap ((k : Int) + 1) = (k : Int) + 1 := by rw [IntKind.wrap_i64]; omega
        cases hs : sameN ps qs k with
        | false =>
          have HS := Lib.hid (sameN_false hs (by omega))
          clear hs
          go_wp2_with fail
          go_quiet (fail)
          go_wp2_with fail
          exact ⟨⟨k + 1, dd + _, by omega, rfl, by rw [HS.out], by rw [Hwr.out]; exact drewN_add _ _ _⟩, by simp [intOf]; omega⟩
        | true =>
          have hl12 : m1 = m2 := by
            have : decide (ps.length = qs.length) = true := by unfold sameN at hs; simp at hs; simpa using hs.1
            have := of_decide_eq_true this
            omega
          subst hl12
          have Hs := Lib.hid hs
          clear hs
          obtain ⟨p1, q1, hp1, hq1⟩ : ∃ p q, ps[k] = p ∧ qs[k] = q := ⟨_, _, rfl, rfl⟩
          have hadd : ∀ g j, (⟨g, 0, none⟩ : Addr).add j = ⟨g, j, none⟩ := fun g j => by rw [add_flat, Nat.zero_add]
          obtain ⟨i0, i1, i2⟩ := cellsP_get (ps := ps) (i := k) (by omega)
          obtain ⟨j0, j1, j2⟩ := cellsP_get (ps := qs) (i := k) (by omega)
          have ci0 := hadd g1 _ ▸ r1.cells (g := g1) rfl _ _ i0
          have ci1 := hadd g1 _ ▸ r1.cells (g := g1) rfl _ _ i1
          have cj0 := hadd g2 _ ▸ r2.cells (g := g2) rfl _ _ j0
          have cj1 := hadd g2 _ ▸ r2.cells (g := g2) rfl _ _ j1
          have HS := Lib.hid (sameN_succ (ps := ps) (qs := qs) (k := k) (by omega) (by omega))
          rw [hp1] at ci0 ci1 HS
          rw [hq1] at cj0 cj1 HS
          obtain ⟨l1, b1, a1⟩ := p1
          obtain ⟨l2, b2, a2⟩ := q1
          dsimp only at ci0 ci1 cj0 cj1
          clear i0 i1 i2 j0 j1 j2 hp1 hq1
          go_wp2_with fail
          by_cases hl : l1 = l2
          · subst hl
            go_quiet ((go_at_call 7; exact Calls.quiet_of_same (short_any _ _)))
            go_wp2_with fail
            exact ⟨⟨k + 1, dd + _, by omega, rfl, by rw [HS.out, Hs.out, str_beq]; simp [keyN], by rw [Hwr.out]; exact drewN_add _ _ _⟩, by simp [intOf]; omega⟩
          · have hlb : (l1.toList == l2.toList) = false := by rw [str_beq]; simp [hl]
            have Hl := Lib.hid hl
            clear hl
            go_quiet (fail)
            go_wp2_with fail
            exact ⟨⟨k + 1, dd + _, by omega, rfl, by rw [HS.out, Hs.out]; simp [keyN, Hl.out], by rw [Hwr.out]; exact drewN_add _ _ _⟩, by simp [intOf]; omega⟩
      · obtain rfl : k = m1 := by omega
        have hfin := fun he hf => same_fin (ps := ps) (qs := qs) (by omega) (by omega) he hf
        rw [hn1] at hfin
        have Hfin := Lib.hid hfin
        have D1 := Lib.hid (say1_any (some ⟨g1, 0, none⟩) k k1 w.heap.size ps wr hn1 r1 (by unfold maxLen; omega))
        have D2 := Lib.hid (fun W ow => say1_any (some ⟨g2, 0, none⟩) m2 k2 w.heap.size qs W hn2 ow (by unfold maxLen; omega))
        unfold SyPost at D1 D2
        generalize runF (ps.map offP) = S1 at *
        generalize runF (qs.map offP) = S2 at *
        generalize sameN ps qs k = sm at *
        have dr : Below w.heap.size w wr := by rw [Hwr.out]; exact below_drewN d dd
        clear hfin
        go_wp2_with fail
        refine (D1.out).mono ?_
        rintro e w1 ⟨rfl, gr1⟩
        have r2' := r2.kept gr1 (.inr (fun e => by simp [Value.ownBlock] at e; omega))
        have d1 := Below.grown dr gr1 dr.size (fun q e => by simp [Value.ownBlock] at e; have := (r1.lt g1 rfl).1; omega)
        go_wp2_with fail
        refine (D2.out _ r2').mono ?_
        rintro e w2 ⟨rfl, gr2⟩
        have d2 := Below.grown d1 gr2 d1.size (fun q e => by simp [Value.ownBlock] at e; have := (r2'.lt g2 rfl).1; omega)
        go_wp2_with fail
        refine (alive14_any _).mono ?_
        rintro e w8 ⟨rfl, b8⟩
        by_cases f1 : S1.1.2.2 = 0
        · have f1' : (S1.1.2.2 == 0) = true := by simp [f1]
          by_cases f2 : S2.1.2.2 = 0
          · have f2' : (S2.1.2.2 == 0) = true := by simp [f2]
            have hq := Hfin.out f1 f2
            have hb2 : (sm == sm) = true := by simp
            clear f1 f2
            go_wp2_with fail
            go_ret
            exact ⟨rfl, d2.trans (b8.mono d2.size)⟩
          · have f2' : (S2.1.2.2 == 0) = false := by simp [f2]
            clear f1 f2
            go_wp2_with fail
            go_ret
            exact ⟨rfl, d2.trans (b8.mono d2.size)⟩
        · have f1' : (S1.1.2.2 == 0) = false := by simp [f1]
          clear f1
          go_wp2_with fail
          go_ret
          exact ⟨rfl, d2.trans (b8.mono d2.size)⟩
end Go.Proofs.Ytoocoobgidoceaa
