import Derived.Test.YtfkpcmjmibbmbaaMontPowN
namespace Go.Proofs.Ytfkpcmjmibbmbaa
open Go.RowKit Go.Shelf
set_option linter.unusedVariables false

set_option maxHeartbeats 1600000 in
theorem montPows_okA (A E M : Option Addr) (p n k ca ce cm : Nat) (xs es ms : List Nat) (w : World) (hca : p ≤ ca) (hca' : ca ≤ maxLen) (hce : n ≤ ce) (hce' : ce ≤ maxLen) (hcm : k ≤ cm) (hcm' : cm ≤ maxLen)
    (hx : xs.length = p) (he : es.length = n) (hm : ms.length = k) (ox : Ok xs) (oe : Ok es) (om : Ok ms) (sx : Sl w .u64 A xs) (se : Sl w .u64 E es) (sm : Sl w .u64 M ms) (hM : IsMod ms) (hX : IsEl xs ms) (hn : n ≤ 2) :
    Calls Try.prog 7 #[.slice A p ca, .slice E n ce, .slice M k cm] w fun e w' => e = .returned (.bool true) ∧ Below w.heap.size w w' := by
  have hA : ¬ (n : Int) > 2 := by omega
  have hC : ¬ (n : Int) > 16 := by omega
  have hp' : p ≤ 9223372036854775807 := by unfold maxLen at hca'; omega
  obtain rfl : p = k := by rw [← hx, hX.1, hm]
  have D1 := Lib.hid (mpow_ok A E M p n ca ce cm xs es ms w hca hca' (by omega) hce' hcm hcm' (by omega) hm (by simp [he]; try omega) ox oe om sx se sm hM hX)
  have D3 := Lib.hid (fun w' (b : Below w.heap.size w w') => check_ok A A M p p p ca ca cm xs xs ms w' hp' hp' hcm hcm' hx hx hm ox ox om (sx.bel b) (sx.bel b) (sm.bel b) hM hX hX)
  have D4 := Lib.hid (fun w' (b : Below w.heap.size w w') => rpow_any A E M p n ca ce cm xs es ms w' hca hca' (by omega) hce' hcm hcm' (by omega) hm (by simp [he]; try omega) ox oe om (sx.bel b) (Sl.bel se b) (sm.bel b) hM hX)
  clear hx hm he hM hX
  go_enter Try.func7, Try.ntmps7
  go_wp2_with fail
  refine (D1.out).mono ?_
  rintro e w1 ⟨g, zs, rfl, s1, l1, o1, r1, b1⟩
  have L1 := Lib.hid l1
  have R1 := Lib.hid r1
  clear l1 r1
  go_wp2_with fail
  refine (D3.out w1 b1).mono ?_
  rintro e w3 ⟨rfl, b3⟩
  have b13 := b1.trans (b3.mono b1.size)
  have s13 := s1.bel b3
  clear s1
  go_wp2_with fail
  refine (alive2_any w3).mono ?_
  rintro e w' ⟨rfl, rfl⟩
  go_wp2_with fail
  refine (D4.out w3 b13).mono ?_
  rintro e w4 ⟨g4, vs, rfl, s4, l4, o4, r4, b4⟩
  have b14 := b13.trans (b4.mono b13.size)
  have s14 := s13.bel b4
  obtain rfl : vs = zs := val_inj o4 o1 (by rw [l4, L1.out]) (r4.trans R1.out.symm)
  have D5 := Lib.hid (lsame_ok (some ⟨g, 0, none⟩) (some ⟨g4, 0, none⟩) p p p vs w4 hp' l4 s14 (Sl.of_own s4))
  clear l4 r4 s13
  go_wp2_with fail
  refine (D5.out).mono ?_
  rintro e w5 ⟨rfl, b5⟩
  have b15 := b14.trans (b5.mono b14.size)
  go_wp2_with fail
  go_ret
  exact ⟨rfl, b15⟩

set_option maxHeartbeats 1600000 in
theorem montPows_okB (A E M : Option Addr) (p n k ca ce cm : Nat) (xs es ms : List Nat) (w : World) (hca : p ≤ ca) (hca' : ca ≤ maxLen) (hce : n ≤ ce) (hce' : ce ≤ maxLen) (hcm : k ≤ cm) (hcm' : cm ≤ maxLen)
    (hx : xs.length = p) (he : es.length = n) (hm : ms.length = k) (ox : Ok xs) (oe : Ok es) (om : Ok ms) (sx : Sl w .u64 A xs) (se : Sl w .u64 E es) (sm : Sl w .u64 M ms) (hM : IsMod ms) (hX : IsEl xs ms) (hn : 2 < n) (hn16 : n ≤ 16) :
    Calls Try.prog 7 #[.slice A p ca, .slice E n ce, .slice M k cm] w fun e w' => e = .returned (.bool true) ∧ Below w.heap.size w w' := by
  have hA : (n : Int) > 2 := by omega
  have hB : (n : Int) ≤ 16 := by omega
  have hD : (2 : Int) ≤ (ce : Int) := by omega
  have hp' : p ≤ 9223372036854775807 := by unfold maxLen at hca'; omega
  obtain rfl : p = k := by rw [← hx, hX.1, hm]
  have D1 := Lib.hid (mpow_ok A E M p 2 ca ce cm xs (es.take 2) ms w hca hca' (by omega) hce' hcm hcm' (by omega) hm (by simp [he]; try omega) ox (oe.take 2) om sx (se.take 2) sm hM hX)
  have D3 := Lib.hid (fun w' (b : Below w.heap.size w w') => check_ok A A M p p p ca ca cm xs xs ms w' hp' hp' hcm hcm' hx hx hm ox ox om (sx.bel b) (sx.bel b) (sm.bel b) hM hX hX)
  have D4 := Lib.hid (fun w' (b : Below w.heap.size w w') => rpow_any A E M p 2 ca ce cm xs (es.take 2) ms w' hca hca' (by omega) hce' hcm hcm' (by omega) hm (by simp [he]; try omega) ox (oe.take 2) om (sx.bel b) (Sl.bel (se.take 2) b) (sm.bel b) hM hX)
  clear hx hm he hM hX
  go_enter Try.func7, Try.ntmps7
  go_wp2_with fail
  refine (D1.out).mono ?_
  rintro e w1 ⟨g, zs, rfl, s1, l1, o1, r1, b1⟩
  have L1 := Lib.hid l1
  have R1 := Lib.hid r1
  clear l1 r1
  go_wp2_with fail
  refine (D3.out w1 b1).mono ?_
  rintro e w3 ⟨rfl, b3⟩
  have b13 := b1.trans (b3.mono b1.size)
  have s13 := s1.bel b3
  clear s1
  go_wp2_with fail
  refine (alive2_any w3).mono ?_
  rintro e w' ⟨rfl, rfl⟩
  go_wp2_with fail
  refine (D4.out w3 b13).mono ?_
  rintro e w4 ⟨g4, vs, rfl, s4, l4, o4, r4, b4⟩
  have b14 := b13.trans (b4.mono b13.size)
  have s14 := s13.bel b4
  obtain rfl : vs = zs := val_inj o4 o1 (by rw [l4, L1.out]) (r4.trans R1.out.symm)
  have D5 := Lib.hid (lsame_ok (some ⟨g, 0, none⟩) (some ⟨g4, 0, none⟩) p p p vs w4 hp' l4 s14 (Sl.of_own s4))
  clear l4 r4 s13
  go_wp2_with fail
  refine (D5.out).mono ?_
  rintro e w5 ⟨rfl, b5⟩
  have b15 := b14.trans (b5.mono b14.size)
  go_wp2_with fail
  go_ret
  exact ⟨rfl, b15⟩

set_option maxHeartbeats 1600000 in
theorem montPows_noA (A E M : Option Addr) (p n k ca ce cm : Nat) (xs es ms : List Nat) (w : World) (hca : p ≤ ca) (hca' : ca ≤ maxLen) (hce : n ≤ ce) (hce' : ce ≤ maxLen) (hcm : k ≤ cm) (hcm' : cm ≤ maxLen)
    (hx : xs.length = p) (he : es.length = n) (hm : ms.length = k) (ox : Ok xs) (oe : Ok es) (om : Ok ms) (sx : Sl w .u64 A xs) (se : Sl w .u64 E es) (sm : Sl w .u64 M ms) (hno : ¬ (IsMod ms ∧ IsEl xs ms)) (hn : n ≤ 2) :
    Calls Try.prog 7 #[.slice A p ca, .slice E n ce, .slice M k cm] w fun e w' => e = .returned (.bool true) ∧ Below w.heap.size w w' := by
  have hA : ¬ (n : Int) > 2 := by omega
  have hC : ¬ (n : Int) > 16 := by omega
  have hp' : p ≤ 9223372036854775807 := by unfold maxLen at hca'; omega
  have D1 := Lib.hid (mpow_no A E M p n k ca ce cm xs ms w hca hca' hcm hcm' hx hm ox om sx sm (fun h => hno ⟨h.1, h.2.1⟩))
  have D3 := Lib.hid (fun w' (b : Below w.heap.size w w') => check_no A A M p p k ca ca cm xs xs ms w' hp' hp' hcm hcm' hx hx hm ox ox om (sx.bel b) (sx.bel b) (sm.bel b) (fun h => hno ⟨h.1, h.2.1⟩))
  clear hx hm he
  go_enter Try.func7, Try.ntmps7
  go_wp2_with fail
  refine (D1.out).mono ?_
  rintro e w1 ⟨rfl, b1⟩
  go_wp2_with fail
  refine (D3.out w1 b1).mono ?_
  rintro e w3 ⟨rfl, b3⟩
  have b13 := b1.trans (b3.mono b1.size)
  go_wp2_with fail
  refine (alive2_any w3).mono ?_
  rintro e w' ⟨rfl, rfl⟩
  go_wp2_with fail
  refine (lsame_no none 0 0 w3).mono ?_
  rintro e w' ⟨rfl, rfl⟩
  go_wp2_with fail
  go_ret
  exact ⟨rfl, b13⟩

set_option maxHeartbeats 1600000 in
theorem montPows_noB (A E M : Option Addr) (p n k ca ce cm : Nat) (xs es ms : List Nat) (w : World) (hca : p ≤ ca) (hca' : ca ≤ maxLen) (hce : n ≤ ce) (hce' : ce ≤ maxLen) (hcm : k ≤ cm) (hcm' : cm ≤ maxLen)
    (hx : xs.length = p) (he : es.length = n) (hm : ms.length = k) (ox : Ok xs) (oe : Ok es) (om : Ok ms) (sx : Sl w .u64 A xs) (se : Sl w .u64 E es) (sm : Sl w .u64 M ms) (hno : ¬ (IsMod ms ∧ IsEl xs ms)) (hn : 2 < n) (hn16 : n ≤ 16) :
    Calls Try.prog 7 #[.slice A p ca, .slice E n ce, .slice M k cm] w fun e w' => e = .returned (.bool true) ∧ Below w.heap.size w w' := by
  have hA : (n : Int) > 2 := by omega
  have hB : (n : Int) ≤ 16 := by omega
  have hD : (2 : Int) ≤ (ce : Int) := by omega
  have hp' : p ≤ 9223372036854775807 := by unfold maxLen at hca'; omega
  have D1 := Lib.hid (mpow_no A E M p 2 k ca ce cm xs ms w hca hca' hcm hcm' hx hm ox om sx sm (fun h => hno ⟨h.1, h.2.1⟩))
  have D3 := Lib.hid (fun w' (b : Below w.heap.size w w') => check_no A A M p p k ca ca cm xs xs ms w' hp' hp' hcm hcm' hx hx hm ox ox om (sx.bel b) (sx.bel b) (sm.bel b) (fun h => hno ⟨h.1, h.2.1⟩))
  clear hx hm he
  go_enter Try.func7, Try.ntmps7
  go_wp2_with fail
  refine (D1.out).mono ?_
  rintro e w1 ⟨rfl, b1⟩
  go_wp2_with fail
  refine (D3.out w1 b1).mono ?_
  rintro e w3 ⟨rfl, b3⟩
  have b13 := b1.trans (b3.mono b1.size)
  go_wp2_with fail
  refine (alive2_any w3).mono ?_
  rintro e w' ⟨rfl, rfl⟩
  go_wp2_with fail
  refine (lsame_no none 0 0 w3).mono ?_
  rintro e w' ⟨rfl, rfl⟩
  go_wp2_with fail
  go_ret
  exact ⟨rfl, b13⟩

set_option maxHeartbeats 1600000 in
theorem montPows_noC (A E M : Option Addr) (p n k ca ce cm : Nat) (xs es ms : List Nat) (w : World) (hca : p ≤ ca) (hca' : ca ≤ maxLen) (hce : n ≤ ce) (hce' : ce ≤ maxLen) (hcm : k ≤ cm) (hcm' : cm ≤ maxLen)
    (hx : xs.length = p) (he : es.length = n) (hm : ms.length = k) (ox : Ok xs) (oe : Ok es) (om : Ok ms) (sx : Sl w .u64 A xs) (se : Sl w .u64 E es) (sm : Sl w .u64 M ms) (hno : ¬ (IsMod ms ∧ IsEl xs ms)) (hn : 16 < n) :
    Calls Try.prog 7 #[.slice A p ca, .slice E n ce, .slice M k cm] w fun e w' => e = .returned (.bool true) ∧ Below w.heap.size w w' := by
  have hA : (n : Int) > 2 := by omega
  have hB : ¬ (n : Int) ≤ 16 := by omega
  have hC : (n : Int) > 16 := by omega
  have hp' : p ≤ 9223372036854775807 := by unfold maxLen at hca'; omega
  have D1 := Lib.hid (mpow_no A E M p n k ca ce cm xs ms w hca hca' hcm hcm' hx hm ox om sx sm (fun h => hno ⟨h.1, h.2.1⟩))
  have D3 := Lib.hid (fun w' (b : Below w.heap.size w w') => check_no A A M p p k ca ca cm xs xs ms w' hp' hp' hcm hcm' hx hx hm ox ox om (sx.bel b) (sx.bel b) (sm.bel b) (fun h => hno ⟨h.1, h.2.1⟩))
  clear hx hm he
  go_enter Try.func7, Try.ntmps7
  go_wp2_with fail
  refine (D1.out).mono ?_
  rintro e w1 ⟨rfl, b1⟩
  go_wp2_with fail
  refine (D3.out w1 b1).mono ?_
  rintro e w3 ⟨rfl, b3⟩
  have b13 := b1.trans (b3.mono b1.size)
  go_wp2_with fail
  refine (alive2_any w3).mono ?_
  rintro e w' ⟨rfl, rfl⟩
  go_wp2_with fail
  refine (lsame_no none 0 0 w3).mono ?_
  rintro e w' ⟨rfl, rfl⟩
  go_wp2_with fail
  go_ret
  exact ⟨rfl, b13⟩

set_option maxHeartbeats 1600000 in
theorem montPows_noD (A E M : Option Addr) (p n k ca ce cm : Nat) (xs es ms : List Nat) (w : World) (hca : p ≤ ca) (hca' : ca ≤ maxLen) (hce : n ≤ ce) (hce' : ce ≤ maxLen) (hcm : k ≤ cm) (hcm' : cm ≤ maxLen)
    (hx : xs.length = p) (he : es.length = n) (hm : ms.length = k) (ox : Ok xs) (oe : Ok es) (om : Ok ms) (sx : Sl w .u64 A xs) (se : Sl w .u64 E es) (sm : Sl w .u64 M ms) (hM : IsMod ms) (hX : IsEl xs ms) (hn : 16 < n) :
    Calls Try.prog 7 #[.slice A p ca, .slice E n ce, .slice M k cm] w fun e w' => e = .returned (.bool true) ∧ Below w.heap.size w w' := by
  have hA : (n : Int) > 2 := by omega
  have hB : ¬ (n : Int) ≤ 16 := by omega
  have hC : (n : Int) > 16 := by omega
  have hp' : p ≤ 9223372036854775807 := by unfold maxLen at hca'; omega
  have D1 := Lib.hid (mpow_no A E M p n k ca ce cm xs ms w hca hca' hcm hcm' hx hm ox om sx sm (fun h => by have := h.2.2; omega))
  have D3 := Lib.hid (fun w' (b : Below w.heap.size w w') => check_ok A A M p p k ca ca cm xs xs ms w' hp' hp' hcm hcm' hx hx hm ox ox om (sx.bel b) (sx.bel b) (sm.bel b) hM hX hX)
  clear hx hm he
  go_enter Try.func7, Try.ntmps7
  go_wp2_with fail
  refine (D1.out).mono ?_
  rintro e w1 ⟨rfl, b1⟩
  go_wp2_with fail
  refine (D3.out w1 b1).mono ?_
  rintro e w3 ⟨rfl, b3⟩
  have b13 := b1.trans (b3.mono b1.size)
  go_wp2_with fail
  refine (alive2_any w3).mono ?_
  rintro e w' ⟨rfl, rfl⟩
  go_wp2_with fail
  refine (lsame_no none 0 0 w3).mono ?_
  rintro e w' ⟨rfl, rfl⟩
  go_wp2_with fail
  go_ret
  exact ⟨rfl, b13⟩

set_option maxHeartbeats 1600000 in
theorem montPows_any (A E M : Option Addr) (p n k ca ce cm : Nat) (xs es ms : List Nat) (w : World) (hca : p ≤ ca) (hca' : ca ≤ maxLen) (hce : n ≤ ce) (hce' : ce ≤ maxLen) (hcm : k ≤ cm) (hcm' : cm ≤ maxLen)
    (hx : xs.length = p) (he : es.length = n) (hm : ms.length = k) (ox : Ok xs) (oe : Ok es) (om : Ok ms) (sx : Sl w .u64 A xs) (se : Sl w .u64 E es) (sm : Sl w .u64 M ms) :
    Calls Try.prog 7 #[.slice A p ca, .slice E n ce, .slice M k cm] w fun e w' => e = .returned (.bool true) ∧ Below w.heap.size w w' := by
  by_cases hh : IsMod ms ∧ IsEl xs ms
  · by_cases h2 : n ≤ 2
    · exact montPows_okA A E M p n k ca ce cm xs es ms w hca hca' hce hce' hcm hcm' hx he hm ox oe om sx se sm hh.1 hh.2 h2
    · by_cases h16 : n ≤ 16
      · exact montPows_okB A E M p n k ca ce cm xs es ms w hca hca' hce hce' hcm hcm' hx he hm ox oe om sx se sm hh.1 hh.2 (by omega) h16
      · exact montPows_noD A E M p n k ca ce cm xs es ms w hca hca' hce hce' hcm hcm' hx he hm ox oe om sx se sm hh.1 hh.2 (by omega)
  · by_cases h2 : n ≤ 2
    · exact montPows_noA A E M p n k ca ce cm xs es ms w hca hca' hce hce' hcm hcm' hx he hm ox oe om sx se sm hh h2
    · by_cases h16 : n ≤ 16
      · exact montPows_noB A E M p n k ca ce cm xs es ms w hca hca' hce hce' hcm hcm' hx he hm ox oe om sx se sm hh (by omega) h16
      · exact montPows_noC A E M p n k ca ce cm xs es ms w hca hca' hce hce' hcm hcm' hx he hm ox oe om sx se sm hh (by omega)
end Go.Proofs.Ytfkpcmjmibbmbaa
