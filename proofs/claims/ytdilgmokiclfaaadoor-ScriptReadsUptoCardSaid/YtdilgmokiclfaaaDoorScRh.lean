/- Chapter 24: the reference's Parse. -/
import Derived.Test.YtdilgmokiclfaaaDoorScRg
namespace Go.Proofs.YtdilgmokiclfaaaDoor
open Go.RowKit
set_option linter.unusedVariables false
set_option maxRecDepth 100000

/-- What is read, in its three stages: nothing, tau, the lines. -/
def PwSt (w : World) (R : Nat ⊕ PlR) (sr : ByteArray) (no : Nat) (W : World) : Prop :=
  (no = 1 ∧ RpSt w W plZ ∧ R = parseR sr) ∨
  (no = 2 ∧ ∃ tau a0 a1 a2 a3, fl tau = [a0, a1, a2, a3] ∧ tau < pw 4 ∧ RpSt w W (plC a0 a1 a2 a3 (.slice none 0 0) (.slice none 0 0) (.slice none 0 0)) ∧ R = blindR tau sr) ∨
  (∃ tau a0 a1 a2 a3 BA bc bs os OA oc, fl tau = [a0, a1, a2, a3] ∧ tau < pw 4 ∧ RlSt w W a0 a1 a2 a3 BA bc bs os OA oc (.slice none 0 0) ∧ no = os.length + 3 ∧ os.length ≤ 400 ∧
    R = finR tau bs (linesR (401 - os.length) (os.map (·.d)) sr (os.length + 2)))
theorem PwSt.b {w W : World} {R : Nat ⊕ PlR} {sr : ByteArray} {no : Nat} (h : PwSt w R sr no W) : Below w.heap.size w W := by
  rcases h with ⟨_, h, _⟩ | ⟨_, _, _, _, _, _, _, _, h, _⟩ | ⟨_, _, _, _, _, _, _, _, _, _, _, _, _, h, _⟩
  · exact h.b
  · exact h.b
  · exact h.P.b
theorem PwSt.bel {w W W' : World} {R : Nat ⊕ PlR} {sr : ByteArray} {no : Nat} (h : PwSt w R sr no W) (hb : Below W.heap.size W W') : PwSt w R sr no W' := by
  rcases h with ⟨h1, h, h2⟩ | ⟨h1, tau, a0, a1, a2, a3, h2, h3, h, h4⟩ | ⟨tau, a0, a1, a2, a3, BA, bc, bs, os, OA, oc, h2, h3, h, h4⟩
  · exact .inl ⟨h1, h.bel hb, h2⟩
  · exact .inr (.inl ⟨h1, tau, a0, a1, a2, a3, h2, h3, h.bel hb, h4⟩)
  · exact .inr (.inr ⟨tau, a0, a1, a2, a3, BA, bc, bs, os, OA, oc, h2, h3, h.bel hb, h4⟩)
theorem PwSt.lt {w W : World} {R : Nat ⊕ PlR} {sr : ByteArray} {no : Nat} (h : PwSt w R sr no W) : w.heap.size + 1 < W.heap.size := by
  rcases h with ⟨_, h, _⟩ | ⟨_, _, _, _, _, _, _, _, h, _⟩ | ⟨_, _, _, _, _, _, _, _, _, _, _, _, _, h, _⟩
  · exact h.lt
  · exact h.lt
  · exact h.P.lt
theorem PwSt.le {w W : World} {R : Nat ⊕ PlR} {sr : ByteArray} {no : Nat} (h : PwSt w R sr no W) : 1 ≤ no ∧ no ≤ 403 := by
  rcases h with ⟨h1, _⟩ | ⟨h1, _⟩ | ⟨tau, a0, a1, a2, a3, BA, bc, bs, os, OA, oc, _, _, _, h1, h2, _⟩ <;> omega
def PwRel (w : World) (R : Nat ⊕ PlR) (sv nv : Value) (wr : World) : Prop :=
  ∃ (sr : ByteArray) (no : Nat), sv = .string sr ∧ nv = .int .i64 (no : Int) ∧ sr.size ≤ 50000000 ∧ PwSt w R sr no wr
theorem RpSt.new (w : World) : RpSt w ((w.alloc (.cells plZ 28)).alloc (.cells plZ 28)) plZ :=
  ⟨(Bk.new w _ _).alloc _, Bk.new1 w _ _ _, ((Below.refl w.heap.size w).alloc (Nat.le_refl _) _).alloc (by simp) _⟩
theorem beq_tau (s : ByteArray) : (s.toList == [116, 97, 117]) = decide (s = tauB) := by
  rw [← str_beq, ByteArray.toList_eq tauB]; rfl
theorem beq_blind (s : ByteArray) : (s.toList == [98, 108, 105, 110, 100]) = decide (s = blindB) := by
  rw [← str_beq, ByteArray.toList_eq blindB]; rfl
theorem beq_give (s : ByteArray) : (s.toList == [103, 105, 118, 101]) = decide (s = giveB) := by
  rw [← str_beq, ByteArray.toList_eq giveB]; rfl
def oneR (Q : ByteArray) : Option (List Nat) → Nat ⊕ PlR
  | some [tau] => blindR tau Q
  | _ => .inl 1
theorem parseR_one (s : ByteArray) : parseR s = if cutI s = false then .inl 1 else oneR (cutR s) (fieldsR (cutA s) tauB) := by
  unfold parseR
  split
  · rfl
  · generalize fieldsR (cutA s) tauB = X
    match X with
    | none => rfl
    | some [] => rfl
    | some [a] => rfl
    | some (a :: b :: r) => rfl
def twoR (tau : Nat) (Q : ByteArray) : Option (List Nat) → Nat ⊕ PlR
  | some bs => if bs.length = 11 then finR tau bs (linesR 401 [] Q 2) else .inl 2
  | none => .inl 2
theorem blindR_two (tau : Nat) (s : ByteArray) : blindR tau s = if cutI s = false then .inl 2 else twoR tau (cutR s) (fieldsR (cutA s) blindB) := by
  rw [blindR_eq]
  split
  · rfl
  · cases fieldsR (cutA s) blindB <;> rfl
def thrR (f : Nat) (ops : List OpD) (Q : ByteArray) (n : Nat) (X : Option (List Nat)) (O : Option OpD) : Nat ⊕ (List OpD × List Nat × ByteArray × Nat) :=
  match X with
  | some l => if 64 < l.length then .inl (n + 1) else .inr (ops, l, Q, n + 1)
  | none => match O with
    | none => .inl (n + 1)
    | some o => if 400 ≤ ops.length then .inl (n + 1) else linesR f (ops ++ [o]) Q (n + 1)
theorem linesR_thr (f : Nat) (ops : List OpD) (s : ByteArray) (n : Nat) : linesR (f + 1) ops s n = if cutI s = false then .inl (n + 1) else thrR f ops (cutR s) n (fieldsR (cutA s) giveB) (opR (cutA s)) := by
  rw [linesR]
  split
  · rfl
  · cases fieldsR (cutA s) giveB with
    | some l => rfl
    | none => cases opR (cutA s) <;> rfl
/-- The words tried one by one: the line's is not met yet; or it was met, and what op answered is laid behind the others. -/
def TgSt (w W3 : World) (g : Nat) (hd : ByteArray) (tl : List ByteArray) (a0 a1 a2 a3 : Nat) (BA : Option Addr) (bc : Nat) (bs : List Nat) (os : List OpE) (OA : Option Addr) (oc : Nat) (fv tv : Value) (wr : World) : Prop :=
  ∃ k : Nat, 1 ≤ k ∧ k ≤ 12 ∧ tv = .int .i64 (k : Int) ∧ wr.cell? ⟨g, 0, none⟩ = some (.string hd) ∧
    ((fv = .bool false ∧ (∀ j : Nat, 1 ≤ j → j < k → wordB (j : Int) ≠ hd) ∧ Below W3.heap.size W3 wr) ∨
     (∃ t : Nat, 1 ≤ t ∧ t < k ∧ wordB (t : Int) = hd ∧
       ((opT (t : Int) tl = none ∧ fv = .bool false ∧ ∃ pc, RpSt w wr pc) ∨
        (∃ (E : OpE) (OA' : Option Addr) (oc' : Nat), opT (t : Int) tl = some E.d ∧ fv = .bool true ∧ RlSt w wr a0 a1 a2 a3 BA bc bs (os ++ [E]) OA' oc' (.slice none 0 0)))))
theorem tagOf_give : tagOf giveB = none := tagOf_miss fun j h1 h2 => wordB_give (t := (j : Int)) ⟨by omega, by omega⟩
set_option maxHeartbeats 8000000 in
/-- ref.Parse -/
theorem rparse_any (HOP : RopSpec) (s : ByteArray) (w : World) (he : Env w) (hs : s.size ≤ 50000000) :
    Calls Tryd.prog 14 #[.string s] w fun e w' => PaOut (parseR s) w e w' := by
  have hcl : Tryd.prog.cellsOf 9 = 1 := by kernel_rfl
  have hcf : Tryd.prog.cellsOf 24 = 4 := by kernel_rfl
  obtain ⟨R, hR⟩ : ∃ x, x = parseR s := ⟨_, rfl⟩
  rw [← hR]
  have HE := Lib.hid he
  have hlt := Lib.hid he.lt
  have P0 := RpSt.new w
  have hz0 : (w.alloc (.cells plZ 28)).heap.size = w.heap.size + 1 := by simp
  unfold plZ at P0 hz0
  have hst : PwRel w R (.string s) (.int .i64 1) ((w.alloc (.cells #[.int .u64 0, .int .u64 0, .int .u64 0, .int .u64 0, .slice none 0 0, .slice none 0 0, .slice none 0 0] 28)).alloc (.cells #[.int .u64 0, .int .u64 0, .int .u64 0, .int .u64 0, .slice none 0 0, .slice none 0 0, .slice none 0 0] 28)) :=
    ⟨s, 1, rfl, rfl, hs, .inl ⟨rfl, P0, hR⟩⟩
  have Hst := Lib.hid hst
  have D1 := Lib.hid rcut10
  have H := Lib.hid HOP
  have D2 := Lib.hid rwords_any
  have D3 := Lib.hid rlist_any
  clear he hR hs hst P0 HOP
  go_enter Tryd.func14, Tryd.ntmps14
  go_upto_region 1 with fail
  go_upto_region 2 with fail
  generalize ((w.alloc (.cells #[.int .u64 0, .int .u64 0, .int .u64 0, .int .u64 0, .slice none 0 0, .slice none 0 0, .slice none 0 0] 28)).alloc (.cells #[.int .u64 0, .int .u64 0, .int .u64 0, .int .u64 0, .slice none 0 0, .slice none 0 0, .slice none 0 0] 28)) = W0 at *
  go_wp2_with fail
  go_loopw [0, 6] (PwRel w R) (fun _ nv _ => 405 - (intOf nv).toNat)
  case atStart => exact Hst.out
  case round =>
    clear Hst
    obtain ⟨sr, no, rfl, rfl, hsr, hS⟩ := hrel
    have HS := Lib.hid hS
    have HLW := Lib.hid hS.lt
    obtain ⟨hno1, hno⟩ := hS.le
    have hnI : (no : Int) ≤ 404 := by omega
    have DA := Lib.hid (D1.out sr wr (by omega))
    have hlA : (cutA sr).size ≤ 50000000 := Nat.le_trans (cutA_le sr) hsr
    have hlR : (cutR sr).size ≤ 50000000 := Nat.le_trans (cutR_le sr) hsr
    obtain ⟨L, hL⟩ : ∃ x, x = cutA sr := ⟨_, rfl⟩
    obtain ⟨Q, hQ⟩ : ∃ x, x = cutR sr := ⟨_, rfl⟩
    obtain ⟨I, hI⟩ : ∃ x, x = cutI sr := ⟨_, rfl⟩
    rw [← hL, ← hQ, ← hI] at DA
    rw [← hL] at hlA
    rw [← hQ] at hlR
    have HCUT := Lib.hid (And.intro hL (And.intro hQ hI))
    obtain ⟨hd, tl, hw⟩ := words_cons L
    have hfl : ∀ word, fieldsR L word = if hd = word then numsB tl else none := fun word => fieldsR_cons hw
    have hop : opR L = match tagOf hd with
        | none => none
        | some t => opT t tl := by rw [opR_T, hw]; rfl
    have HFL := Lib.hid hfl
    have HOP := Lib.hid hop
    have DB := D2.out L
    rw [hw] at DB
    obtain ⟨M, hM⟩ : ∃ x, tl.length = x := ⟨_, rfl⟩
    have hMl : (hd :: tl).length = M + 1 := by rw [List.length_cons, hM]
    rw [hMl] at DB
    have DB2 := Lib.hid (fun W => DB W hlA)
    have htm : ∀ x ∈ tl, x.size ≤ 50000000 := fun x hx => Nat.le_trans (wordsB_mem (line := L) (by rw [hw]; exact List.mem_cons_of_mem _ hx)) hlA
    have HTM := Lib.hid htm
    have hM6 : M ≤ 60000000 := by
      have h1 := wordsB_le L
      rw [hw, hMl] at h1
      omega
    have HMM := Lib.hid hM
    clear hS hL hQ hI hsr hfl hop DB hw htm hM hMl hlA D1 D2
    go_wp2_with fail
    refine (DA.out).mono ?_
    rintro e w1 ⟨rfl, b1⟩
    go_wp2_with fail
    refine (DB2.out w1).mono ?_
    rintro e w2 ⟨g, c, rfl, hg, hStr, b2⟩
    obtain ⟨o', hsl, ho'⟩ := slice_low g 0 (M + 1) c 1 (by omega) hStr.lim
    have hsl1 : ∀ W : World, (Instr.slice 43 (.slice (some ⟨g, 0, none⟩) (M + 1) c) (some (.int .i64 1)) none none).run Tryd.prog W = .ok (.slice (some ⟨g, o', none⟩) M (c - 1)) W := hsl
    have hT : StrS w2 g o' M (c - 1) tl := hStr.drop (by omega) ho'
    have DC := Lib.hid (D3.out g o' M (c - 1) tl w2 hT hM6 HTM.out)
    have HT2 := Lib.hid hT
    have HST := Lib.hid hStr
    have HGW := Lib.hid (Nat.le_trans b1.size hg)
    have be := b1.trans (b2.mono b1.size)
    have HBE := Lib.hid be
    have HSL1 := Lib.hid hsl1
    have hM0 : (1 : Int) ≤ ((M + 1 : Nat) : Int) := by omega
    clear hsl hT hStr ho' hg b1 b2 be D3 DA DB2
    go_wp2_with fail
    refine (DC.out).mono ?_
    rintro e w3 ⟨A, m, cl, rfl, hfr, b3⟩
    have HFR := Lib.hid hfr
    have HB13 := Lib.hid (HBE.out.trans (b3.mono HBE.out.size))
    have hcd : w3.cell? ⟨g, 0, none⟩ = some (.string hd) := (b3.cell (p := ⟨g, 0, none⟩) HST.out.lt).trans (HST.out.cell 0 hd rfl)
    have HB3 := Lib.hid b3
    obtain ⟨X, hX⟩ : ∃ x, x = numsB tl := ⟨_, rfl⟩
    rw [← hX] at HFL HFR
    rw [← hX]
    have HX := Lib.hid hX
    clear hfr b3 hX DC hsl1 hM0
    go_upto_region 9 with fail
    rcases HS.out with ⟨rfl, P0, hR⟩ | ⟨rfl, tau, a0, a1, a2, a3, hfl, ht4, P0, hR⟩ | ⟨tau, a0, a1, a2, a3, BA, bc, bs, os, OA, oc, hfl, ht4, RL0, hnos, hos, hR⟩
    · have P := P0.bel HB13.out
      clear P0
      rw [parseR_one, ← HCUT.out.1, ← HCUT.out.2.1, ← HCUT.out.2.2, HFL.out] at hR
      have hbe := beq_tau hd
      have HR := Lib.hid hR
      clear hR
      cases I with
      | false =>
        have HRX := Lib.hid (show R = .inl 1 by rw [HR.out]; rfl)
        go_wp2_with (refine wpList_store_row rfl 28 (.tmp 2) (.tmp 74) rfl w.heap.size plZ rfl rfl 28 _ P.z (by kernel_rfl) (by kernel_rfl) (by kernel_rfl) ?_)
        rw [setRow_self _ _ _ _ _ P.z]
        exact bodyPost_ret (results_plZ rfl _ rfl P.z) rfl (PaOut.no P.b HRX.out rfl)
      | true =>
        cases hst : decide (hd = tauB) with
        | false =>
          rw [hst] at hbe
          have HRX := Lib.hid (show R = .inl 1 by rw [HR.out, if_neg (by decide), if_neg (of_decide_eq_false hst)]; rfl)
          clear hst
          go_wp2_with (refine wpList_store_row rfl 28 (.tmp 2) (.tmp 74) rfl w.heap.size plZ rfl rfl 28 _ P.z (by kernel_rfl) (by kernel_rfl) (by kernel_rfl) ?_)
          rw [setRow_self _ _ _ _ _ P.z]
          exact bodyPost_ret (results_plZ rfl _ rfl P.z) rfl (PaOut.no P.b HRX.out rfl)
        | true =>
          rw [hst] at hbe
          have HR2 := Lib.hid (show R = oneR Q X by rw [HR.out, if_neg (by decide), if_pos (of_decide_eq_true hst)])
          clear hst
          cases X with
          | none =>
            have HRX := Lib.hid (show R = .inl 1 by rw [HR2.out]; rfl)
            go_wp2_with (refine wpList_store_row rfl 28 (.tmp 2) (.tmp 74) rfl w.heap.size plZ rfl rfl 28 _ P.z (by kernel_rfl) (by kernel_rfl) (by kernel_rfl) ?_)
            rw [setRow_self _ _ _ _ _ P.z]
            exact bodyPost_ret (results_plZ rfl _ rfl P.z) rfl (PaOut.no P.b HRX.out rfl)
          | some xs =>
            have hlen := (HFR.out xs rfl).out.len
            by_cases h1 : m = 1
            case neg =>
              have hq1 : ((m : Int) == 1) = false := beq_eq_false_iff_ne.2 (by omega)
              have hRx : R = .inl 1 := by
                rw [HR2.out]
                match xs, hlen with
                | [], _ => rfl
                | [a], h => exact absurd h.symm h1
                | a :: b :: r, _ => rfl
              have HRX := Lib.hid hRx
              clear hRx hlen h1
              go_wp2_with (refine wpList_store_row rfl 28 (.tmp 2) (.tmp 74) rfl w.heap.size plZ rfl rfl 28 _ P.z (by kernel_rfl) (by kernel_rfl) (by kernel_rfl) ?_)
              rw [setRow_self _ _ _ _ _ P.z]
              exact bodyPost_ret (results_plZ rfl _ rfl P.z) rfl (PaOut.no P.b HRX.out rfl)
            case pos =>
              subst h1
              obtain ⟨tau, rfl⟩ := List.length_eq_one_iff.1 hlen
              have HR3 := Lib.hid (show R = blindR tau Q from HR2.out)
              obtain ⟨b, off, rfl, hbl, hrow⟩ := (HFR.out [tau] rfl).out.at (i := 0) (by simp)
              have ht4 := (HFR.out [tau] rfl).out.ok tau (List.mem_singleton.2 rfl)
              have HT4 := Lib.hid ht4
              obtain ⟨a0, a1, a2, a3, hfl⟩ := fl4 tau
              have hfc : frC tau = [.int .u64 (a0 : Nat), .int .u64 (a1 : Nat), .int .u64 (a2 : Nat), .int .u64 (a3 : Nat)] := by unfold frC; rw [hfl]; rfl
              have hr0 : w3.rangeAt b off [.int .u64 (a0 : Nat), .int .u64 (a1 : Nat), .int .u64 (a2 : Nat), .int .u64 (a3 : Nat)] := by rw [← hfc]; simpa using hrow
              have HTF := Lib.hid hfl
              obtain ⟨f0, f1, f2, f3, f4, f5, f6⟩ := plC_f P.p
              obtain ⟨x0, x1, x2, x3, x4, x5, x6⟩ := plC_c (t0 := 0) (t1 := 0) (t2 := 0) (t3 := 0) (B := .slice none 0 0) (O := .slice none 0 0) (I := .slice none 0 0) P.p
              have P3 : RpSt w ((((w3.setCell ⟨w.heap.size + 1, 0, none⟩ (.int .u64 (a0 : Nat))).setCell ⟨w.heap.size + 1, 1, none⟩ (.int .u64 (a1 : Nat))).setCell ⟨w.heap.size + 1, 2, none⟩ (.int .u64 (a2 : Nat))).setCell ⟨w.heap.size + 1, 3, none⟩ (.int .u64 (a3 : Nat))) (plC a0 a1 a2 a3 (.slice none 0 0) (.slice none 0 0) (.slice none 0 0)) := (((P.set 0 (.int .u64 (a0 : Nat))).set 1 (.int .u64 (a1 : Nat))).set 2 (.int .u64 (a2 : Nat))).set 3 (.int .u64 (a3 : Nat))
              have HP3 := Lib.hid P3
              clear hrow hfc hfl ht4 P3 P hlen
              go_wp2_with (refine wpList_load_mid rfl 24 (.tmp 80) rfl b off rfl [.int .u64 (a0 : Nat), .int .u64 (a1 : Nat), .int .u64 (a2 : Nat), .int .u64 (a3 : Nat)] _ hr0 Tryd.underlying24 rfl (by kernel_rfl) ?_)
              exact ⟨⟨Q, 2, rfl, rfl, hlR, .inr (.inl ⟨rfl, tau, a0, a1, a2, a3, HTF.out, HT4.out, HP3.out, HR3.out⟩)⟩, by show 405 - 2 < 405 - 1; decide⟩
    · have P := P0.bel HB13.out
      clear P0
      rw [blindR_two, ← HCUT.out.1, ← HCUT.out.2.1, ← HCUT.out.2.2, HFL.out] at hR
      have hbe := beq_blind hd
      have HR := Lib.hid hR
      have HTF := Lib.hid hfl
      have HT4 := Lib.hid ht4
      clear hR hfl ht4
      cases I with
      | false =>
        have HRX := Lib.hid (show R = .inl 2 by rw [HR.out]; rfl)
        go_wp2_with (refine wpList_store_row rfl 28 (.tmp 2) (.tmp 74) rfl w.heap.size plZ rfl rfl 28 _ P.z (by kernel_rfl) (by kernel_rfl) (by kernel_rfl) ?_)
        rw [setRow_self _ _ _ _ _ P.z]
        exact bodyPost_ret (results_plZ rfl _ rfl P.z) rfl (PaOut.no P.b HRX.out rfl)
      | true =>
        cases hst : decide (hd = blindB) with
        | false =>
          rw [hst] at hbe
          have HRX := Lib.hid (show R = .inl 2 by rw [HR.out, if_neg (by decide), if_neg (of_decide_eq_false hst)]; rfl)
          clear hst
          go_wp2_with (refine wpList_store_row rfl 28 (.tmp 2) (.tmp 74) rfl w.heap.size plZ rfl rfl 28 _ P.z (by kernel_rfl) (by kernel_rfl) (by kernel_rfl) ?_)
          rw [setRow_self _ _ _ _ _ P.z]
          exact bodyPost_ret (results_plZ rfl _ rfl P.z) rfl (PaOut.no P.b HRX.out rfl)
        | true =>
          rw [hst] at hbe
          have HR2 := Lib.hid (show R = twoR tau Q X by rw [HR.out, if_neg (by decide), if_pos (of_decide_eq_true hst)])
          clear hst
          cases X with
          | none =>
            have HRX := Lib.hid (show R = .inl 2 by rw [HR2.out]; rfl)
            go_wp2_with (refine wpList_store_row rfl 28 (.tmp 2) (.tmp 74) rfl w.heap.size plZ rfl rfl 28 _ P.z (by kernel_rfl) (by kernel_rfl) (by kernel_rfl) ?_)
            rw [setRow_self _ _ _ _ _ P.z]
            exact bodyPost_ret (results_plZ rfl _ rfl P.z) rfl (PaOut.no P.b HRX.out rfl)
          | some bs =>
            have hlen := (HFR.out bs rfl).out.len
            by_cases h1 : m = 11
            case neg =>
              have hq1 : ((m : Int) == 11) = false := beq_eq_false_iff_ne.2 (by omega)
              have hRx : R = .inl 2 := by
                rw [HR2.out]
                show (if bs.length = 11 then _ else _) = _
                rw [if_neg (by omega)]
              have HRX := Lib.hid hRx
              clear hRx hlen h1
              go_wp2_with (refine wpList_store_row rfl 28 (.tmp 2) (.tmp 74) rfl w.heap.size plZ rfl rfl 28 _ P.z (by kernel_rfl) (by kernel_rfl) (by kernel_rfl) ?_)
              rw [setRow_self _ _ _ _ _ P.z]
              exact bodyPost_ret (results_plZ rfl _ rfl P.z) rfl (PaOut.no P.b HRX.out rfl)
            case pos =>
              have hq1 : ((m : Int) == 11) = true := by simp [h1]
              have HR3 := Lib.hid (show R = finR tau bs (linesR 401 [] Q 2) by
                rw [HR2.out]
                show (if bs.length = 11 then _ else _) = _
                rw [if_pos (by omega)])
              obtain ⟨f0, f1, f2, f3, f4, f5, f6⟩ := plC_f P.p
              obtain ⟨x0, x1, x2, x3, x4, x5, x6⟩ := plC_c P.p
              have P3 : RpSt w (w3.setCell ⟨w.heap.size + 1, 4, none⟩ (.slice A m cl)) (plC a0 a1 a2 a3 (.slice A m cl) (.slice none 0 0) (.slice none 0 0)) := P.set 4 (.slice A m cl)
              have hw2 : w.heap.size + 1 < w2.heap.size := Nat.lt_of_lt_of_le HLW.out HBE.out.size
              have hL : RlSt w (w3.setCell ⟨w.heap.size + 1, 4, none⟩ (.slice A m cl)) a0 a1 a2 a3 A cl bs [] none 0 (.slice none 0 0) := by
                refine ⟨by rw [hlen]; exact P3, ⟨w2.heap.size, w3.heap.size, hw2, ?_, fun g hg => (by cases hg)⟩, World.ownsRow_nil _ _ _ _, fun e he => (by cases he)⟩
                have hw : Win w2.heap.size w3.heap.size w3 (fun W => FrS W A bs.length cl bs) := ⟨Nat.le_refl _, by rw [hlen]; exact HFR.out bs rfl⟩
                exact hw.step (by rw [World.size_setCell]; exact Nat.le_refl _) (fun j h1 h2 => Below.heap_setCell _ ⟨w.heap.size + 1, 4, none⟩ _ j (by show j ≠ w.heap.size + 1; omega))
              have HL := Lib.hid hL
              clear P3 P hlen hL h1 hw2
              go_wp2_with fail
              exact ⟨⟨Q, 3, rfl, rfl, hlR, .inr (.inr ⟨tau, a0, a1, a2, a3, A, cl, bs, [], none, 0, HTF.out, HT4.out, HL.out, rfl, Nat.zero_le _, HR3.out⟩)⟩, by show 405 - 3 < 405 - 2; decide⟩
    · have RL := RL0.bel HB13.out
      have HGO := Lib.hid (fun j hj => Nat.lt_of_lt_of_le (RL0.row.lt j hj).2 HGW.out)
      clear RL0
      rw [show 401 - os.length = (400 - os.length) + 1 by omega, linesR_thr, ← HCUT.out.1, ← HCUT.out.2.1, ← HCUT.out.2.2, HFL.out] at hR
      have hbe := beq_give hd
      have HR := Lib.hid hR
      have HTF := Lib.hid hfl
      have HT4 := Lib.hid ht4
      have HNO := Lib.hid hnos
      have HOS := Lib.hid hos
      have hq1 : ((no : Int) == 1) = false := beq_eq_false_iff_ne.2 (by omega)
      have hq2 : ((no : Int) == 2) = false := beq_eq_false_iff_ne.2 (by omega)
      clear hR hfl ht4 hnos hos
      cases I with
      | false =>
        have HRX := Lib.hid (show R = .inl no by rw [HR.out, HNO.out]; rfl)
        go_wp2_with (refine wpList_store_row rfl 28 (.tmp 2) (.tmp 74) rfl w.heap.size plZ rfl rfl 28 _ RL.P.z (by kernel_rfl) (by kernel_rfl) (by kernel_rfl) ?_)
        rw [setRow_self _ _ _ _ _ RL.P.z]
        exact bodyPost_ret (results_plZ rfl _ rfl RL.P.z) rfl (PaOut.no RL.P.b HRX.out rfl)
      | true =>
        cases hst : decide (hd = giveB) with
        | true =>
          rw [hst] at hbe
          have heq := of_decide_eq_true hst
          have hon : opR L = none := by rw [HOP.out, heq, tagOf_give]
          have HR2 := Lib.hid (show R = finR tau bs (thrR (400 - os.length) (os.map (·.d)) Q (os.length + 2) X none) by rw [HR.out, if_neg (by decide), if_pos heq, hon])
          clear hst hon heq
          cases X with
          | none =>
            have HRX := Lib.hid (show R = .inl no by rw [HR2.out, HNO.out]; rfl)
            go_wp2_with (refine wpList_store_row rfl 28 (.tmp 2) (.tmp 98) rfl w.heap.size plZ rfl rfl 28 _ RL.P.z (by kernel_rfl) (by kernel_rfl) (by kernel_rfl) ?_)
            rw [setRow_self _ _ _ _ _ RL.P.z]
            exact bodyPost_ret (results_plZ rfl _ rfl RL.P.z) rfl (PaOut.no RL.P.b HRX.out rfl)
          | some l =>
            have hlen := (HFR.out l rfl).out.len
            subst hlen
            by_cases h64 : (64 : Int) < ((l.length : Nat) : Int)
            case pos =>
              have hRx : R = .inl no := by
                rw [HR2.out, HNO.out]
                show finR tau bs (if 64 < l.length then _ else _) = _
                rw [if_pos (by omega)]
                rfl
              have HRX := Lib.hid hRx
              clear hRx
              go_wp2_with (refine wpList_store_row rfl 28 (.tmp 2) (.tmp 98) rfl w.heap.size plZ rfl rfl 28 _ RL.P.z (by kernel_rfl) (by kernel_rfl) (by kernel_rfl) ?_)
              rw [setRow_self _ _ _ _ _ RL.P.z]
              exact bodyPost_ret (results_plZ rfl _ rfl RL.P.z) rfl (PaOut.no RL.P.b HRX.out rfl)
            case neg =>
              have hRx : R = if Q = ⟨#[]⟩ then .inr ⟨tau, bs, os.map (·.d), l⟩ else .inl (no + 1) := by
                rw [HR2.out, HNO.out]
                show finR tau bs (if 64 < l.length then _ else _) = _
                rw [if_neg (by omega)]
                rfl
              have HRX := Lib.hid hRx
              have f6 : w3.frozen? ⟨w.heap.size + 1, 6, none⟩ = false := RL.P.p.frozen 6
              have y6 : w3.cell? ⟨w.heap.size + 1, 6, none⟩ = some (.slice none 0 0) := (plC_c RL.P.p).2.2.2.2.2.2
              clear hRx
              go_upto_region 23 with fail
              go_upto_region 24 with fail
              have hLg := RL.kq (I' := .slice A l.length cl) (RL.P.set 6 (.slice A l.length cl)) (Kq.set w w3 6 _)
              have kg := Kq.set w w3 6 (.slice A l.length cl)
              generalize w3.setCell ⟨w.heap.size + 1, 6, none⟩ (.slice A l.length cl) = w12 at *
              have HLG := Lib.hid hLg
              have HKG := Lib.hid kg
              clear hLg kg f6 y6
              by_cases hs : Q = ⟨#[]⟩
              case neg =>
                have hne : Q.toList ≠ [] := fun h => hs (by
                  rw [ByteArray.toList_eq] at h
                  exact ba_ext h)
                have hem : Q.toList.isEmpty = false := by simpa using hne
                have hbe0 : (Q.toList == []) = false := beq_eq_false_iff_ne.2 hne
                have hR5 : R = .inl (no + 1) := by rw [HRX.out, if_neg hs]
                have HR5 := Lib.hid hR5
                have PG := HLG.out.P
                have hno4 : (no : Int) ≤ 403 := by omega
                clear hR5 hs
                go_wp2_with (refine wpList_store_row rfl 28 (.tmp 2) (.tmp 104) rfl w.heap.size plZ rfl rfl 28 _ PG.z (by kernel_rfl) (by kernel_rfl) (by kernel_rfl) ?_)
                rw [setRow_self _ _ _ _ _ PG.z]
                exact bodyPost_ret (results_plZ rfl _ rfl PG.z) rfl (PaOut.no PG.b HR5.out rfl)
              case pos =>
                subst hs
                have hR5 : R = .inr ⟨tau, bs, os.map (·.d), l⟩ := by rw [HRX.out, if_pos rfl]
                have HR5 := Lib.hid hR5
                clear hR5
                have P12 := HLG.out.P
                go_wp2_with (first
                  | refine wpList_load_row rfl 28 (.tmp 5) rfl (w.heap.size + 1) rfl 28 _ (0, 0) _ P12.p Tryd.underlying28 rfl (by kernel_rfl) ?_
                  | refine wpList_store_row rfl 28 (.tmp 2) (.tmp 107) rfl w.heap.size (plC a0 a1 a2 a3 (.slice BA bs.length bc) (.slice OA os.length oc) (.slice A l.length cl)) rfl rfl 28 _ P12.z (by kernel_rfl) (by kernel_rfl) (by kernel_rfl) ?_)
                have hpv : plV ⟨tau, BA, bc, bs, OA, oc, os, A, cl, l⟩ = plC a0 a1 a2 a3 (.slice BA bs.length bc) (.slice OA os.length oc) (.slice A l.length cl) := by
                  unfold plV
                  dsimp only
                  rw [HTF.out]
                  rfl
                have hbk : Bk (w12.setRow w.heap.size (plC a0 a1 a2 a3 (.slice BA bs.length bc) (.slice OA os.length oc) (.slice A l.length cl))) w.heap.size 28 (plC a0 a1 a2 a3 (.slice BA bs.length bc) (.slice OA os.length oc) (.slice A l.length cl)) :=
                  setRow_heap _ _ _ _ _ _ P12.z
                have k13 : Kq w w12 (w12.setRow w.heap.size (plC a0 a1 a2 a3 (.slice BA bs.length bc) (.slice OA os.length oc) (.slice A l.length cl))) :=
                  ⟨by rw [setRow_size]; exact Nat.le_refl _, fun j h1 h2 => setRow_other _ _ _ _ (by omega)⟩
                have b13 := below_setRow P12.b (Nat.le_refl w.heap.size) (plC a0 a1 a2 a3 (.slice BA bs.length bc) (.slice OA os.length oc) (.slice A l.length cl))
                have hfin := HLG.out.fin k13
                have hinp : Win w2.heap.size w3.heap.size w3 (fun W => FrS W A l.length cl l) := ⟨Nat.le_refl _, HFR.out l rfl⟩
                have hki := HKG.out.trans k13
                have hin2 := (hinp.step hki.1 (fun j h1 h2 => hki.2 j (by have := HLW.out; have := HBE.out.size; omega) h2)).out
                generalize w12.setRow w.heap.size (plC a0 a1 a2 a3 (.slice BA bs.length bc) (.slice OA os.length oc) (.slice A l.length cl)) = w13 at *
                refine bodyPost_ret (results_pl rfl _ rfl hbk) rfl ⟨b13, ?_⟩
                rw [HR5.out]
                refine ⟨⟨tau, BA, bc, bs, OA, oc, os, A, cl, l⟩, rfl, ⟨HT4.out, hfin.b, hfin.o, hin2⟩, ?_⟩
                rw [hpv]
                rfl
        | false =>
          rw [hst] at hbe
          have hneq := of_decide_eq_false hst
          have HR2 := Lib.hid (show R = finR tau bs (thrR (400 - os.length) (os.map (·.d)) Q (os.length + 2) none (opR L)) by rw [HR.out, if_neg (by decide), if_neg hneq])
          have hT3 := HT2.out.bel HB3.out
          have hst0 : TgSt w w3 g hd tl a0 a1 a2 a3 BA bc bs os OA oc (.bool false) (.int .i64 1) w3 :=
            ⟨1, by decide, by decide, rfl, hcd, .inl ⟨rfl, fun j h1 h2 => (by omega), Below.refl _ _⟩⟩
          have Hst0 := Lib.hid hst0
          have HRL := Lib.hid RL
          have HT3 := Lib.hid hT3
          clear hst hneq HR hst0 hT3
          go_wp2_with fail
          go_loopw [14, 15] (TgSt w w3 g hd tl a0 a1 a2 a3 BA bc bs os OA oc) (fun _ tv _ => 12 - (intOf tv).toNat)
          case atStart => exact Hst0.out
          case round =>
            clear Hst0
            obtain ⟨k, hk1, hk12, rfl, hcr, hrel⟩ := hrel
            have HREL := Lib.hid hrel
            clear hrel
            by_cases hk : k = 12
            · subst hk
              rcases HREL.out with ⟨rfl, hne, hb⟩ | ⟨t, ht1, ht2, hwt, ⟨hO, rfl, pc, PP⟩ | ⟨E, OA', oc', hO, rfl, RL'⟩⟩
              · have hon : opR L = none := by rw [HOP.out, tagOf_miss hne]
                have HRX := Lib.hid (show R = .inl no by rw [HR2.out, hon, HNO.out]; rfl)
                have PG := (HRL.out.bel hb).P
                clear hon hne hb RL HREL HRL
                go_wp2_with (refine wpList_store_row rfl 28 (.tmp 2) (.tmp 140) rfl w.heap.size plZ rfl rfl 28 _ PG.z (by kernel_rfl) (by kernel_rfl) (by kernel_rfl) ?_)
                rw [setRow_self _ _ _ _ _ PG.z]
                exact bodyPost_ret (results_plZ rfl _ rfl PG.z) rfl (PaOut.no PG.b HRX.out rfl)
              · have hon : opR L = none := by rw [HOP.out, ← hwt, tagOf_word ⟨by omega, by omega⟩]; exact hO
                have HRX := Lib.hid (show R = .inl no by rw [HR2.out, hon, HNO.out]; rfl)
                clear hon hO hwt RL HREL HRL
                go_wp2_with (refine wpList_store_row rfl 28 (.tmp 2) (.tmp 140) rfl w.heap.size plZ rfl rfl 28 _ PP.z (by kernel_rfl) (by kernel_rfl) (by kernel_rfl) ?_)
                rw [setRow_self _ _ _ _ _ PP.z]
                exact bodyPost_ret (results_plZ rfl _ rfl PP.z) rfl (PaOut.no PP.b HRX.out rfl)
              · have hon : opR L = some E.d := by rw [HOP.out, ← hwt, tagOf_word ⟨by omega, by omega⟩]; exact hO
                have hlo : (os ++ [E]).length = os.length + 1 := by simp
                have y5 : wr.cell? ⟨w.heap.size + 1, 5, none⟩ = some (.slice OA' (os ++ [E]).length oc') := (plC_c RL'.P.p).2.2.2.2.2.1
                rw [hlo] at y5
                by_cases h400 : 400 ≤ os.length
                · have hq4 : (400 : Int) < ((os.length + 1 : Nat) : Int) := by omega
                  have HRX := Lib.hid (show R = .inl no by
                    rw [HR2.out, hon, HNO.out]
                    show finR tau bs (if 400 ≤ (os.map (·.d)).length then _ else _) = _
                    rw [if_pos (by rw [List.length_map]; exact h400)]
                    rfl)
                  have PG := RL'.P
                  clear hon hO hwt RL HREL HRL RL' h400 hlo
                  go_wp2_with (refine wpList_store_row rfl 28 (.tmp 2) (.tmp 140) rfl w.heap.size plZ rfl rfl 28 _ PG.z (by kernel_rfl) (by kernel_rfl) (by kernel_rfl) ?_)
                  rw [setRow_self _ _ _ _ _ PG.z]
                  exact bodyPost_ret (results_plZ rfl _ rfl PG.z) rfl (PaOut.no PG.b HRX.out rfl)
                · have hq4 : ¬ (400 : Int) < ((os.length + 1 : Nat) : Int) := by omega
                  have HRX := Lib.hid (show R = finR tau bs (linesR (400 - os.length) (os.map (·.d) ++ [E.d]) Q (os.length + 3)) by
                    rw [HR2.out, hon]
                    show finR tau bs (if 400 ≤ (os.map (·.d)).length then _ else _) = _
                    rw [if_neg (by rw [List.length_map]; exact h400)])
                  have HRL' := Lib.hid RL'
                  have hno4 : (no : Int) ≤ 403 := by omega
                  have H400 := Lib.hid h400
                  have HLO := Lib.hid hlo
                  clear hon hO hwt RL HREL HRL RL' hlo h400
                  go_wp2_with fail
                  refine ⟨⟨Q, no + 1, rfl, int_eq (by omega), hlR, .inr (.inr ⟨tau, a0, a1, a2, a3, BA, bc, bs, os ++ [E], OA', oc', HTF.out, HT4.out, HRL'.out, by rw [HLO.out]; have := HNO.out; omega, by rw [HLO.out]; have := H400.out; omega, ?_⟩)⟩, by simp [intOf]; omega⟩
                  rw [HRX.out, HLO.out, List.map_append, show 401 - (os.length + 1) = 400 - os.length by omega]
                  rfl
            · have hk11 : (k : Int) ≤ 11 := by omega
              have DW := Lib.hid (fun W => rword_any (k : Int) W)
              have hse := str_beq (wordB (k : Int)) hd
              obtain ⟨wd, hwd⟩ : ∃ x, wordB (k : Int) = x := ⟨_, rfl⟩
              obtain ⟨q, hq⟩ : ∃ q, q = decide (wordB (k : Int) = hd) := ⟨_, rfl⟩
              rw [← hq] at hse
              rw [hwd] at hse DW
              have HWD := Lib.hid hwd
              have HQ := Lib.hid hq
              have HK := Lib.hid hk
              have hM0 : (0 : Int) < ((M + 1 : Nat) : Int) := by omega
              clear hwd hq hk
              cases q with
              | false =>
                go_wp2_with fail
                go_quiet ((go_at_call 43; exact Calls.quiet_of_same (DW.out _)))
                go_wp2_with fail
                have bq := below_drewN (Below.refl wr.heap.size wr) nq
                have hgl : g < wr.heap.size := World.block_lt_of_cell? _ _ hcr
                have hkk := HK.out
                refine ⟨⟨k + 1, by omega, by omega, int_eq (by omega), (bq.cell (p := ⟨g, 0, none⟩) hgl).trans hcr, ?_⟩, by simp [intOf]; omega⟩
                rcases HREL.out with ⟨h1, h2, h3⟩ | ⟨t, h1, h2, h3, ⟨h4, h5, pc, h6⟩ | ⟨E, OA', oc', h4, h5, h6⟩⟩
                · refine .inl ⟨h1, fun j hj1 hj2 => ?_, h3.trans (bq.mono h3.size)⟩
                  rcases Nat.lt_or_ge j k with hj | hj
                  · exact h2 j hj1 hj
                  · obtain rfl : j = k := by omega
                    exact of_decide_eq_false HQ.out.symm
                · exact .inr ⟨t, h1, by omega, h3, .inl ⟨h4, h5, pc, h6.bel bq⟩⟩
                · exact .inr ⟨t, h1, by omega, h3, .inr ⟨E, OA', oc', h4, h5, h6.bel bq⟩⟩
              | true =>
                have hwk : wordB (k : Int) = hd := of_decide_eq_true HQ.out.symm
                rcases HREL.out with ⟨rfl, hne, hb3⟩ | ⟨t, h1, h2, hw, _⟩
                case inr =>
                  exfalso
                  have hkk := HK.out
                  have := wordB_inj (t : Int) (mem_tags ⟨by omega, by omega⟩) (k : Int) (mem_tags ⟨by omega, by omega⟩) (hw.trans hwk.symm)
                  omega
                have HWK := Lib.hid hwk
                clear hwk hne
                go_wp2_with fail
                go_quiet ((go_at_call 43; exact Calls.quiet_of_same (DW.out _)))
                have bq := below_drewN (Below.refl wr.heap.size wr) nq
                have b4 := hb3.trans (bq.mono hb3.size)
                have hgl : g < wr.heap.size := World.block_lt_of_cell? _ _ hcr
                have c4 := (bq.cell (p := ⟨g, 0, none⟩) hgl).trans hcr
                have hgl4 : g < (wr.drewN nq).heap.size := Nat.lt_of_lt_of_le hgl bq.size
                generalize wr.drewN nq = W4 at *
                have RL4 := HRL.out.bel b4
                have T4 := HT3.out.bel b4
                have E4 := HE.out.below RL4.P.b hlt.out
                obtain ⟨O, hO⟩ : ∃ x, x = opT (k : Int) tl := ⟨_, rfl⟩
                have hkk := HK.out
                have DO := Lib.hid (H.out (k : Int) g o' M (c - 1) tl W4 ⟨by omega, by omega⟩ T4 E4 hM6 HTM.out)
                rw [← hO] at DO
                have HOO := Lib.hid hO
                have HRL4 := Lib.hid RL4
                have hsl1 := HSL1.out
                have hM1 : (1 : Int) ≤ ((M + 1 : Nat) : Int) := by omega
                clear hO RL4 T4 E4 bq b4 hb3 HREL hcr hgl RL hkk HRL HT3 HS HB13 HBE HFR DW
                go_wp2_with fail
                refine (DO.out).mono ?_
                rintro e w5 ⟨E, rfl, hEd, b5⟩
                have HED := Lib.hid hEd
                obtain ⟨EE, hEE⟩ : ∃ x, x = E := ⟨_, rfl⟩
                have HEE := Lib.hid hEE
                obtain ⟨⟨t, a, bb, c2, n, kk, ks, vs⟩, KA, kc, VA, vc⟩ := E
                obtain ⟨k0, hk0⟩ : ∃ x, x = nth (fl kk) 0 := ⟨_, rfl⟩
                obtain ⟨k1, hk1⟩ : ∃ x, x = nth (fl kk) 1 := ⟨_, rfl⟩
                obtain ⟨k2, hk2⟩ : ∃ x, x = nth (fl kk) 2 := ⟨_, rfl⟩
                obtain ⟨k3, hk3⟩ : ∃ x, x = nth (fl kk) 3 := ⟨_, rfl⟩
                have hEv : OpE.v ⟨⟨t, a, bb, c2, n, kk, ks, vs⟩, KA, kc, VA, vc⟩ = #[.int .i64 t, .int .i64 a, .int .i64 bb, .int .i64 c2, .int .i64 n, .int .u64 (k0 : Nat), .int .u64 (k1 : Nat), .int .u64 (k2 : Nat), .int .u64 (k3 : Nat), .slice KA ks.length kc, .slice VA vs.length vc] := by rw [hk0, hk1, hk2, hk3]; rfl
                rw [hEv]
                have hEv2 : EE.v = #[.int .i64 t, .int .i64 a, .int .i64 bb, .int .i64 c2, .int .i64 n, .int .u64 (k0 : Nat), .int .u64 (k1 : Nat), .int .u64 (k2 : Nat), .int .u64 (k3 : Nat), .slice KA ks.length kc, .slice VA vs.length vc] := by rw [hEE]; exact hEv
                have HEV := Lib.hid hEv2
                have bb5 : Below w5.heap.size w5 (w5.alloc (.cells #[.int .i64 t, .int .i64 a, .int .i64 bb, .int .i64 c2, .int .i64 n, .int .u64 (k0 : Nat), .int .u64 (k1 : Nat), .int .u64 (k2 : Nat), .int .u64 (k3 : Nat), .slice KA ks.length kc, .slice VA vs.length vc] 55)) := (Below.refl _ _).alloc (Nat.le_refl _) _
                have x10 := Bk.new w5 55 #[.int .i64 t, .int .i64 a, .int .i64 bb, .int .i64 c2, .int .i64 n, .int .u64 (k0 : Nat), .int .u64 (k1 : Nat), .int .u64 (k2 : Nat), .int .u64 (k3 : Nat), .slice KA ks.length kc, .slice VA vs.length vc]
                have RL5 := HRL4.out.bel b5
                have RL6 := RL5.bel bb5
                have c6 : (w5.alloc (.cells #[.int .i64 t, .int .i64 a, .int .i64 bb, .int .i64 c2, .int .i64 n, .int .u64 (k0 : Nat), .int .u64 (k1 : Nat), .int .u64 (k2 : Nat), .int .u64 (k3 : Nat), .slice KA ks.length kc, .slice VA vs.length vc] 55)).cell? ⟨g, 0, none⟩ = some (.string hd) := (bb5.cell (p := ⟨g, 0, none⟩) (Nat.lt_of_lt_of_le hgl4 b5.size)).trans ((b5.cell (p := ⟨g, 0, none⟩) hgl4).trans c4)
                have hg6 : g < (w5.alloc (.cells #[.int .i64 t, .int .i64 a, .int .i64 bb, .int .i64 c2, .int .i64 n, .int .u64 (k0 : Nat), .int .u64 (k1 : Nat), .int .u64 (k2 : Nat), .int .u64 (k3 : Nat), .slice KA ks.length kc, .slice VA vs.length vc] 55)).heap.size := Nat.lt_of_lt_of_le hgl4 (Nat.le_trans b5.size bb5.size)
                have HB5 := Lib.hid bb5
                have HOWN4 := Lib.hid (fun j hj => (HRL4.out.row.lt j hj).2)
                have HLT4 := Lib.hid HRL4.out.P.lt
                have HKB := Lib.hid (And.intro hk1 (And.intro hk2 hk3))
                clear hk0 hk1 hk2 hk3 hEv hEv2 hEd bb5 b5 RL5 hEE hgl4 c4 hsl1 hM1 DO
                go_upto_region 33 with (refine wpList_store_newC rfl 55 (.tmp 16) (.tmp 123) rfl #[.int .i64 t, .int .i64 a, .int .i64 bb, .int .i64 c2, .int .i64 n, .int .u64 (k0 : Nat), .int .u64 (k1 : Nat), .int .u64 (k2 : Nat), .int .u64 (k3 : Nat), .slice KA ks.length kc, .slice VA vs.length vc] w5.heap.size rfl rfl rfl 55 _ (by kernel_rfl) (by kernel_rfl) (by kernel_rfl) ?_)
                generalize w5.alloc (.cells #[.int .i64 t, .int .i64 a, .int .i64 bb, .int .i64 c2, .int .i64 n, .int .u64 (k0 : Nat), .int .u64 (k1 : Nat), .int .u64 (k2 : Nat), .int .u64 (k3 : Nat), .slice KA ks.length kc, .slice VA vs.length vc] 55) = w10 at *
                have y5 : w10.cell? ⟨w.heap.size + 1, 5, none⟩ = some (.slice OA os.length oc) := (plC_c RL6.P.p).2.2.2.2.2.1
                have hxo : ∀ u ∈ (#[.int .i64 t, .int .i64 a, .int .i64 bb, .int .i64 c2, .int .i64 n, .int .u64 (k0 : Nat), .int .u64 (k1 : Nat), .int .u64 (k2 : Nat), .int .u64 (k3 : Nat), .slice KA ks.length kc, .slice VA vs.length vc] : Array Value).toList, u.oneCell' = true := by simp [Value.oneCell']
                have hxs : (#[.int .i64 t, .int .i64 a, .int .i64 bb, .int .i64 c2, .int .i64 n, .int .u64 (k0 : Nat), .int .u64 (k1 : Nat), .int .u64 (k2 : Nat), .int .u64 (k3 : Nat), .slice KA ks.length kc, .slice VA vs.length vc] : Array Value).size = 11 := rfl
                have hol : os.length < 100000000 := by have := HOS.out; omega
                have HRL6 := Lib.hid RL6
                go_wp2_with (first
                  | refine wpList_load_row rfl 55 (.tmp 16) rfl w5.heap.size rfl 55 _ (0, 0) _ x10 Tryd.underlying55 rfl (by kernel_rfl) ?_
                  | (refine wpList_app_row rfl (.tmp 127) (.tmp 129) 26 55 rfl #[.int .i64 t, .int .i64 a, .int .i64 bb, .int .i64 c2, .int .i64 n, .int .u64 (k0 : Nat), .int .u64 (k1 : Nat), .int .u64 (k2 : Nat), .int .u64 (k3 : Nat), .slice KA ks.length kc, .slice VA vs.length vc] (by kernel_rfl) op_info rfl (by decide) hxs hxo hol (by decide) rfl rfl HRL6.out.row (by have := HRL6.out.P.lt; omega) ?_
                     intro g' cap' w11 hA
                     have y11 : w11.cell? ⟨w.heap.size + 1, 5, none⟩ = some (.slice OA os.length oc) := (plC_c (HRL6.out.appP hA).p).2.2.2.2.2.1
                     have f11 : w11.frozen? ⟨w.heap.size + 1, 5, none⟩ = false := (HRL6.out.appP hA).p.frozen 5))
                have hkk := HK.out
                have hA' : App1 (w.heap.size + 1 + 1) 55 11 w10 (.slice OA os.length oc) (os.length + 1) cap' g' (opCs os ++ EE.v.toList) w11 := by rw [HEV.out]; exact hA
                have hlw : w.heap.size + 1 < g := Nat.lt_of_lt_of_le HLW.out HGW.out
                have hc : (w11.setCell ⟨w.heap.size + 1, 5, none⟩ (.slice (some ⟨g', 0, none⟩) (os.length + 1) cap')).cell? ⟨g, 0, none⟩ = some (.string hd) :=
                  (World.cell?_of_block (a := ⟨g, 0, none⟩) ((Below.heap_setCell w11 ⟨w.heap.size + 1, 5, none⟩ _ g (by show g ≠ w.heap.size + 1; omega)).trans (hA.blk g hg6 (fun e => by have := HGO.out g e.symm; omega)))).trans c6
                refine ⟨⟨k + 1, by omega, by omega, int_eq (by omega), hc, .inr ⟨k, hk1, by omega, HWK.out, ?_⟩⟩, by simp [intOf]; omega⟩
                cases O with
                | none => exact .inl ⟨HOO.out.symm, rfl, _, (HRL6.out.appP hA).set 5 _⟩
                | some d =>
                  obtain ⟨h1, h2⟩ := HED.out d rfl
                  have hwin : Win (W4.heap.size + 1) w5.heap.size w5 (fun W => OpIn W EE) := ⟨Nat.le_refl _, by rw [HEE.out]; exact h2⟩
                  refine .inr ⟨EE, some ⟨g', 0, none⟩, cap', ?_, rfl, HRL6.out.app hA' (lo := W4.heap.size + 1) (hi := w5.heap.size) (by have := HLT4.out; omega) (hwin.step HB5.out.size (fun j _ h => HB5.out.block j h)) (fun j hj h => by have := HOWN4.out j hj; omega)⟩
                  rw [← HOO.out, HEE.out]
                  exact congrArg some h1.symm
end Go.Proofs.YtdilgmokiclfaaaDoor
