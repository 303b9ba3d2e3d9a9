import Derived.Test.YtoocoobgidoceaaOaI
namespace Go.Proofs.Ytoocoobgidoceaa
open Go.RowKit
set_option linter.unusedVariables false

abbrev Part3 := ByteArray × ByteArray × Bool
abbrev St3 := (List Nat × Int × Int) × List Nat
/-- A row of parts that lies in memory. -/
def Pl (w : World) (A : Option Addr) (ps : List Part3) : Prop :=
  0 < ps.length → ∃ b off, A = some ⟨b, off, none⟩ ∧ b < w.heap.size ∧ ∀ i (h : i < ps.length), w.cell? ⟨b, off + i * 3, none⟩ = some (.string (ps[i]).1) ∧ w.cell? ⟨b, off + i * 3 + 1, none⟩ = some (.string (ps[i]).2.1) ∧ w.cell? ⟨b, off + i * 3 + 2, none⟩ = some (.bool (ps[i]).2.2)
theorem Pl.bel {w w' : World} {A : Option Addr} {ps : List Part3} (h : Pl w A ps) (hb : Below w.heap.size w w') : Pl w' A ps := fun hp => by
  obtain ⟨b, off, rfl, hl, hc⟩ := h hp
  exact ⟨b, off, rfl, Nat.lt_of_lt_of_le hl hb.size, fun i hi => ⟨(hb.cell (p := ⟨b, off + i * 3, none⟩) hl).trans (hc i hi).1, (hb.cell (p := ⟨b, off + i * 3 + 1, none⟩) hl).trans (hc i hi).2.1, (hb.cell (p := ⟨b, off + i * 3 + 2, none⟩) hl).trans (hc i hi).2.2⟩⟩
def stepR (s : St3) (p : Part3) : St3 :=
  if p.2.2 then (((askR s.1.1 s.1.2.1 p.1).1, (askR s.1.1 s.1.2.1 p.1).2.1, (askR s.1.1 s.1.2.1 p.1).2.2.2), s.2 ++ [(askR s.1.1 s.1.2.1 p.1).2.2.1]) else (sayR s.1.1 s.1.2.1 p.1 (shortB p.2.1), s.2)
def runG : Nat → List Part3 → St3 → St3
  | 0, _, s => s
  | _ + 1, [], s => s
  | f + 1, p :: ps, s => if s.1.2.2 = 0 then runG f ps (stepR s p) else s
def runF (ps : List Part3) : St3 := runG 20 ps (sayR [] 0 ⟨#[114, 117, 110]⟩ ⟨#[]⟩, [])
theorem runG_nil (f : Nat) (s : St3) : runG f [] s = s := by cases f <;> rfl
theorem runG_err (f : Nat) (ps : List Part3) (s : St3) (h : s.1.2.2 ≠ 0) : runG f ps s = s := by
  cases f with
  | zero => rfl
  | succ f => cases ps with
    | nil => rfl
    | cons p ps => simp [runG, h]
theorem runG_step {f k : Nat} {ps : List Part3} {s : St3} (hk : k < ps.length) (h : s.1.2.2 = 0) : runG (f + 1) (ps.drop k) s = runG f (ps.drop (k + 1)) (stepR s ps[k]) := by
  rw [List.drop_eq_getElem_cons hk]
  simp [runG, h]
def cellsF (outs : List Nat) : List Value := outs.flatMap fun v => (lim .u64 (fl v)).toList
def RunPost (r : St3) (w : World) (e : Ending) (w' : World) : Prop :=
  ∃ A c v, e = .returned (.tuple #[.agg #[.slice A r.1.1.length c, .int .i64 r.1.2.1], v, .bool (r.1.2.2 == 0)]) ∧ r.1.1.length ≤ c ∧ c ≤ maxLen ∧ Sl w' .u8 A r.1.1 ∧ Byt r.1.1 ∧ w'.ownsRow w.heap.size 35 4 v r.2.length (cellsF r.2) ∧ Below w.heap.size w w'
def RunRel (ps : List Part3) (s g : Nat) (w : World) (i er v : Value) (wr : World) : Prop :=
  ∃ (k : Nat) (S : St3) (A : Option Addr) (c : Nat), k ≤ ps.length ∧ k ≤ 20 ∧ i = .int .i64 (k : Int) ∧ er = .int .i64 S.1.2.2 ∧ Box2 wr g (.slice A S.1.1.length c) (.int .i64 S.1.2.1) ∧ Box2 wr s (.slice none 0 0) (.int .i64 0) ∧ S.1.1.length ≤ c ∧ c ≤ maxLen ∧ Sl wr .u8 A S.1.1 ∧ Byt S.1.1 ∧ (∀ a, A = some a → s < a.block) ∧
    wr.ownsRow (g + 1) 35 4 v S.2.length (cellsF S.2) ∧ S.2.length ≤ k ∧ Below s w wr ∧ runG (20 - k) (ps.drop k) S = runF ps
theorem stepR_byt {s : St3} (h : Byt s.1.1) (p : Part3) : Byt (stepR s p).1.1 := by
  unfold stepR
  split
  · exact askR_byt _ _ _
  · exact sayR_byt h _ _ _

theorem ownsRow_bel {w w' : World} {base size n : Nat} {e : TypeId} {v : Value} {xs : List Value} (h : w.ownsRow base e size v n xs) (b : Below w.heap.size w w') : w'.ownsRow base e size v n xs :=
  h.kept (row := none) ⟨b.os, b.tape, b.output, b.size, fun k hk _ => b.block k hk⟩ (by cases hv : v.ownBlock with
    | none => exact .inl rfl
    | some g => exact .inr (by simp))
theorem results_run {W : World} {b : Nat} {v0 v1 : Value} {fn : Func} {p u v : Tmp} (hf : fn.results = #[.cell p 24, .tmp u, .tmp v]) (tmps : Array Value) (hp : tmps.getD p undef = .pointer (some ⟨b, 0, none⟩)) (h : Box2 W b v0 v1) :
    (results fn tmps).run Try.prog W = .ok (.tuple #[.agg #[v0, v1], tmps.getD u undef, tmps.getD v undef]) W := by
  have e : (results fn tmps).run Try.prog W = ((asAddr (tmps.getD p undef)).run Try.prog W).andThen fun a w₁ => ((loadVar 24 a).run Try.prog w₁).andThen fun x w₂ => .ok (.tuple #[x, tmps.getD u undef, tmps.getD v undef]) w₂ := by
    simp only [results, hf]
    simp [Sem.run_bind, Result.andThen]
  rw [e, hp]
  simp [asAddr, run_loadVar_row W b 24 _ #[v0, v1] (0, 0) _ h Try.underlying24 rfl (by kernel_rfl), Result.andThen]
theorem ownsRow_setCell_far {w : World} {base size n : Nat} {e : TypeId} {v : Value} {xs : List Value} (h : w.ownsRow base e size v n xs) {a : Addr} (ha : v.ownBlock ≠ some a.block) (u : Value) : (w.setCell a u).ownsRow base e size v n xs := by
  obtain ⟨h1, h2⟩ := h
  refine ⟨h1, ?_⟩
  rcases h2 with h2 | ⟨g, cap, cur, hv, hg, hh, r⟩
  · exact Or.inl h2
  · exact Or.inr ⟨g, cap, cur, hv, hg, by rw [Below.heap_setCell _ _ _ _ (by rintro rfl; subst hv; exact ha rfl)]; exact hh, r⟩
theorem Box2.grow {W W' : World} {b : Nat} {v0 v1 : Value} {row : Option Nat} (h : Box2 W b v0 v1) (hg : W.grownBy W' row) (hne : row ≠ some b) : Box2 W' b v0 v1 := (hg.block b h.lt (fun e => hne e.symm)).trans h
theorem Sl.grow {w w' : World} {k : IntKind} {A : Option Addr} {xs : List Nat} {row : Option Nat} (h : Sl w k A xs) (hg : w.grownBy w' row) (hne : ∀ a, A = some a → row ≠ some a.block) : Sl w' k A xs := fun hp => by
  obtain ⟨b, off, rfl, hb, hc⟩ := h hp
  exact ⟨b, off, rfl, Nat.lt_of_lt_of_le hb hg.size, fun i hi => (World.cell?_of_block (a := ⟨b, off + i, none⟩) (hg.block b hb (fun e => hne _ rfl e.symm))).trans (hc i hi)⟩
theorem cellsF_snoc {outs : List Nat} {x f0 f1 f2 f3 : Nat} (h : fl x = [f0, f1, f2, f3]) : cellsF (outs ++ [x]) = cellsF outs ++ [.int .u64 (f0 : Nat), .int .u64 (f1 : Nat), .int .u64 (f2 : Nat), .int .u64 (f3 : Nat)] := by
  unfold cellsF
  rw [List.flatMap_append, List.flatMap_cons, List.flatMap_nil, List.append_nil, h]
  rfl
/-- A box that holds a part. -/
def Box3 (W : World) (b : Nat) (p : Part3) : Prop := W.heap[b]? = some (.cells #[.string p.1, .string p.2.1, .bool p.2.2] 41 (0, 0))
theorem Box3.lt {W : World} {b : Nat} {p : Part3} (h : Box3 W b p) : b < W.heap.size := (Array.getElem?_eq_some_iff.1 h).1
theorem Box3.bel {W W' : World} {b : Nat} {p : Part3} (h : Box3 W b p) (hb : Below W.heap.size W W') : Box3 W' b p := (hb.block b h.lt).trans h
theorem Box3.c {W : World} {b : Nat} {p : Part3} (h : Box3 W b p) : W.cell? ⟨b, 0, none⟩ = some (.string p.1) ∧ W.cell? ⟨b, 1, none⟩ = some (.string p.2.1) ∧ W.cell? ⟨b, 2, none⟩ = some (.bool p.2.2) :=
  ⟨cell_of_row W b 0 _ _ (0, 0) h, cell_of_row W b 1 _ _ (0, 0) h, cell_of_row W b 2 _ _ (0, 0) h⟩
theorem Box3.new (W : World) (p : Part3) : Box3 (W.alloc (.cells #[.string p.1, .string p.2.1, .bool p.2.2] 41)) W.heap.size p := heap_alloc_new W _
theorem RunPost.mk {ps : List Part3} {S : St3} {A : Option Addr} {c g : Nat} {w wr : World} {v : Value} {e : Ending} (he : e = .returned (.tuple #[.agg #[.slice A S.1.1.length c, .int .i64 S.1.2.1], v, .bool (S.1.2.2 == 0)])) (h2 : S.1.1.length ≤ c) (h2' : c ≤ maxLen) (s2 : Sl wr .u8 A S.1.1) (B2 : Byt S.1.1)
    (ow : wr.ownsRow (g + 1) 35 4 v S.2.length (cellsF S.2)) (hg : w.heap.size ≤ g) (hb : Below w.heap.size w wr) (hr : S = runF ps) : RunPost (runF ps) w e wr := by
  subst hr
  exact ⟨A, c, v, he, h2, h2', s2, B2, Go.Joins.ownsRow_le ow (by omega), hb⟩

set_option maxHeartbeats 16000000 in
/-- chirographlaw14.run -/
theorem run_any (A : Option Addr) (n c : Nat) (ps : List Part3) (w : World) (hp : ps.length = n) (sp : Pl w A ps) (hn : n ≤ maxLen) :
    Calls Try.prog 15 #[.slice A n c] w (RunPost (runF ps) w) := by
  have D1 := Lib.hid (fun W => new_any ⟨#[114, 117, 110]⟩ W)
  have B1 := sayR_byt (bs := []) (fun x h => by cases h) 0 ⟨#[114, 117, 110]⟩ ⟨#[]⟩
  have hF : runG 20 ps (sayR [] 0 ⟨#[114, 117, 110]⟩ ⟨#[]⟩, []) = runF ps := rfl
  generalize sayR [] 0 ⟨#[114, 117, 110]⟩ ⟨#[]⟩ = r1 at *
  have b0 := (Below.refl w.heap.size w).alloc (Nat.le_refl _) (.cells #[.slice none 0 0, .int .i64 0] 24)
  have x0 := Box2.new w (.slice none 0 0) (.int .i64 0)
  unfold maxLen at hn
  have Hp := Lib.hid hp
  clear hp
  go_enter Try.func15, Try.ntmps15
  go_wp2_with fail
  refine (D1.out _).mono ?_
  rintro e w1 ⟨A1, c1, rfl, h1, h1', s1, a1, b1⟩
  have t1 := (b0.trans (b1.mono b0.size)).alloc (b0.trans (b1.mono b0.size)).size (.cells #[.slice A1 r1.1.length c1, .int .i64 r1.2.1] 24)
  have x1 := (x0.bel b1).alloc (.cells #[.slice A1 r1.1.length c1, .int .i64 r1.2.1] 24)
  have y1 := Box2.new w1 (.slice A1 r1.1.length c1) (.int .i64 r1.2.1)
  have s1' := s1.bel ((Below.refl w1.heap.size w1).alloc (Nat.le_refl _) (.cells #[.slice A1 r1.1.length c1, .int .i64 r1.2.1] 24))
  have hlt1 := (x0.bel b1).lt
  clear b0 x0 s1 b1 D1
  go_wp2_with fail
  generalize w1.alloc (.cells #[.slice A1 r1.1.length c1, .int .i64 r1.2.1] 24) = U1 at *
  have start : RunRel ps w.heap.size w1.heap.size w (.int .i64 0) (.int .i64 r1.2.2) (.slice none 0 0) U1 :=
    ⟨0, (r1, []), A1, c1, Nat.zero_le _, Nat.zero_le _, rfl, rfl, y1, x1, h1, h1', s1', B1, (fun a e => by have := a1 a e; simp at this; omega), World.ownsRow_nil _ _ _ _, Nat.le_refl _, t1, hF⟩
  clear t1 x1 y1 s1' B1 hF
  go_loopw [17, 6, 7] (fun i er v wr => RunRel ps w.heap.size w1.heap.size w i er v wr) (fun i _ _ _ => n - (intOf i).toNat)
  case atStart => exact start
  case round =>
    clear start
    obtain ⟨k, S, A2, c2, hk, hk20, rfl, rfl, y2, x2, h2, h2', s2, B2, hA, ow, hm, hb, hg⟩ := hrel
    have Hg := Lib.hid hg
    have Hm := Lib.hid hm
    have hgl := y2.lt
    clear hg hm
    by_cases hkn : k < ps.length
    · obtain ⟨b, off, rfl, hbl, hcells⟩ := (sp.bel hb) (by omega)
      obtain ⟨hca, hcb, hcc⟩ := hcells k hkn
      have hgs := fun (f : Nat) (h : S.1.2.2 = 0) => runG_step (f := f) (s := S) hkn h
      obtain ⟨pl, pb, pa, hpe⟩ : ∃ pl pb pa, ps[k] = (pl, pb, pa) := ⟨_, _, _, rfl⟩
      rw [hpe] at hca hcb hcc
      simp only [hpe] at hgs
      have HG := Lib.hid hgs
      clear hpe hcells hgs
      dsimp only at hca hcb hcc
      have hkn' : (k : Int) < (n : Int) := by have := Hp.out; omega
      have y3 := y2.alloc (.cells #[.string pl, .string pb, .bool pa] 41)
      have x3 := x2.alloc (.cells #[.string pl, .string pb, .bool pa] 41)
      have s3 := s2.bel ((Below.refl wr.heap.size wr).alloc (Nat.le_refl _) (.cells #[.string pl, .string pb, .bool pa] 41))
      have ow3 := ow.alloc (.cells #[.string pl, .string pb, .bool pa] 41)
      have p3 := Box3.new wr (pl, pb, pa)
      have hb3 := hb.alloc hb.size (.cells #[.string pl, .string pb, .bool pa] 41)
      by_cases hk2 : k = 20
      · subst hk2
        have hend : S = runF ps := by have h := Hg.out; rw [Nat.sub_self] at h; exact h
        have Hend := Lib.hid hend
        clear hend HG
        have j0 := y3.c0
        have j1 := y3.c1
        have j2 := x3.c0
        have j3 := x3.c1
        have f2 := x3.f 0
        have f3 := x3.f 1
        go_wp2_with fail
        refine bodyPost_ret (results_run rfl _ rfl ((x3.set0 _).set1 _)) rfl ?_
        refine RunPost.mk rfl h2 h2' ((s3.up (fun a e => ?_) _).up (fun a e => ?_) _) B2 (ownsRow_setCell_below (ownsRow_setCell_below ow3 (by simp; omega) _) (by simp; omega) _) (by omega) ((hb3.setCell (p := ⟨w.heap.size, 0, none⟩) (Nat.le_refl _) _).setCell (p := ⟨w.heap.size, 1, none⟩) (Nat.le_refl _) _) Hend.out
        all_goals (have := hA a e; simp; omega)
      · have hk2' : (k : Int) < 20 := by omega
        have hk3 : ¬ (20 : Int) ≤ (k : Int) := by omega
        have hk4 : decide ((20 : Int) ≤ (k : Int)) = false := by simp; omega
        by_cases her : S.1.2.2 = 0
        · have HG2 := Lib.hid (HG.out (19 - k) her)
          have her' : (S.1.2.2 == 0) = true := by simp [her]
          have her2 : (S.1.2.2 != 0) = false := by simp [her]
          have Her := Lib.hid her
          clear her
          cases pa with
          | false =>
            obtain ⟨hq0, hq1, hq2⟩ := p3.c
            dsimp only at hq0 hq1 hq2
            have D2 := Lib.hid (fun W => short_any pb W)
            have D3 := Lib.hid (fun W s => say_any A2 S.1.1.length c2 S.1.2.1 S.1.1 pl (shortB pb) W rfl s)
            have hst : stepR S (pl, pb, false) = (sayR S.1.1 S.1.2.1 pl (shortB pb), S.2) := rfl
            have B3 := sayR_byt B2 S.1.2.1 pl (shortB pb)
            rw [hst] at HG2
            generalize sayR S.1.1 S.1.2.1 pl (shortB pb) = r3 at *
            have k0 := y3.c0
            have k1 := y3.c1
            clear hst HG
            go_wp2_with fail
            generalize wr.alloc (.cells #[.string pl, .string pb, .bool false] 41) = U2 at *
            have yd := y3.bel (Below.refl _ _).drew
            have xd := x3.bel (Below.refl _ _).drew
            have sd := s3.bel (Below.refl _ _).drew
            have od := ownsRow_bel ow3 (Below.refl _ _).drew
            have td := hb3.drew
            go_region_with (first
              | (go_at_call 7; refine (D2.out _).mono ?_; rintro e w5 ⟨rfl, rfl⟩)
              | (go_at_call 8; refine (D3.out _ sd).mono ?_; rintro e w6 ⟨A3, c3, rfl, h3, h3', s6, a6, b6⟩
                 have y6 := yd.bel b6
                 have x6 := xd.bel b6
                 have o6 := ownsRow_bel od b6
                 have t6 := td.trans (b6.mono td.size)
                 have m0 := y6.c0
                 have m1 := y6.c1
                 have f0 := y6.f 0
                 have f1 := y6.f 1))
            all_goals go_wp2_with fail
            all_goals
              have hsz := td.size
              have hyd := yd.lt
              refine ⟨⟨k + 1, (r3, S.2), A3, c3, by omega, by omega, rfl, rfl, (y6.set0 _).set1 _, (x6.far (by simp; omega) _).far (by simp; omega) _, h3, h3', (s6.up (fun a e => ?_) _).up (fun a e => ?_) _, B3, fun a e => ?_, ownsRow_setCell_below (ownsRow_setCell_below o6 (by simp) _) (by simp) _, by have := Hm.out; show S.2.length ≤ k + 1; omega, (t6.setCell (p := ⟨w1.heap.size, 0, none⟩) (by simp; omega) _).setCell (p := ⟨w1.heap.size, 1, none⟩) (by simp; omega) _, ?_⟩, by simp [intOf]; have := Hp.out; omega⟩
              all_goals first
                | (show a.block ≠ w1.heap.size; have := a6 a e; omega)
                | (have := a6 a e; omega)
                | (rw [show 20 - (k + 1) = 19 - k by omega, ← HG2.out, show 19 - k + 1 = 20 - k by omega]; exact Hg.out)
          | true =>
            obtain ⟨hq0, hq1, hq2⟩ := p3.c
            dsimp only at hq0 hq1 hq2
            obtain ⟨f0, f1, f2, f3, hf⟩ := fl4 (askR S.1.1 S.1.2.1 pl).2.2.1
            have D4 := Lib.hid (fun W s => (ask_any A2 S.1.1.length c2 S.1.2.1 S.1.1 pl W rfl B2 s).mono fun e w' h => h.e hf)
            have hst : stepR S (pl, pb, true) = (((askR S.1.1 S.1.2.1 pl).1, (askR S.1.1 S.1.2.1 pl).2.1, (askR S.1.1 S.1.2.1 pl).2.2.2), S.2 ++ [(askR S.1.1 S.1.2.1 pl).2.2.1]) := rfl
            have B4 := askR_byt S.1.1 S.1.2.1 pl
            rw [hst] at HG2
            generalize askR S.1.1 S.1.2.1 pl = r4 at *
            have Hf := Lib.hid hf
            have y4 := y3.alloc (.cells #[.int .u64 0, .int .u64 0, .int .u64 0, .int .u64 0] 35)
            have x4 := x3.alloc (.cells #[.int .u64 0, .int .u64 0, .int .u64 0, .int .u64 0] 35)
            have s4 := s3.bel ((Below.refl _ _).alloc (Nat.le_refl _) (.cells #[.int .u64 0, .int .u64 0, .int .u64 0, .int .u64 0] 35))
            have ow4 := ow3.alloc (.cells #[.int .u64 0, .int .u64 0, .int .u64 0, .int .u64 0] 35)
            have p4 := p3.bel ((Below.refl _ _).alloc (Nat.le_refl _) (.cells #[.int .u64 0, .int .u64 0, .int .u64 0, .int .u64 0] 35))
            have hb4 := hb3.alloc hb3.size (.cells #[.int .u64 0, .int .u64 0, .int .u64 0, .int .u64 0] 35)
            have z4 := own_new1 wr (.cells #[.string pl, .string pb, .bool true] 41) 35 .u64 [0, 0, 0, 0]
            have k0 := y4.c0
            have k1 := y4.c1
            obtain ⟨hq3, hq4, hq5⟩ := p4.c
            dsimp only at hq3 hq4 hq5
            have hz4 := z4.lt
            have hgl4 := y4.lt
            clear hst HG hf s3 y3 x3 ow3 hb3
            go_wp2_with fail
            refine (D4.out _ s4).mono ?_
            rintro e w6 ⟨A3, c3, rfl, h3, h3', s6, a6, b6⟩
            have y6 := y4.bel b6
            have x6 := x4.bel b6
            have z6 : Own w6 (wr.heap.size + 1) 35 .u64 [0, 0, 0, 0] := z4.bel b6
            have o6 := ownsRow_bel ow4 b6
            have t6 := hb4.trans (b6.mono hb4.size)
            have m0 := y6.c0
            have m1 := y6.c1
            have n0 := y6.f 0
            have n1 := y6.f 1
            obtain ⟨m2, m3, m4, m5⟩ := z6.c4
            have n2 := z6.frozen 0
            have n3 := z6.frozen 1
            have n4 := z6.frozen 2
            have n5 := z6.frozen 3
            have hsz6 := b6.size
            clear y4 x4 z4 ow4 hb4 b6
            go_upto_region 11 with fail
            have hl6 : wr.heap.size + 1 < w6.heap.size := z6.lt
            have y7 := (((((y6.set0 (.slice A3 r4.1.length c3)).set1 (.int .i64 r4.2.1)).far (p := ⟨wr.heap.size + 1, 0, none⟩) (by show w1.heap.size ≠ wr.heap.size + 1; omega) (.int .u64 (f0 : Nat))).far (p := ⟨wr.heap.size + 1, 1, none⟩) (by show w1.heap.size ≠ wr.heap.size + 1; omega) (.int .u64 (f1 : Nat))).far (p := ⟨wr.heap.size + 1, 2, none⟩) (by show w1.heap.size ≠ wr.heap.size + 1; omega) (.int .u64 (f2 : Nat))).far (p := ⟨wr.heap.size + 1, 3, none⟩) (by show w1.heap.size ≠ wr.heap.size + 1; omega) (.int .u64 (f3 : Nat))
            have x7 : Box2 ((((((w6.setCell ⟨w1.heap.size, 0, none⟩ (.slice A3 r4.1.length c3)).setCell ⟨w1.heap.size, 1, none⟩ (.int .i64 r4.2.1)).setCell ⟨wr.heap.size + 1, 0, none⟩ (.int .u64 (f0 : Nat))).setCell ⟨wr.heap.size + 1, 1, none⟩ (.int .u64 (f1 : Nat))).setCell ⟨wr.heap.size + 1, 2, none⟩ (.int .u64 (f2 : Nat))).setCell ⟨wr.heap.size + 1, 3, none⟩ (.int .u64 (f3 : Nat))) w.heap.size (.slice none 0 0) (.int .i64 0) := (((((x6.far (by show w.heap.size ≠ w1.heap.size; omega) _).far (by show w.heap.size ≠ w1.heap.size; omega) _).far (by show w.heap.size ≠ wr.heap.size + 1; omega) _).far (by show w.heap.size ≠ wr.heap.size + 1; omega) _).far (by show w.heap.size ≠ wr.heap.size + 1; omega) _).far (by show w.heap.size ≠ wr.heap.size + 1; omega) _
            have z7 : Own ((((((w6.setCell ⟨w1.heap.size, 0, none⟩ (.slice A3 r4.1.length c3)).setCell ⟨w1.heap.size, 1, none⟩ (.int .i64 r4.2.1)).setCell ⟨wr.heap.size + 1, 0, none⟩ (.int .u64 (f0 : Nat))).setCell ⟨wr.heap.size + 1, 1, none⟩ (.int .u64 (f1 : Nat))).setCell ⟨wr.heap.size + 1, 2, none⟩ (.int .u64 (f2 : Nat))).setCell ⟨wr.heap.size + 1, 3, none⟩ (.int .u64 (f3 : Nat))) (wr.heap.size + 1) 35 .u64 [f0, f1, f2, f3] := own_four ((z6.far (by show wr.heap.size + 1 ≠ w1.heap.size; omega) _).far (by show wr.heap.size + 1 ≠ w1.heap.size; omega) _) rfl
            have hvn : ∀ q, u7.ownBlock = some q → q < wr.heap.size := fun q e => (ow.lt q e).2
            have hvf : u7.ownBlock ≠ some (wr.heap.size + 1) := fun e => by have := hvn _ e; omega
            have o7 : World.ownsRow ((((((w6.setCell ⟨w1.heap.size, 0, none⟩ (.slice A3 r4.1.length c3)).setCell ⟨w1.heap.size, 1, none⟩ (.int .i64 r4.2.1)).setCell ⟨wr.heap.size + 1, 0, none⟩ (.int .u64 (f0 : Nat))).setCell ⟨wr.heap.size + 1, 1, none⟩ (.int .u64 (f1 : Nat))).setCell ⟨wr.heap.size + 1, 2, none⟩ (.int .u64 (f2 : Nat))).setCell ⟨wr.heap.size + 1, 3, none⟩ (.int .u64 (f3 : Nat))) (w1.heap.size + 1) 35 4 u7 S.2.length (cellsF S.2) := ownsRow_setCell_far (ownsRow_setCell_far (ownsRow_setCell_far (ownsRow_setCell_far (ownsRow_setCell_below (ownsRow_setCell_below o6 (by simp) _) (by simp) _) hvf _) hvf _) hvf _) hvf _
            have hA3 : ∀ a, A3 = some a → wr.heap.size + 2 ≤ a.block := fun a e => by have := a6 a e; simpa using this
            have s7 : Sl ((((((w6.setCell ⟨w1.heap.size, 0, none⟩ (.slice A3 r4.1.length c3)).setCell ⟨w1.heap.size, 1, none⟩ (.int .i64 r4.2.1)).setCell ⟨wr.heap.size + 1, 0, none⟩ (.int .u64 (f0 : Nat))).setCell ⟨wr.heap.size + 1, 1, none⟩ (.int .u64 (f1 : Nat))).setCell ⟨wr.heap.size + 1, 2, none⟩ (.int .u64 (f2 : Nat))).setCell ⟨wr.heap.size + 1, 3, none⟩ (.int .u64 (f3 : Nat))) .u8 A3 r4.1 := (((((s6.up (fun a e => by have := hA3 a e; show a.block ≠ w1.heap.size; omega) _).up (fun a e => by have := hA3 a e; show a.block ≠ w1.heap.size; omega) _).up (fun a e => by have := hA3 a e; show a.block ≠ wr.heap.size + 1; omega) _).up (fun a e => by have := hA3 a e; show a.block ≠ wr.heap.size + 1; omega) _).up (fun a e => by have := hA3 a e; show a.block ≠ wr.heap.size + 1; omega) _).up (fun a e => by have := hA3 a e; show a.block ≠ wr.heap.size + 1; omega) _
            have hwl := hb.size
            have t7 : Below w.heap.size w ((((((w6.setCell ⟨w1.heap.size, 0, none⟩ (.slice A3 r4.1.length c3)).setCell ⟨w1.heap.size, 1, none⟩ (.int .i64 r4.2.1)).setCell ⟨wr.heap.size + 1, 0, none⟩ (.int .u64 (f0 : Nat))).setCell ⟨wr.heap.size + 1, 1, none⟩ (.int .u64 (f1 : Nat))).setCell ⟨wr.heap.size + 1, 2, none⟩ (.int .u64 (f2 : Nat))).setCell ⟨wr.heap.size + 1, 3, none⟩ (.int .u64 (f3 : Nat))) := below_four ((t6.setCell (p := ⟨w1.heap.size, 0, none⟩) (by show w.heap.size ≤ w1.heap.size; omega) _).setCell (p := ⟨w1.heap.size, 1, none⟩) (by show w.heap.size ≤ w1.heap.size; omega) _) (by omega)
            clear y6 x6 z6 o6 s6 t6 m0 m1 m2 m3 m4 m5 n0 n1 n2 n3 n4 n5 k0 k1 hq0 hq1 hq2 hq3 hq4 hq5
            generalize ((((((w6.setCell ⟨w1.heap.size, 0, none⟩ (.slice A3 r4.1.length c3)).setCell ⟨w1.heap.size, 1, none⟩ (.int .i64 r4.2.1)).setCell ⟨wr.heap.size + 1, 0, none⟩ (.int .u64 (f0 : Nat))).setCell ⟨wr.heap.size + 1, 1, none⟩ (.int .u64 (f1 : Nat))).setCell ⟨wr.heap.size + 1, 2, none⟩ (.int .u64 (f2 : Nat))).setCell ⟨wr.heap.size + 1, 3, none⟩ (.int .u64 (f3 : Nat))) = W7 at *
            obtain ⟨m2, m3, m4, m5⟩ := z7.c4
            have hinfo : (Try.prog.info? 35).map (fun i => (i.zero, i.size, i.bytes)) = some (some (.agg #[.int .u64 0, .int .u64 0, .int .u64 0, .int .u64 0]), 4, 32) := by kernel_rfl
            obtain ⟨i0, hi0, hi1⟩ := Option.map_eq_some_iff.1 hinfo
            have hi2 : i0.zero = some (.agg #[.int .u64 0, .int .u64 0, .int .u64 0, .int .u64 0]) := by injection hi1
            have hi3 : i0.size = 4 := by injection hi1 with _ h; injection h
            have hi4 : i0.bytes = 32 := by injection hi1 with _ h; injection h
            have HI := Lib.hid (show _ ∧ _ ∧ _ ∧ _ from ⟨hi0, hi2, hi3, hi4⟩)
            have o8 := o7.alloc (.cells #[.int .u64 (f0 : Nat), .int .u64 (f1 : Nat), .int .u64 (f2 : Nat), .int .u64 (f3 : Nat)] 35)
            have hW8 : (W7.alloc (.cells #[.int .u64 (f0 : Nat), .int .u64 (f1 : Nat), .int .u64 (f2 : Nat), .int .u64 (f3 : Nat)] 35)).heap.size = W7.heap.size + 1 := World.size_alloc _ _
            clear hinfo hi0 hi1 hi2 hi3 hi4
            have hz7 := z7.lt
            have HL := Lib.hid (fun (ops : Array Oper) (rest : List Oper) (o : Oper) (a : Act) (Q : Exit → Act → World → Prop) hgd ho hs hx h => wpList_append_own (P := Try.prog) (ops := ops) (rest := rest) (o := o) (a := a) (Q := Q) (W7.alloc (.cells #[.int .u64 (f0 : Nat), .int .u64 (f1 : Nat), .int .u64 (f2 : Nat), .int .u64 (f3 : Nat)] 35)) hgd (.tmp 49) (.tmp 51) 42 ho (w1.heap.size + 1) 35 i0 (.agg #[.int .u64 0, .int .u64 0, .int .u64 0, .int .u64 0]) 4 32 (by kernel_rfl) HI.out.1 HI.out.2.1 HI.out.2.2.1 HI.out.2.2.2 rfl (by decide) u7 S.2.length (cellsF S.2) hs o8 ⟨W7.heap.size, 0, none⟩ 1 1 [.int .u64 (f0 : Nat), .int .u64 (f1 : Nat), .int .u64 (f2 : Nat), .int .u64 (f3 : Nat)] hx rfl (World.news_of_block (heap_alloc_new W7 _)) (by simp [Value.oneCell']) (by have := Hm.out; simp only [maxLen]; omega) (by have := Hm.out; omega) (by omega) h)
            go_wp2_with (at_builtin; refine HL.out _ _ _ _ _ rfl rfl rfl rfl ?_; intro v' w9 ow9 hgr9 hnil9)
            have hvb : ∀ q, u7.ownBlock = some q → w1.heap.size + 1 ≤ q := fun q e => (o8.lt q e).1
            have d8 := (Below.refl W7.heap.size W7).alloc (Nat.le_refl _) (.cells #[.int .u64 (f0 : Nat), .int .u64 (f1 : Nat), .int .u64 (f2 : Nat), .int .u64 (f3 : Nat)] 35)
            refine ⟨⟨k + 1, ((r4.1, r4.2.1, r4.2.2.2), S.2 ++ [r4.2.2.1]), A3, c3, by omega, by omega, rfl, rfl, (y7.bel d8).grow hgr9 (fun e => by have := hvb _ e; omega), (x7.bel d8).grow hgr9 (fun e => by have := hvb _ e; omega), h3, h3', (s7.bel d8).grow hgr9 (fun a e h => by have := hvn _ h; have := hA3 a e; omega), B4, fun a e => by have := hA3 a e; omega, ?_, ?_, Below.grown (t7.alloc t7.size (.cells #[.int .u64 (f0 : Nat), .int .u64 (f1 : Nat), .int .u64 (f2 : Nat), .int .u64 (f3 : Nat)] 35)) hgr9 (by have := t7.size; omega) (fun q hq => by have := hvb q hq; omega), ?_⟩, by simp [intOf]; have := Hp.out; omega⟩
            · show w9.ownsRow (w1.heap.size + 1) 35 4 v' (S.2 ++ [r4.2.2.1]).length (cellsF (S.2 ++ [r4.2.2.1]))
              rw [cellsF_snoc Hf.out, List.length_append]
              exact ow9
            · show (S.2 ++ [r4.2.2.1]).length ≤ k + 1
              rw [List.length_append]
              have := Hm.out
              simp only [List.length_singleton]
              omega
            · rw [show 20 - (k + 1) = 19 - k by omega, ← HG2.out, show 19 - k + 1 = 20 - k by omega]
              exact Hg.out
        · have her' : (S.1.2.2 != 0) = true := by simp [her]
          have hend : S = runF ps := by rw [← Hg.out, runG_err _ _ _ her]
          have Hend := Lib.hid hend
          clear hend HG her
          have j0 := y3.c0
          have j1 := y3.c1
          have j2 := x3.c0
          have j3 := x3.c1
          have f2 := x3.f 0
          have f3 := x3.f 1
          go_wp2_with fail
          refine bodyPost_ret (results_run rfl _ rfl ((x3.set0 _).set1 _)) rfl ?_
          refine RunPost.mk rfl h2 h2' ((s3.up (fun a e => ?_) _).up (fun a e => ?_) _) B2 (ownsRow_setCell_below (ownsRow_setCell_below ow3 (by simp; omega) _) (by simp; omega) _) (by omega) ((hb3.setCell (p := ⟨w.heap.size, 0, none⟩) (Nat.le_refl _) _).setCell (p := ⟨w.heap.size, 1, none⟩) (Nat.le_refl _) _) Hend.out
          all_goals (have := hA a e; simp; omega)
    · obtain rfl : k = ps.length := by omega
      have hend : S = runF ps := by have h := Hg.out; rw [List.drop_length, runG_nil] at h; exact h
      have Hend := Lib.hid hend
      have y3 := y2
      have x3 := x2
      have s3 := s2
      have ow3 := ow
      have hb3 := hb
      have hkn' : ¬ (ps.length : Int) < (n : Int) := by have := Hp.out; omega
      clear hend
      have j0 := y3.c0
      have j1 := y3.c1
      have j2 := x3.c0
      have j3 := x3.c1
      have f2 := x3.f 0
      have f3 := x3.f 1
      go_wp2_with fail
      refine bodyPost_ret (results_run rfl _ rfl ((x3.set0 _).set1 _)) rfl ?_
      refine RunPost.mk rfl h2 h2' ((s3.up (fun a e => ?_) _).up (fun a e => ?_) _) B2 (ownsRow_setCell_below (ownsRow_setCell_below ow3 (by simp; omega) _) (by simp; omega) _) (by omega) ((hb3.setCell (p := ⟨w.heap.size, 0, none⟩) (Nat.le_refl _) _).setCell (p := ⟨w.heap.size, 1, none⟩) (Nat.le_refl _) _) Hend.out
      all_goals (have := hA a e; simp; omega)
end Go.Proofs.Ytoocoobgidoceaa
