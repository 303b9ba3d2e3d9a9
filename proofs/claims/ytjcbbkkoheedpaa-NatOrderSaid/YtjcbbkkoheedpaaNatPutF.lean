import Derived.Test.YtjcbbkkoheedpaaNatPutM
import Derived.RangeFuncBox
import Derived.OrdersIn
namespace Go.Proofs.Ytjcbbkkoheedpaa
open Go.RowKit Go.Shelf
set_option linter.unusedVariables false
attribute [local go_sem] Oper.semAt_some

def cellsOf (l : List Nat) : List Value := l.map fun x : Nat => Value.int .u8 (x : Int)
theorem cellsOf_snoc (l : List Nat) (x : Nat) : cellsOf (l ++ [x]) = cellsOf l ++ [Value.int .u8 (x : Int)] := by simp [cellsOf]
theorem cellsOf_length (l : List Nat) : (cellsOf l).length = l.length := by simp [cellsOf]
theorem keepBut_b {m ob : Nat} {w : World} (hm : m ≤ w.heap.size) (W : World) (l : Nat) (o o' : Obj) (hl : w.heap.size ≤ l) (h : W.heap[l]? = some o) (_ : o.isCells = false) (_ : o.isWalk = false) : KeepBut m ob W (W.putObj l o') :=
  fun b hb _ => (grownBy_putObj' W l o').block b (by have := (Array.getElem?_eq_some_iff.1 h).1; omega) (fun e => by have : b = l := Option.some.inj e; omega)
/-- What the loop's body keeps, between two rounds. -/
def PutI (w : World) (m ob : Nat) (pre : List (Nat × Nat)) (W : World) : Prop :=
  (∃ v, Boxed W ob 45 v ∧ W.ownsRow m 5 1 v (bytesOf pre).length (cellsOf (bytesOf pre)) ∧ True) ∧ (Below w.heap.size w W ∧ m ≤ W.heap.size)
theorem putI_own (w : World) (m ob B : Nat) (hB : w.heap.size ≤ B) : OwnFrom B (PutI w m ob) :=
  OwnFrom.and (Own.from (holdsRow_own m ob 45 5 1 (fun pre : List (Nat × Nat) => (bytesOf pre).length) (fun pre => cellsOf (bytesOf pre)) (fun _ _ => True)) B) (OwnFrom.and (ownFrom_below (Nat.le_refl _) hB) (fun _ _ _ _ hs hg _ => Nat.le_trans hs hg.size))

/-- .. and within a round. -/
def PutR (w : World) (m ob : Nat) (pre : List (Nat × Nat)) (x : Nat × Nat) (W : World) (s : Value) (wr : World) : Prop :=
  ∃ j : Nat, j ≤ 8 ∧ s = .int .i64 (56 - 8 * (j : Int)) ∧ (∃ v, Boxed wr ob 45 v ∧ wr.ownsRow m 5 1 v ((bytesOf pre).length + j) (cellsOf (bytesOf pre ++ xbytes x j))) ∧ KeepsOthers W wr ∧ KeepBut m ob W wr ∧ Below w.heap.size w wr
theorem PutR.start {w : World} {m ob : Nat} {pre : List (Nat × Nat)} {x : Nat × Nat} {W : World} {v : Value} (hbx : Boxed W ob 45 v) (hrow : W.ownsRow m 5 1 v (bytesOf pre).length (cellsOf (bytesOf pre))) (hbe : Below w.heap.size w W) : PutR w m ob pre x W (.int .i64 56) W :=
  ⟨0, by omega, rfl, ⟨v, hbx, by simpa [xbytes] using hrow⟩, KeepsOthers.refl _, KeepBut.refl _ _ _, hbe⟩
theorem step_append_ownIn {F : Fence} {n : Nat} {P : Program} (w : World) {ops : Array Oper} {o : Oper} {a : Act} {K : Act → World → Prop} {Q : Exit → Act → World → Prop} {E : Prop}
    (hw : Region.wanted o (yielded ops a.tmps) = true) (s x : Operand) (t : TypeId) (hop : o.op = Op.call { callee := Callee.builtin Builtin.append, args := #[s, x], argTypes := #[t, t] })
    (base : Nat) (e : TypeId) (i : TypeInfo) (z : Value) (size bytes : Nat) (h1 : P.underlying t = some (.slice e)) (h2 : P.info? e = some i) (h3 : i.zero = some z) (h4 : i.size = size) (h5 : i.bytes = bytes) (h6 : z.cells.size = size) (h7 : 0 < size)
    (v : Value) (k : Nat) (xs : List Value) (hs : a.eval s = v) (hown : w.ownsRow base e size v k xs) (ad : Addr) (m c : Nat) (news : List Value) (hx : a.eval x = .slice (some ad) m c) (hn : news.length = m * size)
    (hc : ∀ j u, news[j]? = some u → w.cell? (ad.add j) = some u) (h1c : ∀ u ∈ news, u.oneCell' = true) (b1 : k + m ≤ maxLen) (b2 : (k + m) * bytes ≤ 140737488355328) (b3 : base ≤ w.heap.size)
    (hK : ∀ v' w', w'.ownsRow base e size v' (k + m) (xs ++ news) → w.grownBy w' v.ownBlock → K (a.put o.dst v') w') :
    if Region.wanted o (yielded ops a.tmps) = true then Oper.wpIn F n P o a w K Q else E := by
  rw [if_pos hw]
  obtain ⟨v', w', hrun, r1, r2, r3⟩ := run_append_own (P := P) w base t o.type e i z size bytes h1 h2 h3 h4 h5 h6 h7 v k xs hown ad m c news hn hc h1c b1 b2 b3
  unfold Oper.wpIn
  refine ⟨?_, ?_⟩
  · simp [Oper.about, hop, resolve, Target.leads, Sem.run_pure]
  · rw [Oper.semAt_plain F _ _ (by rw [hop]; intro c hc'; cases hc')]
    unfold execOp
    simp [hop, resolve, invoke, builtin, hs, hx, hrun, Result.andThen, Oper.uponIn_value]
    exact hK v' w' r1 r2
theorem put_appended {W w1 : World} {m B : Nat} {v v' : Value} {k k' : Nat} {xs ys : List Value} {tmp : Obj}
    (hv : Boxed W B 45 v) (hrow : W.ownsRow m 5 1 v k xs) (hm : m ≤ W.heap.size) (hB : B < m)
    (hown' : w1.ownsRow m 5 1 v' k' ys) (hgrow : (W.alloc tmp).grownBy w1 v.ownBlock) :
    Boxed w1 B 45 v ∧ Boxed (w1.setCell ⟨B, 0, none⟩ v') B 45 v' ∧ (w1.setCell ⟨B, 0, none⟩ v').ownsRow m 5 1 v' k' ys ∧ KeepsOthers W (w1.setCell ⟨B, 0, none⟩ v') ∧ KeepBut m B W (w1.setCell ⟨B, 0, none⟩ v') ∧ Below B W (w1.setCell ⟨B, 0, none⟩ v') := by
  have hv1 : Boxed w1 B 45 v := (hv.alloc tmp).kept hgrow (hv.not_row (by decide) hrow)
  refine ⟨hv1, hv1.set v', hown'.kept (grownBy_setCell' w1 B v') (.inr (hv1.not_row (by decide) hown').symm), ?_, ?_, ?_⟩
  · refine ((KeepsOthers.alloc W tmp).trans (KeepsOthers.of_grownBy hgrow fun j o ej hj => ?_)).trans (KeepsOthers.setCell _ _ _)
    rcases (hrow.alloc tmp).2 with ⟨rfl, _⟩ | ⟨g, cap, cur, rfl, _, hgb, _⟩
    · simp [Value.ownBlock] at ej
    · obtain rfl : g = j := by simpa [Value.ownBlock] using ej
      rw [hgb] at hj; cases hj; rfl
  · intro b hb hne
    have h1 : (w1.setCell ⟨B, 0, none⟩ v').heap[b]? = w1.heap[b]? := Below.heap_setCell _ _ _ b hne
    have h2 : w1.heap[b]? = (W.alloc tmp).heap[b]? := hgrow.block b (by simp; omega) (fun e => by have := (hrow.lt b e.symm).1; omega)
    rw [h1, h2]
    exact Below.heap_alloc W tmp b (by omega)
  · exact (((Below.refl B W).alloc (by omega) tmp).grown hgrow (by simp; omega) (fun j ej => by have := (hrow.lt j ej).1; omega)).setCell (p := ⟨B, 0, none⟩) (Nat.le_refl _) v'
set_option maxHeartbeats 4000000 in
/-- nat.Put -/
theorem put_in (A : Option Addr) (n c na : Nat) (xs : List Nat) (w : World) (hn : n ≤ c) (hc : c ≤ maxLen) (e : min n 16 = na) (hx : xs.length = na) (ox : Ok xs) (sx : Sl w .u64 A xs) :
    CallsIn Fence.wide 8 Try.prog 19 #[.slice A n c] w fun e w' => e = .returned (.string (strN (PL xs na (8 * na)))) ∧ Below w.heap.size w w' := by
  have hro : Fence.wide.round = none := rfl
  have H1 := Lib.hid (fun W => cut_at A n c na W hn hc e)
  have hna : na ≤ 16 := by omega
  clear e
  refine callsIn_of_wp_marks Try.func19 rfl trivial ?_ hro
  simp only [Try.ntmps19, List.size_toArray, List.length_cons, List.length_nil, Nat.reduceAdd, Nat.reduceSub, Array.replicate_succ, Array.replicate_zero, List.push_toArray, List.append_toArray, List.nil_append, List.cons_append]
  gi_wp2
  refine ⟨trivial, (callsIn_wide.2 (H1.out _)).mono ?_⟩
  rintro e w' ⟨rfl, rfl⟩
  gi_wp2
  refine ⟨trivial, (back_in Fence.wide _ trivial hro _ _ _ _).mono ?_⟩
  rintro e w' ⟨rfl, rfl⟩
  gi_wp2
  have hbox : Boxed ((w.alloc (.cells #[.slice none 0 0] 45)).alloc (.cells #[.slice A na na] 22)) w.heap.size 45 (.slice none 0 0) := (Boxed.new w _ _).alloc _
  have hsb : ((w.alloc (.cells #[.slice none 0 0] 45)).alloc (.cells #[.slice A na na] 22)).cell? ⟨w.heap.size + 1, 0, none⟩ = some (.slice A na na) := by
    have := (Boxed.new (w.alloc (.cells #[.slice none 0 0] 45)) 22 (.slice A na na)).cell
    rwa [World.size_alloc] at this
  have hbe : Below w.heap.size w ((w.alloc (.cells #[.slice none 0 0] 45)).alloc (.cells #[.slice A na na] 22)) := ((Below.refl _ _).alloc (Nat.le_refl _) _).alloc (by simp) _
  have hsz : ((w.alloc (.cells #[.slice none 0 0] 45)).alloc (.cells #[.slice A na na] 22)).heap.size = w.heap.size + 2 := by simp
  generalize (w.alloc (.cells #[.slice none 0 0] 45)).alloc (.cells #[.slice A na na] 22) = W0 at *
  have hcs : 0 < na → ∃ b off, A = some ⟨b, off, none⟩ ∧ b < w.heap.size + 2 ∧ b ≠ w.heap.size ∧ ∀ j, j < na → W0.cell? ⟨b, off + j, none⟩ = some (.int .u64 (nth xs j : Nat)) := fun h => by
    obtain ⟨b, off, hA, hb, hcell⟩ := sx.at2 hbe (by omega)
    exact ⟨b, off, hA, by omega, by omega, fun j hj => hcell j (by omega)⟩
  refine wpIn_rangeFunc_ownF hro (by decide) (gf := 46) (lb := #[.pointer (some ⟨w.heap.size + 1, 0, none⟩)]) rfl trivial (enters_of Try.func46 (by kernel_rfl) rfl)
    (back_stops Fence.wide 7 trivial hro (by decide) (w.heap.size + 1) (w.heap.size + 2) w.heap.size na na A xs hna hx (by omega) (by omega) W0 (by omega) hsb hcs) (fun h k => h.trans k) (keepBut_b (by omega)) (Below.refl _ _) (fun _ => rfl)
    (PutI w (w.heap.size + 2) w.heap.size) (fun _ _ _ => False) (putI_own w _ _ _ (by omega)) (fun _ _ _ _ _ hs _ _ => hs)
    ⟨⟨_, hbox, World.ownsRow_nil _ _ _ _, trivial⟩, hbe, by omega⟩
    (fun x => { tmps := #[.slice A n c, undef, .string { data := #[] }, .pointer (some ⟨w.heap.size, 0, none⟩), undef, .int .u64 (x.2 : Int), undef, .slice A n c, .slice A na na, .func (.func 46) #[] #[.pointer (some ⟨w.heap.size + 1, 0, none⟩)], .int .i64 (x.1 : Int), .int .u64 (x.2 : Int), undef, undef, undef, undef, undef, undef, undef, undef, undef, undef, undef, undef, undef], defers := [] }) ?assign ?body ?done ?stop
  case assign =>
    intro l x W K hK
    dsimp only [bkwE]
    gi_wp2
    exact hK
  case body =>
    rintro l pre x W ⟨⟨v, hbx, hrow, _⟩, hbe, hmW⟩ hN
    gi_wp2
    gi_loopw [6] (fun s wr => PutR w (w.heap.size + 2) w.heap.size pre x W s wr) (fun s _ => (intOf s + 8).toNat)
    case atStart => exact PutR.start hbx hrow hbe
    case round =>
      clear hbx hrow hbe
      obtain ⟨j, hj, rfl, ⟨v, hbx, hrow⟩, hko0, hkb0, hbe⟩ := hrel
      by_cases hj8 : j < 8
      · obtain ⟨z, hz⟩ : ∃ z, 56 - 8 * j = z := ⟨_, rfl⟩
        have ez : 56 - 8 * (j : Int) = (z : Int) := by omega
        have hz0 : (0 : Int) ≤ (z : Int) := by omega
        have hz64 : (z : Int) ≤ 64 := by omega
        obtain ⟨q, hq⟩ : ∃ q, x.2 / 2 ^ z = q := ⟨_, rfl⟩
        obtain ⟨y, hy⟩ : ∃ y, q % 256 = y := ⟨_, rfl⟩
        have ev1 : (x.2 : Int) / 2 ^ z = (q : Int) := by rw [← hq]; simp
        have ev2 : IntKind.u8.wrap (q : Int) = (y : Int) := by rw [IntKind.wrap_u8]; omega
        have hbn : xbyte x j = y := by rw [xbyte, hz, hq, hy]
        have hrowlen : (bytesOf pre).length = 8 * pre.length := bytesOf_length pre
        have hbx2 : Boxed wr.drew w.heap.size 45 v := hbx
        have hrow2 : wr.drew.ownsRow (w.heap.size + 2) 5 1 v ((bytesOf pre).length + j) (cellsOf (bytesOf pre ++ xbytes x j)) := hrow
        have hko2 : KeepsOthers W wr.drew := hko0.trans (KeepsOthers.drew _)
        have hkb2 : KeepBut (w.heap.size + 2) w.heap.size W wr.drew := hkb0
        have hbe2 : Below w.heap.size w wr.drew := hbe.drew
        have hms : w.heap.size + 2 ≤ wr.drew.heap.size := Nat.le_trans hmW hko2.size
        have hcs2 : cellsOf (bytesOf pre ++ xbytes x (j + 1)) = cellsOf (bytesOf pre ++ xbytes x j) ++ [Value.int .u8 (y : Int)] := by rw [xbytes_succ, ← List.append_assoc, cellsOf_snoc, hbn]
        have hcl := hbx2.cell
        have hob : w.heap.size < w.heap.size + 2 := by omega
        clear hbx hrow hko0 hkb0 hbe hz hq hy hbn
        gi_wp2
        refine wpIn_region_any (by kernel_rfl) ?_
        change wpAnyIn _ _ _ _ _ _ _ _ _ (World.drew _)
        generalize wr.drew = w2 at *
        have hrow1 := hrow2.alloc (.cells #[.int .u8 (y : Int)] 5)
        have hcl1 := (hbx2.alloc (.cells #[.int .u8 (y : Int)] 5)).cell
        have hms1 : w.heap.size + 2 ≤ (w2.alloc (.cells #[.int .u8 (y : Int)] 5)).heap.size := by simp; omega
        have HEND := Lib.hid (show ∀ v' W', Boxed W' w.heap.size 45 v' → W'.ownsRow (w.heap.size + 2) 5 1 v' ((bytesOf pre).length + j + 1) (cellsOf (bytesOf pre ++ xbytes x j) ++ [Value.int .u8 (y : Int)]) → KeepsOthers w2 W' → KeepBut (w.heap.size + 2) w.heap.size w2 W' → Below w.heap.size w2 W' →
            PutR w (w.heap.size + 2) w.heap.size pre x W (.int .i64 ((z : Int) - 8)) W' from fun v' W' h1 h2 h3 h4 h5 => ⟨j + 1, by omega, by congr 1; omega, ⟨v', h1, by rw [hcs2]; exact h2⟩, hko2.trans h3, hkb2.trans h4, hbe2.trans h5⟩)
        have hk1 : (bytesOf pre).length + j + 1 ≤ maxLen := by simp only [maxLen]; omega
        have hk2 : ((bytesOf pre).length + j + 1) * 1 ≤ 140737488355328 := by omega
        clear hcs2 hrowlen
        generalize hkk : (bytesOf pre).length + j = kk at *
        generalize hcc : cellsOf (bytesOf pre ++ xbytes x j) = cs at *
        clear hkk hcc
        obtain ⟨ti, hti, hti345⟩ := Option.map_eq_some_iff.1 info_u8N
        have hti3 : ti.zero = some (.int .u8 0) := by injection hti345
        have hti4 : ti.size = 1 := by injection hti345 with _ k; injection k
        have hti5 : ti.bytes = 1 := by injection hti345 with _ k; injection k
        have HT := Lib.hid (And.intro hti (And.intro hti3 (And.intro hti4 hti5)))
        clear hti345 hti hti3 hti4 hti5
        refine wpAnyIn_ready (rs := [0, 1, 2]) (by kernel_rfl) (by simp) ?_
        refine AllReadyIn.cons rfl (fun K hK => ?_) (AllReadyIn.cons rfl (fun K hK => ?_) (AllReadyIn.cons rfl (fun K hK => ?_) AllReadyIn.nil))
        · go_simp
          refine hK _ _ ?_
          clear hK K
          refine wpAnyIn_ready (rs := [1, 2]) (by kernel_rfl) (by simp) ?_
          refine AllReadyIn.cons rfl (fun K hK => ?_) (AllReadyIn.cons rfl (fun K hK => ?_) AllReadyIn.nil)
          · go_simp
            refine hK _ _ ?_
            clear hK K
            refine wpAnyIn_ready (rs := [2]) (by kernel_rfl) (by simp) ?_
            refine AllReadyIn.cons rfl (fun K hK => ?_) AllReadyIn.nil
            go_simp
            refine hK _ _ ?_
            clear hK K
            refine wpAnyIn_ready (rs := [3]) (by kernel_rfl) (by simp) ?_
            refine AllReadyIn.cons rfl (fun K hK => ?_) AllReadyIn.nil
            go_simp
            refine hK _ _ ?_
            clear hK K
            refine wpAnyIn_ready (rs := [4]) (by kernel_rfl) (by simp) ?_
            refine AllReadyIn.cons rfl (fun K hK => ?_) AllReadyIn.nil
            go_simp
            refine hK _ _ ?_
            clear hK K
            refine wpAnyIn_ready (rs := [5]) (by kernel_rfl) (by simp) ?_
            refine AllReadyIn.cons rfl (fun K hK => ?_) AllReadyIn.nil
            go_simp
            refine hK _ _ ?_
            clear hK K
            refine wpAnyIn_ready (rs := [6]) (by kernel_rfl) (by simp) ?_
            refine AllReadyIn.cons rfl (fun K hK => ?_) AllReadyIn.nil
            refine step_append_ownIn (w2.alloc (.cells #[.int .u8 (y : Int)] 5)) (by rfl) (.tmp 16) (.tmp 21) 45 rfl (w.heap.size + 2) 5 ti (.int .u8 0) 1 1 (by kernel_rfl) HT.out.1 HT.out.2.1 HT.out.2.2.1 HT.out.2.2.2 rfl (by decide) v kk cs rfl hrow1 ⟨w2.heap.size, 0, none⟩ 1 1 [.int .u8 (y : Int)] rfl rfl (World.news_of_block (heap_alloc_new w2 _)) (by simp [Value.oneCell']) hk1 hk2 hms1 ?_
            intro v' w1 hown' hgrow
            obtain ⟨g', cap', rfl⟩ := ownsRow_succ hown'
            obtain ⟨hv1, hv2, hr2, hko, hkb, hbl⟩ := put_appended hbx2 hrow2 hms hob hown' hgrow
            have hc1 := hv1.cell
            have hf1 := hv1.frozen
            refine hK _ _ ?_
            clear hK K
            refine wpAnyIn_ready (rs := [7]) (by kernel_rfl) (by simp) ?_
            refine AllReadyIn.cons rfl (fun K hK => ?_) AllReadyIn.nil
            go_simp
            refine hK _ _ ?_
            clear hK K
            refine wpAnyIn_done (by kernel_rfl) ?_ _
            gi_wp2
            go_roundw
            case rel => exact HEND.out _ _ hv2 hr2 hko hkb hbl
            case measure => simp [intOf]; omega
          · go_simp
            refine hK _ _ ?_
            clear hK K
            refine wpAnyIn_ready (rs := [1]) (by kernel_rfl) (by simp) ?_
            refine AllReadyIn.cons rfl (fun K hK => ?_) AllReadyIn.nil
            go_simp
            refine hK _ _ ?_
            clear hK K
            refine wpAnyIn_ready (rs := [3]) (by kernel_rfl) (by simp) ?_
            refine AllReadyIn.cons rfl (fun K hK => ?_) AllReadyIn.nil
            go_simp
            refine hK _ _ ?_
            clear hK K
            refine wpAnyIn_ready (rs := [4]) (by kernel_rfl) (by simp) ?_
            refine AllReadyIn.cons rfl (fun K hK => ?_) AllReadyIn.nil
            go_simp
            refine hK _ _ ?_
            clear hK K
            refine wpAnyIn_ready (rs := [5]) (by kernel_rfl) (by simp) ?_
            refine AllReadyIn.cons rfl (fun K hK => ?_) AllReadyIn.nil
            go_simp
            refine hK _ _ ?_
            clear hK K
            refine wpAnyIn_ready (rs := [6]) (by kernel_rfl) (by simp) ?_
            refine AllReadyIn.cons rfl (fun K hK => ?_) AllReadyIn.nil
            refine step_append_ownIn (w2.alloc (.cells #[.int .u8 (y : Int)] 5)) (by rfl) (.tmp 16) (.tmp 21) 45 rfl (w.heap.size + 2) 5 ti (.int .u8 0) 1 1 (by kernel_rfl) HT.out.1 HT.out.2.1 HT.out.2.2.1 HT.out.2.2.2 rfl (by decide) v kk cs rfl hrow1 ⟨w2.heap.size, 0, none⟩ 1 1 [.int .u8 (y : Int)] rfl rfl (World.news_of_block (heap_alloc_new w2 _)) (by simp [Value.oneCell']) hk1 hk2 hms1 ?_
            intro v' w1 hown' hgrow
            obtain ⟨g', cap', rfl⟩ := ownsRow_succ hown'
            obtain ⟨hv1, hv2, hr2, hko, hkb, hbl⟩ := put_appended hbx2 hrow2 hms hob hown' hgrow
            have hc1 := hv1.cell
            have hf1 := hv1.frozen
            refine hK _ _ ?_
            clear hK K
            refine wpAnyIn_ready (rs := [7]) (by kernel_rfl) (by simp) ?_
            refine AllReadyIn.cons rfl (fun K hK => ?_) AllReadyIn.nil
            go_simp
            refine hK _ _ ?_
            clear hK K
            refine wpAnyIn_done (by kernel_rfl) ?_ _
            gi_wp2
            go_roundw
            case rel => exact HEND.out _ _ hv2 hr2 hko hkb hbl
            case measure => simp [intOf]; omega
        · go_simp
          refine hK _ _ ?_
          clear hK K
          refine wpAnyIn_ready (rs := [0, 2]) (by kernel_rfl) (by simp) ?_
          refine AllReadyIn.cons rfl (fun K hK => ?_) (AllReadyIn.cons rfl (fun K hK => ?_) AllReadyIn.nil)
          · go_simp
            refine hK _ _ ?_
            clear hK K
            refine wpAnyIn_ready (rs := [2]) (by kernel_rfl) (by simp) ?_
            refine AllReadyIn.cons rfl (fun K hK => ?_) AllReadyIn.nil
            go_simp
            refine hK _ _ ?_
            clear hK K
            refine wpAnyIn_ready (rs := [3]) (by kernel_rfl) (by simp) ?_
            refine AllReadyIn.cons rfl (fun K hK => ?_) AllReadyIn.nil
            go_simp
            refine hK _ _ ?_
            clear hK K
            refine wpAnyIn_ready (rs := [4]) (by kernel_rfl) (by simp) ?_
            refine AllReadyIn.cons rfl (fun K hK => ?_) AllReadyIn.nil
            go_simp
            refine hK _ _ ?_
            clear hK K
            refine wpAnyIn_ready (rs := [5]) (by kernel_rfl) (by simp) ?_
            refine AllReadyIn.cons rfl (fun K hK => ?_) AllReadyIn.nil
            go_simp
            refine hK _ _ ?_
            clear hK K
            refine wpAnyIn_ready (rs := [6]) (by kernel_rfl) (by simp) ?_
            refine AllReadyIn.cons rfl (fun K hK => ?_) AllReadyIn.nil
            refine step_append_ownIn (w2.alloc (.cells #[.int .u8 (y : Int)] 5)) (by rfl) (.tmp 16) (.tmp 21) 45 rfl (w.heap.size + 2) 5 ti (.int .u8 0) 1 1 (by kernel_rfl) HT.out.1 HT.out.2.1 HT.out.2.2.1 HT.out.2.2.2 rfl (by decide) v kk cs rfl hrow1 ⟨w2.heap.size, 0, none⟩ 1 1 [.int .u8 (y : Int)] rfl rfl (World.news_of_block (heap_alloc_new w2 _)) (by simp [Value.oneCell']) hk1 hk2 hms1 ?_
            intro v' w1 hown' hgrow
            obtain ⟨g', cap', rfl⟩ := ownsRow_succ hown'
            obtain ⟨hv1, hv2, hr2, hko, hkb, hbl⟩ := put_appended hbx2 hrow2 hms hob hown' hgrow
            have hc1 := hv1.cell
            have hf1 := hv1.frozen
            refine hK _ _ ?_
            clear hK K
            refine wpAnyIn_ready (rs := [7]) (by kernel_rfl) (by simp) ?_
            refine AllReadyIn.cons rfl (fun K hK => ?_) AllReadyIn.nil
            go_simp
            refine hK _ _ ?_
            clear hK K
            refine wpAnyIn_done (by kernel_rfl) ?_ _
            gi_wp2
            go_roundw
            case rel => exact HEND.out _ _ hv2 hr2 hko hkb hbl
            case measure => simp [intOf]; omega
          · go_simp
            refine hK _ _ ?_
            clear hK K
            refine wpAnyIn_ready (rs := [0, 3]) (by kernel_rfl) (by simp) ?_
            refine AllReadyIn.cons rfl (fun K hK => ?_) (AllReadyIn.cons rfl (fun K hK => ?_) AllReadyIn.nil)
            · go_simp
              refine hK _ _ ?_
              clear hK K
              refine wpAnyIn_ready (rs := [3]) (by kernel_rfl) (by simp) ?_
              refine AllReadyIn.cons rfl (fun K hK => ?_) AllReadyIn.nil
              go_simp
              refine hK _ _ ?_
              clear hK K
              refine wpAnyIn_ready (rs := [4]) (by kernel_rfl) (by simp) ?_
              refine AllReadyIn.cons rfl (fun K hK => ?_) AllReadyIn.nil
              go_simp
              refine hK _ _ ?_
              clear hK K
              refine wpAnyIn_ready (rs := [5]) (by kernel_rfl) (by simp) ?_
              refine AllReadyIn.cons rfl (fun K hK => ?_) AllReadyIn.nil
              go_simp
              refine hK _ _ ?_
              clear hK K
              refine wpAnyIn_ready (rs := [6]) (by kernel_rfl) (by simp) ?_
              refine AllReadyIn.cons rfl (fun K hK => ?_) AllReadyIn.nil
              refine step_append_ownIn (w2.alloc (.cells #[.int .u8 (y : Int)] 5)) (by rfl) (.tmp 16) (.tmp 21) 45 rfl (w.heap.size + 2) 5 ti (.int .u8 0) 1 1 (by kernel_rfl) HT.out.1 HT.out.2.1 HT.out.2.2.1 HT.out.2.2.2 rfl (by decide) v kk cs rfl hrow1 ⟨w2.heap.size, 0, none⟩ 1 1 [.int .u8 (y : Int)] rfl rfl (World.news_of_block (heap_alloc_new w2 _)) (by simp [Value.oneCell']) hk1 hk2 hms1 ?_
              intro v' w1 hown' hgrow
              obtain ⟨g', cap', rfl⟩ := ownsRow_succ hown'
              obtain ⟨hv1, hv2, hr2, hko, hkb, hbl⟩ := put_appended hbx2 hrow2 hms hob hown' hgrow
              have hc1 := hv1.cell
              have hf1 := hv1.frozen
              refine hK _ _ ?_
              clear hK K
              refine wpAnyIn_ready (rs := [7]) (by kernel_rfl) (by simp) ?_
              refine AllReadyIn.cons rfl (fun K hK => ?_) AllReadyIn.nil
              go_simp
              refine hK _ _ ?_
              clear hK K
              refine wpAnyIn_done (by kernel_rfl) ?_ _
              gi_wp2
              go_roundw
              case rel => exact HEND.out _ _ hv2 hr2 hko hkb hbl
              case measure => simp [intOf]; omega
            · go_simp
              refine hK _ _ ?_
              clear hK K
              refine wpAnyIn_ready (rs := [0, 4]) (by kernel_rfl) (by simp) ?_
              refine AllReadyIn.cons rfl (fun K hK => ?_) (AllReadyIn.cons rfl (fun K hK => ?_) AllReadyIn.nil)
              · go_simp
                refine hK _ _ ?_
                clear hK K
                refine wpAnyIn_ready (rs := [4]) (by kernel_rfl) (by simp) ?_
                refine AllReadyIn.cons rfl (fun K hK => ?_) AllReadyIn.nil
                go_simp
                refine hK _ _ ?_
                clear hK K
                refine wpAnyIn_ready (rs := [5]) (by kernel_rfl) (by simp) ?_
                refine AllReadyIn.cons rfl (fun K hK => ?_) AllReadyIn.nil
                go_simp
                refine hK _ _ ?_
                clear hK K
                refine wpAnyIn_ready (rs := [6]) (by kernel_rfl) (by simp) ?_
                refine AllReadyIn.cons rfl (fun K hK => ?_) AllReadyIn.nil
                refine step_append_ownIn (w2.alloc (.cells #[.int .u8 (y : Int)] 5)) (by rfl) (.tmp 16) (.tmp 21) 45 rfl (w.heap.size + 2) 5 ti (.int .u8 0) 1 1 (by kernel_rfl) HT.out.1 HT.out.2.1 HT.out.2.2.1 HT.out.2.2.2 rfl (by decide) v kk cs rfl hrow1 ⟨w2.heap.size, 0, none⟩ 1 1 [.int .u8 (y : Int)] rfl rfl (World.news_of_block (heap_alloc_new w2 _)) (by simp [Value.oneCell']) hk1 hk2 hms1 ?_
                intro v' w1 hown' hgrow
                obtain ⟨g', cap', rfl⟩ := ownsRow_succ hown'
                obtain ⟨hv1, hv2, hr2, hko, hkb, hbl⟩ := put_appended hbx2 hrow2 hms hob hown' hgrow
                have hc1 := hv1.cell
                have hf1 := hv1.frozen
                refine hK _ _ ?_
                clear hK K
                refine wpAnyIn_ready (rs := [7]) (by kernel_rfl) (by simp) ?_
                refine AllReadyIn.cons rfl (fun K hK => ?_) AllReadyIn.nil
                go_simp
                refine hK _ _ ?_
                clear hK K
                refine wpAnyIn_done (by kernel_rfl) ?_ _
                gi_wp2
                go_roundw
                case rel => exact HEND.out _ _ hv2 hr2 hko hkb hbl
                case measure => simp [intOf]; omega
              · go_simp
                refine hK _ _ ?_
                clear hK K
                refine wpAnyIn_ready (rs := [0, 5]) (by kernel_rfl) (by simp) ?_
                refine AllReadyIn.cons rfl (fun K hK => ?_) (AllReadyIn.cons rfl (fun K hK => ?_) AllReadyIn.nil)
                · go_simp
                  refine hK _ _ ?_
                  clear hK K
                  refine wpAnyIn_ready (rs := [5]) (by kernel_rfl) (by simp) ?_
                  refine AllReadyIn.cons rfl (fun K hK => ?_) AllReadyIn.nil
                  go_simp
                  refine hK _ _ ?_
                  clear hK K
                  refine wpAnyIn_ready (rs := [6]) (by kernel_rfl) (by simp) ?_
                  refine AllReadyIn.cons rfl (fun K hK => ?_) AllReadyIn.nil
                  refine step_append_ownIn (w2.alloc (.cells #[.int .u8 (y : Int)] 5)) (by rfl) (.tmp 16) (.tmp 21) 45 rfl (w.heap.size + 2) 5 ti (.int .u8 0) 1 1 (by kernel_rfl) HT.out.1 HT.out.2.1 HT.out.2.2.1 HT.out.2.2.2 rfl (by decide) v kk cs rfl hrow1 ⟨w2.heap.size, 0, none⟩ 1 1 [.int .u8 (y : Int)] rfl rfl (World.news_of_block (heap_alloc_new w2 _)) (by simp [Value.oneCell']) hk1 hk2 hms1 ?_
                  intro v' w1 hown' hgrow
                  obtain ⟨g', cap', rfl⟩ := ownsRow_succ hown'
                  obtain ⟨hv1, hv2, hr2, hko, hkb, hbl⟩ := put_appended hbx2 hrow2 hms hob hown' hgrow
                  have hc1 := hv1.cell
                  have hf1 := hv1.frozen
                  refine hK _ _ ?_
                  clear hK K
                  refine wpAnyIn_ready (rs := [7]) (by kernel_rfl) (by simp) ?_
                  refine AllReadyIn.cons rfl (fun K hK => ?_) AllReadyIn.nil
                  go_simp
                  refine hK _ _ ?_
                  clear hK K
                  refine wpAnyIn_done (by kernel_rfl) ?_ _
                  gi_wp2
                  go_roundw
                  case rel => exact HEND.out _ _ hv2 hr2 hko hkb hbl
                  case measure => simp [intOf]; omega
                · go_simp
                  refine hK _ _ ?_
                  clear hK K
                  refine wpAnyIn_ready (rs := [0]) (by kernel_rfl) (by simp) ?_
                  refine AllReadyIn.cons rfl (fun K hK => ?_) AllReadyIn.nil
                  go_simp
                  refine hK _ _ ?_
                  clear hK K
                  refine wpAnyIn_ready (rs := [6]) (by kernel_rfl) (by simp) ?_
                  refine AllReadyIn.cons rfl (fun K hK => ?_) AllReadyIn.nil
                  refine step_append_ownIn (w2.alloc (.cells #[.int .u8 (y : Int)] 5)) (by rfl) (.tmp 16) (.tmp 21) 45 rfl (w.heap.size + 2) 5 ti (.int .u8 0) 1 1 (by kernel_rfl) HT.out.1 HT.out.2.1 HT.out.2.2.1 HT.out.2.2.2 rfl (by decide) v kk cs rfl hrow1 ⟨w2.heap.size, 0, none⟩ 1 1 [.int .u8 (y : Int)] rfl rfl (World.news_of_block (heap_alloc_new w2 _)) (by simp [Value.oneCell']) hk1 hk2 hms1 ?_
                  intro v' w1 hown' hgrow
                  obtain ⟨g', cap', rfl⟩ := ownsRow_succ hown'
                  obtain ⟨hv1, hv2, hr2, hko, hkb, hbl⟩ := put_appended hbx2 hrow2 hms hob hown' hgrow
                  have hc1 := hv1.cell
                  have hf1 := hv1.frozen
                  refine hK _ _ ?_
                  clear hK K
                  refine wpAnyIn_ready (rs := [7]) (by kernel_rfl) (by simp) ?_
                  refine AllReadyIn.cons rfl (fun K hK => ?_) AllReadyIn.nil
                  go_simp
                  refine hK _ _ ?_
                  clear hK K
                  refine wpAnyIn_done (by kernel_rfl) ?_ _
                  gi_wp2
                  go_roundw
                  case rel => exact HEND.out _ _ hv2 hr2 hko hkb hbl
                  case measure => simp [intOf]; omega
        · go_simp
          refine hK _ _ ?_
          clear hK K
          refine wpAnyIn_ready (rs := [0, 1]) (by kernel_rfl) (by simp) ?_
          refine AllReadyIn.cons rfl (fun K hK => ?_) (AllReadyIn.cons rfl (fun K hK => ?_) AllReadyIn.nil)
          · go_simp
            refine hK _ _ ?_
            clear hK K
            refine wpAnyIn_ready (rs := [1]) (by kernel_rfl) (by simp) ?_
            refine AllReadyIn.cons rfl (fun K hK => ?_) AllReadyIn.nil
            go_simp
            refine hK _ _ ?_
            clear hK K
            refine wpAnyIn_ready (rs := [3]) (by kernel_rfl) (by simp) ?_
            refine AllReadyIn.cons rfl (fun K hK => ?_) AllReadyIn.nil
            go_simp
            refine hK _ _ ?_
            clear hK K
            refine wpAnyIn_ready (rs := [4]) (by kernel_rfl) (by simp) ?_
            refine AllReadyIn.cons rfl (fun K hK => ?_) AllReadyIn.nil
            go_simp
            refine hK _ _ ?_
            clear hK K
            refine wpAnyIn_ready (rs := [5]) (by kernel_rfl) (by simp) ?_
            refine AllReadyIn.cons rfl (fun K hK => ?_) AllReadyIn.nil
            go_simp
            refine hK _ _ ?_
            clear hK K
            refine wpAnyIn_ready (rs := [6]) (by kernel_rfl) (by simp) ?_
            refine AllReadyIn.cons rfl (fun K hK => ?_) AllReadyIn.nil
            refine step_append_ownIn (w2.alloc (.cells #[.int .u8 (y : Int)] 5)) (by rfl) (.tmp 16) (.tmp 21) 45 rfl (w.heap.size + 2) 5 ti (.int .u8 0) 1 1 (by kernel_rfl) HT.out.1 HT.out.2.1 HT.out.2.2.1 HT.out.2.2.2 rfl (by decide) v kk cs rfl hrow1 ⟨w2.heap.size, 0, none⟩ 1 1 [.int .u8 (y : Int)] rfl rfl (World.news_of_block (heap_alloc_new w2 _)) (by simp [Value.oneCell']) hk1 hk2 hms1 ?_
            intro v' w1 hown' hgrow
            obtain ⟨g', cap', rfl⟩ := ownsRow_succ hown'
            obtain ⟨hv1, hv2, hr2, hko, hkb, hbl⟩ := put_appended hbx2 hrow2 hms hob hown' hgrow
            have hc1 := hv1.cell
            have hf1 := hv1.frozen
            refine hK _ _ ?_
            clear hK K
            refine wpAnyIn_ready (rs := [7]) (by kernel_rfl) (by simp) ?_
            refine AllReadyIn.cons rfl (fun K hK => ?_) AllReadyIn.nil
            go_simp
            refine hK _ _ ?_
            clear hK K
            refine wpAnyIn_done (by kernel_rfl) ?_ _
            gi_wp2
            go_roundw
            case rel => exact HEND.out _ _ hv2 hr2 hko hkb hbl
            case measure => simp [intOf]; omega
          · go_simp
            refine hK _ _ ?_
            clear hK K
            refine wpAnyIn_ready (rs := [0, 3]) (by kernel_rfl) (by simp) ?_
            refine AllReadyIn.cons rfl (fun K hK => ?_) (AllReadyIn.cons rfl (fun K hK => ?_) AllReadyIn.nil)
            · go_simp
              refine hK _ _ ?_
              clear hK K
              refine wpAnyIn_ready (rs := [3]) (by kernel_rfl) (by simp) ?_
              refine AllReadyIn.cons rfl (fun K hK => ?_) AllReadyIn.nil
              go_simp
              refine hK _ _ ?_
              clear hK K
              refine wpAnyIn_ready (rs := [4]) (by kernel_rfl) (by simp) ?_
              refine AllReadyIn.cons rfl (fun K hK => ?_) AllReadyIn.nil
              go_simp
              refine hK _ _ ?_
              clear hK K
              refine wpAnyIn_ready (rs := [5]) (by kernel_rfl) (by simp) ?_
              refine AllReadyIn.cons rfl (fun K hK => ?_) AllReadyIn.nil
              go_simp
              refine hK _ _ ?_
              clear hK K
              refine wpAnyIn_ready (rs := [6]) (by kernel_rfl) (by simp) ?_
              refine AllReadyIn.cons rfl (fun K hK => ?_) AllReadyIn.nil
              refine step_append_ownIn (w2.alloc (.cells #[.int .u8 (y : Int)] 5)) (by rfl) (.tmp 16) (.tmp 21) 45 rfl (w.heap.size + 2) 5 ti (.int .u8 0) 1 1 (by kernel_rfl) HT.out.1 HT.out.2.1 HT.out.2.2.1 HT.out.2.2.2 rfl (by decide) v kk cs rfl hrow1 ⟨w2.heap.size, 0, none⟩ 1 1 [.int .u8 (y : Int)] rfl rfl (World.news_of_block (heap_alloc_new w2 _)) (by simp [Value.oneCell']) hk1 hk2 hms1 ?_
              intro v' w1 hown' hgrow
              obtain ⟨g', cap', rfl⟩ := ownsRow_succ hown'
              obtain ⟨hv1, hv2, hr2, hko, hkb, hbl⟩ := put_appended hbx2 hrow2 hms hob hown' hgrow
              have hc1 := hv1.cell
              have hf1 := hv1.frozen
              refine hK _ _ ?_
              clear hK K
              refine wpAnyIn_ready (rs := [7]) (by kernel_rfl) (by simp) ?_
              refine AllReadyIn.cons rfl (fun K hK => ?_) AllReadyIn.nil
              go_simp
              refine hK _ _ ?_
              clear hK K
              refine wpAnyIn_done (by kernel_rfl) ?_ _
              gi_wp2
              go_roundw
              case rel => exact HEND.out _ _ hv2 hr2 hko hkb hbl
              case measure => simp [intOf]; omega
            · go_simp
              refine hK _ _ ?_
              clear hK K
              refine wpAnyIn_ready (rs := [0, 4]) (by kernel_rfl) (by simp) ?_
              refine AllReadyIn.cons rfl (fun K hK => ?_) (AllReadyIn.cons rfl (fun K hK => ?_) AllReadyIn.nil)
              · go_simp
                refine hK _ _ ?_
                clear hK K
                refine wpAnyIn_ready (rs := [4]) (by kernel_rfl) (by simp) ?_
                refine AllReadyIn.cons rfl (fun K hK => ?_) AllReadyIn.nil
                go_simp
                refine hK _ _ ?_
                clear hK K
                refine wpAnyIn_ready (rs := [5]) (by kernel_rfl) (by simp) ?_
                refine AllReadyIn.cons rfl (fun K hK => ?_) AllReadyIn.nil
                go_simp
                refine hK _ _ ?_
                clear hK K
                refine wpAnyIn_ready (rs := [6]) (by kernel_rfl) (by simp) ?_
                refine AllReadyIn.cons rfl (fun K hK => ?_) AllReadyIn.nil
                refine step_append_ownIn (w2.alloc (.cells #[.int .u8 (y : Int)] 5)) (by rfl) (.tmp 16) (.tmp 21) 45 rfl (w.heap.size + 2) 5 ti (.int .u8 0) 1 1 (by kernel_rfl) HT.out.1 HT.out.2.1 HT.out.2.2.1 HT.out.2.2.2 rfl (by decide) v kk cs rfl hrow1 ⟨w2.heap.size, 0, none⟩ 1 1 [.int .u8 (y : Int)] rfl rfl (World.news_of_block (heap_alloc_new w2 _)) (by simp [Value.oneCell']) hk1 hk2 hms1 ?_
                intro v' w1 hown' hgrow
                obtain ⟨g', cap', rfl⟩ := ownsRow_succ hown'
                obtain ⟨hv1, hv2, hr2, hko, hkb, hbl⟩ := put_appended hbx2 hrow2 hms hob hown' hgrow
                have hc1 := hv1.cell
                have hf1 := hv1.frozen
                refine hK _ _ ?_
                clear hK K
                refine wpAnyIn_ready (rs := [7]) (by kernel_rfl) (by simp) ?_
                refine AllReadyIn.cons rfl (fun K hK => ?_) AllReadyIn.nil
                go_simp
                refine hK _ _ ?_
                clear hK K
                refine wpAnyIn_done (by kernel_rfl) ?_ _
                gi_wp2
                go_roundw
                case rel => exact HEND.out _ _ hv2 hr2 hko hkb hbl
                case measure => simp [intOf]; omega
              · go_simp
                refine hK _ _ ?_
                clear hK K
                refine wpAnyIn_ready (rs := [0, 5]) (by kernel_rfl) (by simp) ?_
                refine AllReadyIn.cons rfl (fun K hK => ?_) (AllReadyIn.cons rfl (fun K hK => ?_) AllReadyIn.nil)
                · go_simp
                  refine hK _ _ ?_
                  clear hK K
                  refine wpAnyIn_ready (rs := [5]) (by kernel_rfl) (by simp) ?_
                  refine AllReadyIn.cons rfl (fun K hK => ?_) AllReadyIn.nil
                  go_simp
                  refine hK _ _ ?_
                  clear hK K
                  refine wpAnyIn_ready (rs := [6]) (by kernel_rfl) (by simp) ?_
                  refine AllReadyIn.cons rfl (fun K hK => ?_) AllReadyIn.nil
                  refine step_append_ownIn (w2.alloc (.cells #[.int .u8 (y : Int)] 5)) (by rfl) (.tmp 16) (.tmp 21) 45 rfl (w.heap.size + 2) 5 ti (.int .u8 0) 1 1 (by kernel_rfl) HT.out.1 HT.out.2.1 HT.out.2.2.1 HT.out.2.2.2 rfl (by decide) v kk cs rfl hrow1 ⟨w2.heap.size, 0, none⟩ 1 1 [.int .u8 (y : Int)] rfl rfl (World.news_of_block (heap_alloc_new w2 _)) (by simp [Value.oneCell']) hk1 hk2 hms1 ?_
                  intro v' w1 hown' hgrow
                  obtain ⟨g', cap', rfl⟩ := ownsRow_succ hown'
                  obtain ⟨hv1, hv2, hr2, hko, hkb, hbl⟩ := put_appended hbx2 hrow2 hms hob hown' hgrow
                  have hc1 := hv1.cell
                  have hf1 := hv1.frozen
                  refine hK _ _ ?_
                  clear hK K
                  refine wpAnyIn_ready (rs := [7]) (by kernel_rfl) (by simp) ?_
                  refine AllReadyIn.cons rfl (fun K hK => ?_) AllReadyIn.nil
                  go_simp
                  refine hK _ _ ?_
                  clear hK K
                  refine wpAnyIn_done (by kernel_rfl) ?_ _
                  gi_wp2
                  go_roundw
                  case rel => exact HEND.out _ _ hv2 hr2 hko hkb hbl
                  case measure => simp [intOf]; omega
                · go_simp
                  refine hK _ _ ?_
                  clear hK K
                  refine wpAnyIn_ready (rs := [0]) (by kernel_rfl) (by simp) ?_
                  refine AllReadyIn.cons rfl (fun K hK => ?_) AllReadyIn.nil
                  go_simp
                  refine hK _ _ ?_
                  clear hK K
                  refine wpAnyIn_ready (rs := [6]) (by kernel_rfl) (by simp) ?_
                  refine AllReadyIn.cons rfl (fun K hK => ?_) AllReadyIn.nil
                  refine step_append_ownIn (w2.alloc (.cells #[.int .u8 (y : Int)] 5)) (by rfl) (.tmp 16) (.tmp 21) 45 rfl (w.heap.size + 2) 5 ti (.int .u8 0) 1 1 (by kernel_rfl) HT.out.1 HT.out.2.1 HT.out.2.2.1 HT.out.2.2.2 rfl (by decide) v kk cs rfl hrow1 ⟨w2.heap.size, 0, none⟩ 1 1 [.int .u8 (y : Int)] rfl rfl (World.news_of_block (heap_alloc_new w2 _)) (by simp [Value.oneCell']) hk1 hk2 hms1 ?_
                  intro v' w1 hown' hgrow
                  obtain ⟨g', cap', rfl⟩ := ownsRow_succ hown'
                  obtain ⟨hv1, hv2, hr2, hko, hkb, hbl⟩ := put_appended hbx2 hrow2 hms hob hown' hgrow
                  have hc1 := hv1.cell
                  have hf1 := hv1.frozen
                  refine hK _ _ ?_
                  clear hK K
                  refine wpAnyIn_ready (rs := [7]) (by kernel_rfl) (by simp) ?_
                  refine AllReadyIn.cons rfl (fun K hK => ?_) AllReadyIn.nil
                  go_simp
                  refine hK _ _ ?_
                  clear hK K
                  refine wpAnyIn_done (by kernel_rfl) ?_ _
                  gi_wp2
                  go_roundw
                  case rel => exact HEND.out _ _ hv2 hr2 hko hkb hbl
                  case measure => simp [intOf]; omega
      · obtain rfl : j = 8 := by omega
        gi_wp2
        refine ⟨hko0, hkb0, ⟨⟨v, hbx, ?_, trivial⟩, hbe, Nat.le_trans hmW hko0.size⟩⟩
        rw [bytesOf_snoc, List.length_append, xbytes_length]
        exact hrow
  case done =>
    rintro D ys W hD rfl ⟨⟨v, hbx, hrow, _⟩, hbe, _⟩ hK
    have hc1 := hbx.cell
    have hlen := bytesOf_length (bkws xs na na)
    rw [bytesOf_PL xs na na (Nat.le_refl _)] at hrow hlen
    rw [bkws_length] at hlen
    have hconv : (convert 45 9 v).run Try.prog W = .ok (.string (strN (PL xs na (8 * na)))) W := by
      rw [hlen] at hrow
      rcases hrow.2 with ⟨rfl, h0⟩ | ⟨g, cap, cur, rfl, _⟩
      · have hz : na = 0 := by omega
        subst hz
        exact run_convert_bytes_nil (P := Try.prog) W 45 5 (by kernel_rfl) (by kernel_rfl) 0 0 9 (by kernel_rfl)
      · exact conv_rowN hrow
    gi_wp2
    refine ⟨by simp, .inl ⟨_, _, rfl, run_takeDeferred hK, ?_⟩⟩
    exact ⟨_, results_tmp rfl _ _ _, rfl, hbe.trans (belowK_b (w := w) (Nat.le_refl _) W D _ _ (by omega) hK rfl rfl)⟩
  case stop =>
    rintro D c pre W _ _ h _
    exact h.elim
theorem put_any (A : Option Addr) (n c na : Nat) (xs : List Nat) (w : World) (hn : n ≤ c) (hc : c ≤ maxLen) (e : min n 16 = na) (hx : xs.length = na) (ox : Ok xs) (sx : Sl w .u64 A xs) :
    Calls Try.prog 19 #[.slice A n c] w fun e w' => e = .returned (.string (strN (PL xs na (8 * na)))) ∧ Below w.heap.size w w' :=
  callsIn_wide.1 (put_in A n c na xs w hn hc e hx ox sx)
end Go.Proofs.Ytjcbbkkoheedpaa
