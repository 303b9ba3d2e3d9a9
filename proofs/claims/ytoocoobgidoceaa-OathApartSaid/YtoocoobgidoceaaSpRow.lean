import Derived.Test.YtoocoobgidoceaaNatAll
import Derived.OpenShut
import Derived.ProofKit
import Derived.ShutString
namespace Go.Proofs.Ytoocoobgidoceaa
open Go.ChangeShapes Go.WideShapes Go.RowKit
set_option linter.unusedVariables false

section
variable {H : Type} {enc : TypeId × Value → H} {P : Program}
/-- The kit's 'post_of_same', told by 'Below': what was there is as it was; new blocks may bear marks. -/
theorem post_old {f : Func} {s : ChangeSpec} {apart fresh handsOn again : Bool} {W W' : World} {args : Array Value} {v : Value} {ds gs : List (DataW H)} {before pa pv : List MemPlace}
    (hW : DataW.Whole enc P f.params.toList s.vars apart W args.toList ds gs before)
    (hres : ∀ (b : Nat) (sp : Nat → Bool) (hd : Bool), DataW.TrodAll enc P W' b sp hd f.resultTypes.toList (v.resultList f.resultTypes.size) (s.fn H (ds ++ gs)).results [])
    (hargs : ∀ sp : Nat → Bool, (∀ p ∈ before, sp p.block = true) → DataW.TrodAll enc P W' 0 sp true f.params.toList args.toList (s.fn H (ds ++ gs)).args pa)
    (hvars : ∀ sp : Nat → Bool, (∀ p ∈ before, sp p.block = true) → DataW.TrodVars enc P W' sp s.vars (s.fn H (ds ++ gs)).vars pv)
    (hps : before = pa ++ pv) (hb : Below W.heap.size W W')
    (hok : ∀ (j : Nat) (t : TypeId) (r : Value), f.resultTypes[j]? = some t → (v.resultList f.resultTypes.size)[j]? = some r → Value.okWide P W' .any 0 t r) :
    s.post enc P f apart fresh handsOn again W args v W' := by
  have hold : ∀ p ∈ before, (fun b => decide (b < W.heap.size)) p.block = true := fun p hp => by simpa using hW.lt p hp
  have hlt := hW.lt
  refine ⟨ds, gs, before, [], pa, pv, hW, hres _ _ _, hargs _ hold, hvars _ hold, hb.frame _, fun _ => ?_⟩
  obtain ⟨_, _, _, _, _, hz, hn⟩ := hW
  refine ⟨hok, _, _, ([] ++ pa) ++ pv, ⟨[] ++ pa, pv, trodAll_append (hargs _ (fun _ _ => rfl)) (hres _ _ _), hvars _ (fun _ _ => rfl), rfl, ?_, ?_⟩, ?_⟩
  · intro b off hp
    have hp' : MemPlace.cell b off ∈ before := by rw [hps]; simpa using hp
    rw [World.frozen?_of_block (a := ⟨b, off, none⟩) (hb.block b (hlt _ hp'))]
    exact hz b off hp'
  · intro ha
    have := hn ha
    rw [hps] at this
    simpa using this
  · intro p hp _
    rw [hps]
    simpa using hp

def intVal : Value → Int
  | .int _ z => z
  | _ => 0
/-- An array of integers, by value, opened; it reads so in whatever world. -/
theorem open_arr {w : World} {r : Reach} {b0 base : Nat} {sp : Nat → Bool} {held : Bool} {t e : TypeId} {n : Nat} {k : IntKind} {v : Value} {d : DataW H} {p : List MemPlace}
    (ht : P.underlying t = some (.array n e)) (he : P.underlying e = some (.int k)) (hce : P.cellsOf e = 1) (hct : P.cellsOf t = n)
    (hv : Value.okWide P w r b0 t v) (h : DataW.Trod enc P w base sp held t v d p) :
    ∃ zs : List Int, zs.length = n ∧ v = .agg (zs.map fun z => Value.int k z).toArray ∧ p = [] ∧ (∀ z ∈ zs, (Lit.int k z).wf = true) ∧
      ∀ (w' : World) (base' : Nat) (sp' : Nat → Bool) (held' : Bool), DataW.Trod enc P w' base' sp' held' t v d [] := by
  simp only [Value.okWide, ht] at hv
  obtain ⟨cs, rfl, hsz, _⟩ := hv
  obtain ⟨fuel, hf⟩ := h
  obtain ⟨xs, m, rfl, hx, hl, hn, hi⟩ := DataW.trod_array ht hf
  have hcs : cs.size = n := by rw [hsz, hct]
  have hcells : (Value.agg cs).cells = cs := rfl
  rw [hcells] at hi hl hf
  have key : ∀ i, i < n → ∃ z : Int, cs[i]? = some (.int k z) ∧ (Lit.int k z).wf = true ∧ xs[i]? = some (.lit (.int k z), []) := by
    intro i hin
    have h1 := hi i hin
    rw [hce, Nat.mul_one] at h1
    have hget : (cs.toList.drop i).take 1 = [cs[i]'(by omega)] := by
      rw [List.drop_eq_getElem_cons (by simp; omega)]
      simp
    rw [hget] at h1
    have hxi : xs[i]? = some (xs[i]'(by omega)) := List.getElem?_eq_getElem (by omega)
    rw [hxi] at h1
    obtain ⟨z, hz1, hz2, hz3⟩ := DataW.trod_int he h1
    simp only [List.cons.injEq, and_true] at hz1
    exact ⟨z, by rw [Array.getElem?_eq_getElem (by omega), hz1], hz3, by rw [hxi, hz2]⟩
  have hm : 0 < n → ∃ m', m = m' + 1 := by
    intro h0
    have h1 := hi 0 h0
    cases m with
    | zero => rw [List.getElem?_eq_getElem (by omega)] at h1; simp [DataW.trod] at h1
    | succ m' => exact ⟨m', rfl⟩
  have hp0 : xs.flatMap (·.2) = [] := by
    rw [List.flatMap_eq_nil_iff]
    intro x hxm
    obtain ⟨i, hil, rfl⟩ := List.mem_iff_getElem.1 hxm
    obtain ⟨z, _, _, h3⟩ := key i (by omega)
    rw [List.getElem?_eq_getElem hil] at h3
    injection h3 with h3
    rw [h3]
  simp only [Prod.mk.injEq] at hx
  refine ⟨(List.range n).map fun i => intVal (cs[i]?.getD undef), by simp, ?_, by rw [hx.2, hp0], ?_, ?_⟩
  · congr 1
    apply Array.ext'
    apply List.ext_getElem?
    intro i
    rcases Nat.lt_or_ge i n with hin | hin
    · obtain ⟨z, h1, _, _⟩ := key i hin
      simp [List.getElem?_map, List.getElem?_range hin, h1, intVal]
    · rw [List.getElem?_eq_none (by simp; omega), List.getElem?_eq_none (by simp; omega)]
  · intro z hz
    obtain ⟨i, hir, rfl⟩ := List.mem_map.1 hz
    obtain ⟨z', h1, h2, _⟩ := key i (List.mem_range.1 hir)
    rw [h1]
    exact h2
  · intro w' base' sp' held'
    refine ⟨m + 1, ?_⟩
    show DataW.trod enc P w' base' sp' held' (m + 1) t cs.toList = some (d, [])
    unfold DataW.trod
    rw [ht]
    have e1 : (List.range n).mapM (fun i => DataW.trod enc P w' base' sp' held' m e ((cs.toList.drop (i * P.cellsOf e)).take (P.cellsOf e))) = some xs := by
      have : ∀ (ys : List Nat) (zs : List (DataW H × List MemPlace)), ys.length = zs.length → (∀ j, (h1 : j < ys.length) → DataW.trod enc P w' base' sp' held' m e ((cs.toList.drop (ys[j] * P.cellsOf e)).take (P.cellsOf e)) = zs[j]?) →
          ys.mapM (fun i => DataW.trod enc P w' base' sp' held' m e ((cs.toList.drop (i * P.cellsOf e)).take (P.cellsOf e))) = some zs := by
        intro ys
        induction ys with
        | nil => intro zs hl _; cases zs with
          | nil => rfl
          | cons _ _ => simp at hl
        | cons y ys ih =>
          intro zs hl hz
          cases zs with
          | nil => simp at hl
          | cons z zs =>
            have h0 := hz 0 (by simp)
            simp only [List.getElem_cons_zero, List.getElem?_cons_zero] at h0
            have h2 := ih zs (by simpa using hl) (fun j hj => hz (j + 1) (Nat.succ_lt_succ hj))
            rw [List.mapM_cons, h0, h2]
            rfl
      refine this _ xs (by simp [hn]) fun j hj => ?_
      have hjn : j < n := by simpa using hj
      obtain ⟨z, h1, h2, h3⟩ := key j hjn
      obtain ⟨m', rfl⟩ := hm (by omega)
      rw [h3, hce, Nat.mul_one]
      simp only [List.getElem_range]
      have hget : (cs.toList.drop j).take 1 = [.int k z] := by
        rw [List.drop_eq_getElem_cons (by simp; omega)]
        have : cs[j]'(by omega) = .int k z := by rw [Array.getElem?_eq_getElem (by omega)] at h1; injection h1
        simp [this]
      rw [hget]
      simp [DataW.trod, he, h2]
    split <;> simp_all
    exact hp0
end
/-- Numbers that fit 64 bits, as naturals. -/
theorem arr_nat {zs : List Int} {n : Nat} (hz : zs.length = n) (hw : ∀ z ∈ zs, (Lit.int .u64 z).wf = true) : ∃ xs : List Nat, xs.length = n ∧ Ok xs ∧ (zs.map fun z => Value.int .u64 z).toArray = lim .u64 xs := by
  refine ⟨zs.map Int.toNat, by rw [List.length_map, hz], ?_, ?_⟩
  · intro x hx
    obtain ⟨z, hzm, rfl⟩ := List.mem_map.1 hx
    have := bounds_u64 (hw z hzm)
    omega
  · unfold lim
    rw [List.map_map]
    congr 1
    apply List.map_congr_left
    intro z hzm
    have := bounds_u64 (hw z hzm)
    show Value.int .u64 z = Value.int .u64 ((z.toNat : Nat) : Int)
    rw [Int.toNat_of_nonneg this.1]
end Go.Proofs.Ytoocoobgidoceaa
