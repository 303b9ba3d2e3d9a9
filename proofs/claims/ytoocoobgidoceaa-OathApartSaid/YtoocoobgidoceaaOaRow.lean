import Derived.Test.YtoocoobgidoceaaNatAll
import Derived.Test.YtoocoobgidoceaaSpRow
import Derived.Test.YtoocoobgidoceaaOaAll
import Derived.Lib.SmallJoins
import Derived.WalkKit
import Derived.ProofKit
import Derived.OpenShut
import Derived.ShutString
import Derived.ChangeOld
import Derived.Below
namespace Go.Proofs.Ytoocoobgidoceaa
open Go.ChangeShapes Go.WideShapes Go.RowKit
set_option linter.unusedVariables false

/-- A transcript that came in. -/
theorem open_oath {H : Type} {enc : TypeId × Value → H} {W : World} {r : Reach} {b0 : Nat} {base : Nat} {held : Bool} {v : Value} {d : DataW H} {p : List MemPlace}
    (hv : Value.okWide Try.prog W r b0 24 v) (h : DataW.Trod enc Try.prog W base (fun _ => true) held 24 v d p) :
    ∃ (A : Option Addr) (n c : Nat) (asked : Int) (bs : List Nat), v = .agg #[.slice A n c, .int .i64 asked] ∧ bs.length = n ∧ Byt bs ∧ Sl W .u8 A bs ∧ n ≤ c ∧ c ≤ maxLen ∧ (Lit.int .i64 asked).wf = true := by
  obtain ⟨v0, v1, y0, y1, m, rfl, _, _, h0, h1⟩ := Go.Joins.open_agg2 Try.underlying24 (by kernel_rfl) (by kernel_rfl) hv h
  have h0' : DataW.trod enc Try.prog W base (fun _ => true) held m 22 [v0] = some y0 := h0
  have h1' : DataW.trod enc Try.prog W base (fun _ => true) held m 3 [v1] = some y1 := h1
  obtain ⟨z, hz1, hz2, hz3⟩ := DataW.trod_int Try.underlying3 h1'
  simp only [List.cons.injEq, and_true] at hz1
  subst hz1
  obtain ⟨A, n, c, zs, rfl, w0⟩ : ∃ A n c zs, v0 = .slice A n c ∧ IsRow .u8 W A n c zs := by
    rcases open_ints Try.underlying22 Try.underlying5 (by kernel_rfl) h0' with ⟨hcs, _⟩ | ⟨x, l, c, zs, hcs, _, hl, hm, hz, _, hcell, hwz⟩
    · simp at hcs
      exact ⟨none, 0, 0, [], hcs, .inl ⟨rfl, rfl, rfl, rfl⟩⟩
    · simp at hcs
      exact ⟨_, l, c, zs, hcs, .inr ⟨_, rfl, hl, hm, by simpa using hz, hcell, hwz⟩⟩
  obtain ⟨xs, hx, ox, sx, hn, hc⟩ := row_u8 w0
  exact ⟨A, n, c, z, xs, rfl, hx, ox, sx, hn, hc, hz3⟩
end Go.Proofs.Ytoocoobgidoceaa
