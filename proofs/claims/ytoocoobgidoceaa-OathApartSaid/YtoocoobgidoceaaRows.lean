/-
  No cell of these rows narrows 'for every input' (looked for: loops, veiled, ifaces, maps, wideKeys, modest, calm, conditions, laid).
  DERIVED. THE GIVEN ROWS OF THIS SEAT. 4 by the template 'for every input the law returns true; each argument reads behind the call as it read before'; 0 by the template 'total and deterministic' (their statements: YtoocoobgidoceaaTotals.lean).
  GIVEN WITH THE SEED: the statements are not yours to turn. If you find one false, say at which input.
  Laid BY PROGRAM, IN A SANDBOX (cutbox-rows.mjs): the forced cells as the released guide's own fill.sh prints them over the translation 502fc2556dbc1d37… (all of the seat's roots in one cut). By AI agents, Wed Nov 11 2026. No macro, syntax, notation, axiom, sorry.
-/
import Derived.Test.YtoocoobgidoceaaChecked
import GoSem.Claim
import GoSem.ClaimJoined
import GoSem.ClaimMapViews
import Derived.JoinedTies
import Derived.KernelRfl
namespace Go.Proofs.Ytoocoobgidoceaa
/- THE CELL 'sum', in the pinned program and in every row, IS THE sha256 OF THE DUMP (.gsa) THAT YtoocoobgidoceaaProg.lean LOADS. Nothing in Lean hashes anything: it is a label: what it is worth is what the hold of that sum in a sandbox is worth. -/
noncomputable def Try.pinned : Pinned := { name := "ytoocoobgidoceaa", sum := "502fc2556dbc1d37f2b29c60e5e16015365ec91b0ce3cdc5752e2b7b7941ba73", checked := Try.checked }
namespace Rows
def none {H : Type} : Left H := { results := [], args := [] }

/-- 'chirographlaw14.OathSays': WHATEVER THE INPUT: true; the input reads as it did. -/
def oathSaysSpec : ChangeSpec := { name := "oathSays", fn := fun _ => fun
  | [d1, d2, d3] => { results := [.lit (.bool true)], args := [d1, d2, d3] }
  | _ => none }
def oathSaysRow : OpenClaim := { program := "ytoocoobgidoceaa", sum := "502fc2556dbc1d37f2b29c60e5e16015365ec91b0ce3cdc5752e2b7b7941ba73", func := "chirograph/chirographlaw14.OathSays", spec := "oathSays", apart := false }
def OathSaysSaid : Prop := oathSaysRow.holds Try.pinned (OpenSpec.ofChange oathSaysSpec)

/-- ITS FALSE NEIGHBOUR: 'it returns false'. Refute it at one input. -/
def oathSaysWrong : ChangeSpec := { name := "oathSays", fn := fun _ => fun
  | [d1, d2, d3] => { results := [.lit (.bool false)], args := [d1, d2, d3] }
  | _ => none }
def OathSaysWrongFalsely : Prop := oathSaysRow.holds Try.pinned (OpenSpec.ofChange oathSaysWrong)

/-- 'chirographlaw14.OathAsks': WHATEVER THE INPUT: true; the input reads as it did. -/
def oathAsksSpec : ChangeSpec := { name := "oathAsks", fn := fun _ => fun
  | [d1, d2] => { results := [.lit (.bool true)], args := [d1, d2] }
  | _ => none }
def oathAsksRow : OpenClaim := { program := "ytoocoobgidoceaa", sum := "502fc2556dbc1d37f2b29c60e5e16015365ec91b0ce3cdc5752e2b7b7941ba73", func := "chirograph/chirographlaw14.OathAsks", spec := "oathAsks", inPlace := ["math/bits.Add64", "math/bits.Sub64"], apart := false }
def OathAsksSaid : Prop := oathAsksRow.holds Try.pinned (OpenSpec.ofChange oathAsksSpec)

/-- ITS FALSE NEIGHBOUR: 'it returns false'. Refute it at one input. -/
def oathAsksWrong : ChangeSpec := { name := "oathAsks", fn := fun _ => fun
  | [d1, d2] => { results := [.lit (.bool false)], args := [d1, d2] }
  | _ => none }
def OathAsksWrongFalsely : Prop := oathAsksRow.holds Try.pinned (OpenSpec.ofChange oathAsksWrong)

/-- 'chirographlaw14.OathSame': WHATEVER THE INPUT: true; the input reads as it did. -/
def oathSameSpec : ChangeSpec := { name := "oathSame", fn := fun _ => fun
  | [d1, d2] => { results := [.lit (.bool true)], args := [d1, d2] }
  | _ => none }
def oathSameRow : OpenClaim := { program := "ytoocoobgidoceaa", sum := "502fc2556dbc1d37f2b29c60e5e16015365ec91b0ce3cdc5752e2b7b7941ba73", func := "chirograph/chirographlaw14.OathSame", spec := "oathSame", inPlace := ["math/bits.Add64", "math/bits.Sub64"], apart := false }
def OathSameSaid : Prop := oathSameRow.holds Try.pinned (OpenSpec.ofChange oathSameSpec)

/-- ITS FALSE NEIGHBOUR: 'it returns false'. Refute it at one input. -/
def oathSameWrong : ChangeSpec := { name := "oathSame", fn := fun _ => fun
  | [d1, d2] => { results := [.lit (.bool false)], args := [d1, d2] }
  | _ => none }
def OathSameWrongFalsely : Prop := oathSameRow.holds Try.pinned (OpenSpec.ofChange oathSameWrong)

/-- 'chirographlaw14.OathApart': WHATEVER THE INPUT: true; the input reads as it did. -/
def oathApartSpec : ChangeSpec := { name := "oathApart", fn := fun _ => fun
  | [d1, d2] => { results := [.lit (.bool true)], args := [d1, d2] }
  | _ => none }
def oathApartRow : OpenClaim := { program := "ytoocoobgidoceaa", sum := "502fc2556dbc1d37f2b29c60e5e16015365ec91b0ce3cdc5752e2b7b7941ba73", func := "chirograph/chirographlaw14.OathApart", spec := "oathApart", inPlace := ["math/bits.Add64", "math/bits.Sub64"], unfollowed := true, recurses := true, apart := false }
def OathApartSaid : Prop := oathApartRow.holds Try.pinned (OpenSpec.ofChange oathApartSpec)

/-- ITS FALSE NEIGHBOUR: 'it returns false'. Refute it at one input. -/
def oathApartWrong : ChangeSpec := { name := "oathApart", fn := fun _ => fun
  | [d1, d2] => { results := [.lit (.bool false)], args := [d1, d2] }
  | _ => none }
def OathApartWrongFalsely : Prop := oathApartRow.holds Try.pinned (OpenSpec.ofChange oathApartWrong)

/- THE SECOND FORM. 'bulk': how many values and letters a reading holds, each counted each time it is reached (what is shared counts as often as it is met; a slice's spare places count too). A statement '..UptoSaid' is the law's where the arguments, and the package variables that the reading takes, are together of bulk at most 1048576: NARROWER than '..Said'. Prove '..Said' where nothing that the law and all that it calls make is longer than what came in: it says more and counts as full. Else prove '..UptoSaid'. A law counts once. -/
mutual
def uptoBulk {H : Type} : DataW H → Nat
  | .lit (.string bytes) => bytes.length + 1
  | .lit _ => 1
  | .nil => 1
  | .ptr d => uptoBulk d + 1
  | .slice elems spare => uptoBulkAll elems + uptoBulkAll spare + 1
  | .agg parts => uptoBulkAll parts + 1
  | .iface _ d => uptoBulk d + 1
  | .map entries => uptoBulkEntries entries + 1
  | .held _ => 1
def uptoBulkAll {H : Type} : List (DataW H) → Nat
  | [] => 0
  | d :: r => uptoBulk d + uptoBulkAll r
def uptoBulkEntries {H : Type} : List (Lit × DataW H) → Nat
  | [] => 0
  | x :: r => uptoBulkEntry x + uptoBulkEntries r
def uptoBulkEntry {H : Type} : Lit × DataW H → Nat
  | (.string bytes, d) => bytes.length + uptoBulk d + 1
  | (_, d) => uptoBulk d + 1
 end
def uptoSmall : (H : Type) → List (DataW H) → Bool := fun _ ds => decide (uptoBulkAll ds ≤ 1048576)
def OpenSpec.upto (s : _root_.Go.ChangeSpec) : _root_.Go.OpenSpec := { _root_.Go.OpenSpec.ofChange s with cond := some uptoSmall }

/-- 'chirographlaw14.OathSays', WHERE WHAT IT READS IS OF BULK AT MOST 1048576: true; the input reads as it did. -/
def oathSaysUptoRow : OpenClaim := { program := "ytoocoobgidoceaa", sum := "502fc2556dbc1d37f2b29c60e5e16015365ec91b0ce3cdc5752e2b7b7941ba73", func := "chirograph/chirographlaw14.OathSays", spec := "oathSays", apart := false, narrowed := true }
def OathSaysUptoSaid : Prop := oathSaysUptoRow.holds Try.pinned (OpenSpec.upto oathSaysSpec)

/-- 'chirographlaw14.OathAsks', WHERE WHAT IT READS IS OF BULK AT MOST 1048576: true; the input reads as it did. -/
def oathAsksUptoRow : OpenClaim := { program := "ytoocoobgidoceaa", sum := "502fc2556dbc1d37f2b29c60e5e16015365ec91b0ce3cdc5752e2b7b7941ba73", func := "chirograph/chirographlaw14.OathAsks", spec := "oathAsks", inPlace := ["math/bits.Add64", "math/bits.Sub64"], apart := false, narrowed := true }
def OathAsksUptoSaid : Prop := oathAsksUptoRow.holds Try.pinned (OpenSpec.upto oathAsksSpec)

/-- 'chirographlaw14.OathSame', WHERE WHAT IT READS IS OF BULK AT MOST 1048576: true; the input reads as it did. -/
def oathSameUptoRow : OpenClaim := { program := "ytoocoobgidoceaa", sum := "502fc2556dbc1d37f2b29c60e5e16015365ec91b0ce3cdc5752e2b7b7941ba73", func := "chirograph/chirographlaw14.OathSame", spec := "oathSame", inPlace := ["math/bits.Add64", "math/bits.Sub64"], apart := false, narrowed := true }
def OathSameUptoSaid : Prop := oathSameUptoRow.holds Try.pinned (OpenSpec.upto oathSameSpec)

/-- 'chirographlaw14.OathApart', WHERE WHAT IT READS IS OF BULK AT MOST 1048576: true; the input reads as it did. -/
def oathApartUptoRow : OpenClaim := { program := "ytoocoobgidoceaa", sum := "502fc2556dbc1d37f2b29c60e5e16015365ec91b0ce3cdc5752e2b7b7941ba73", func := "chirograph/chirographlaw14.OathApart", spec := "oathApart", inPlace := ["math/bits.Add64", "math/bits.Sub64"], unfollowed := true, recurses := true, apart := false, narrowed := true }
def OathApartUptoSaid : Prop := oathApartUptoRow.holds Try.pinned (OpenSpec.upto oathApartSpec)

end Rows
end Go.Proofs.Ytoocoobgidoceaa
