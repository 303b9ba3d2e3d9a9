/-
  No cell of these rows narrows 'for every input' (looked for: loops, veiled, ifaces, maps, wideKeys, modest, calm, conditions, laid).
  DERIVED. THE GIVEN ROWS OF THIS SEAT. 5 by the template 'for every input the law returns true; each argument reads behind the call as it read before'; 0 by the template 'total and deterministic' (their statements: YtboaahjpjemfpaaTotals.lean).
  GIVEN WITH THE SEED: the statements are not yours to turn. If you find one false, say at which input.
  Laid BY PROGRAM, IN A SANDBOX (cutbox-rows.mjs): the forced cells as the released guide's own fill.sh prints them over the translation 26ea3db81a477fd7… (all of the seat's roots in one cut). By AI agents, Wed Nov 11 2026. No macro, syntax, notation, axiom, sorry.
-/
import Derived.Test.YtboaahjpjemfpaaChecked
import GoSem.Claim
import GoSem.ClaimJoined
import GoSem.ClaimMapViews
import Derived.JoinedTies
import Derived.KernelRfl
namespace Go.Proofs.Ytboaahjpjemfpaa
/- THE CELL 'sum', in the pinned program and in every row, IS THE sha256 OF THE DUMP (.gsa) THAT YtboaahjpjemfpaaProg.lean LOADS. Nothing in Lean hashes anything: it is a label: what it is worth is what the hold of that sum in a sandbox is worth. -/
noncomputable def Try.pinned : Pinned := { name := "ytboaahjpjemfpaa", sum := "26ea3db81a477fd7aa133321cba7b14807bab996f23c64dbcd493d272e0b5336", checked := Try.checked }
namespace Rows
def none {H : Type} : Left H := { results := [], args := [] }

/-- 'chirographlaw13.SpongeTurns': WHATEVER THE INPUT: true; the input reads as it did. -/
def spongeTurnsSpec : ChangeSpec := { name := "spongeTurns", fn := fun _ => fun
  | [d] => { results := [.lit (.bool true)], args := [d] }
  | _ => none }
def spongeTurnsRow : OpenClaim := { program := "ytboaahjpjemfpaa", sum := "26ea3db81a477fd7aa133321cba7b14807bab996f23c64dbcd493d272e0b5336", func := "chirograph/chirographlaw13.SpongeTurns", spec := "spongeTurns", apart := false }
def SpongeTurnsSaid : Prop := spongeTurnsRow.holds Try.pinned (OpenSpec.ofChange spongeTurnsSpec)

/-- ITS FALSE NEIGHBOUR: 'it returns false'. Refute it at one input. -/
def spongeTurnsWrong : ChangeSpec := { name := "spongeTurns", fn := fun _ => fun
  | [d] => { results := [.lit (.bool false)], args := [d] }
  | _ => none }
def SpongeTurnsWrongFalsely : Prop := spongeTurnsRow.holds Try.pinned (OpenSpec.ofChange spongeTurnsWrong)

/-- 'chirographlaw13.SpongeHashes': WHATEVER THE INPUT: true; the input reads as it did. -/
def spongeHashesSpec : ChangeSpec := { name := "spongeHashes", fn := fun _ => fun
  | [d] => { results := [.lit (.bool true)], args := [d] }
  | _ => none }
def spongeHashesRow : OpenClaim := { program := "ytboaahjpjemfpaa", sum := "26ea3db81a477fd7aa133321cba7b14807bab996f23c64dbcd493d272e0b5336", func := "chirograph/chirographlaw13.SpongeHashes", spec := "spongeHashes", apart := false }
def SpongeHashesSaid : Prop := spongeHashesRow.holds Try.pinned (OpenSpec.ofChange spongeHashesSpec)

/-- ITS FALSE NEIGHBOUR: 'it returns false'. Refute it at one input. -/
def spongeHashesWrong : ChangeSpec := { name := "spongeHashes", fn := fun _ => fun
  | [d] => { results := [.lit (.bool false)], args := [d] }
  | _ => none }
def SpongeHashesWrongFalsely : Prop := spongeHashesRow.holds Try.pinned (OpenSpec.ofChange spongeHashesWrong)

/-- 'chirographlaw13.SpongeApart': WHATEVER THE INPUT: true; the input reads as it did. -/
def spongeApartSpec : ChangeSpec := { name := "spongeApart", fn := fun _ => fun
  | [d1, d2, d3] => { results := [.lit (.bool true)], args := [d1, d2, d3] }
  | _ => none }
def spongeApartRow : OpenClaim := { program := "ytboaahjpjemfpaa", sum := "26ea3db81a477fd7aa133321cba7b14807bab996f23c64dbcd493d272e0b5336", func := "chirograph/chirographlaw13.SpongeApart", spec := "spongeApart", apart := false }
def SpongeApartSaid : Prop := spongeApartRow.holds Try.pinned (OpenSpec.ofChange spongeApartSpec)

/-- ITS FALSE NEIGHBOUR: 'it returns false'. Refute it at one input. -/
def spongeApartWrong : ChangeSpec := { name := "spongeApart", fn := fun _ => fun
  | [d1, d2, d3] => { results := [.lit (.bool false)], args := [d1, d2, d3] }
  | _ => none }
def SpongeApartWrongFalsely : Prop := spongeApartRow.holds Try.pinned (OpenSpec.ofChange spongeApartWrong)

/-- 'chirographlaw13.SpongeShape': WHATEVER THE INPUT: true; the input reads as it did. -/
def spongeShapeSpec : ChangeSpec := { name := "spongeShape", fn := fun _ => fun
  | [d] => { results := [.lit (.bool true)], args := [d] }
  | _ => none }
def spongeShapeRow : OpenClaim := { program := "ytboaahjpjemfpaa", sum := "26ea3db81a477fd7aa133321cba7b14807bab996f23c64dbcd493d272e0b5336", func := "chirograph/chirographlaw13.SpongeShape", spec := "spongeShape", apart := false }
def SpongeShapeSaid : Prop := spongeShapeRow.holds Try.pinned (OpenSpec.ofChange spongeShapeSpec)

/-- ITS FALSE NEIGHBOUR: 'it returns false'. Refute it at one input. -/
def spongeShapeWrong : ChangeSpec := { name := "spongeShape", fn := fun _ => fun
  | [d] => { results := [.lit (.bool false)], args := [d] }
  | _ => none }
def SpongeShapeWrongFalsely : Prop := spongeShapeRow.holds Try.pinned (OpenSpec.ofChange spongeShapeWrong)

/-- 'chirographlaw13.SpongeShort': WHATEVER THE INPUT: true; the input reads as it did. -/
def spongeShortSpec : ChangeSpec := { name := "spongeShort", fn := fun _ => fun
  | [d] => { results := [.lit (.bool true)], args := [d] }
  | _ => none }
def spongeShortRow : OpenClaim := { program := "ytboaahjpjemfpaa", sum := "26ea3db81a477fd7aa133321cba7b14807bab996f23c64dbcd493d272e0b5336", func := "chirograph/chirographlaw13.SpongeShort", spec := "spongeShort", apart := false }
def SpongeShortSaid : Prop := spongeShortRow.holds Try.pinned (OpenSpec.ofChange spongeShortSpec)

/-- ITS FALSE NEIGHBOUR: 'it returns false'. Refute it at one input. -/
def spongeShortWrong : ChangeSpec := { name := "spongeShort", fn := fun _ => fun
  | [d] => { results := [.lit (.bool false)], args := [d] }
  | _ => none }
def SpongeShortWrongFalsely : Prop := spongeShortRow.holds Try.pinned (OpenSpec.ofChange spongeShortWrong)

/- THE SECOND FORM. 'bulk': how many values and letters a reading holds, each counted each time it is reached (what is shared counts as often as it is met; a slice's spare places count too). A statement '..UptoSaid' is the law's where the arguments, and the package variables that the reading takes, are together of bulk at most 1048576: NARROWER than '..Said'. Prove '..Said' where nothing that the law and all that it calls make is longer than what came in: it says more and counts as full. Else prove '..UptoSaid'. A law counts once. -/
mutual
def uptoBulk {H : Type} : DataW H → Nat
  | .lit (.string bytes) => bytes.length + 1
  | .lit _ => 1
  | .nil => 1
  | .ptr d => uptoBulk d + 1
  | .slice elems spare => uptoBulkAll elems + uptoBulkAll spare + 1
  | .agg parts => uptoBulkAll parts + 1
  | .iface _ d => uptoBulk d + 1
  | .map entries => uptoBulkEntries entries + 1
  | .held _ => 1
def uptoBulkAll {H : Type} : List (DataW H) → Nat
  | [] => 0
  | d :: r => uptoBulk d + uptoBulkAll r
def uptoBulkEntries {H : Type} : List (Lit × DataW H) → Nat
  | [] => 0
  | x :: r => uptoBulkEntry x + uptoBulkEntries r
def uptoBulkEntry {H : Type} : Lit × DataW H → Nat
  | (.string bytes, d) => bytes.length + uptoBulk d + 1
  | (_, d) => uptoBulk d + 1
 end
def uptoSmall : (H : Type) → List (DataW H) → Bool := fun _ ds => decide (uptoBulkAll ds ≤ 1048576)
def OpenSpec.upto (s : _root_.Go.ChangeSpec) : _root_.Go.OpenSpec := { _root_.Go.OpenSpec.ofChange s with cond := some uptoSmall }

/-- 'chirographlaw13.SpongeTurns', WHERE WHAT IT READS IS OF BULK AT MOST 1048576: true; the input reads as it did. -/
def spongeTurnsUptoRow : OpenClaim := { program := "ytboaahjpjemfpaa", sum := "26ea3db81a477fd7aa133321cba7b14807bab996f23c64dbcd493d272e0b5336", func := "chirograph/chirographlaw13.SpongeTurns", spec := "spongeTurns", apart := false, narrowed := true }
def SpongeTurnsUptoSaid : Prop := spongeTurnsUptoRow.holds Try.pinned (OpenSpec.upto spongeTurnsSpec)

/-- 'chirographlaw13.SpongeHashes', WHERE WHAT IT READS IS OF BULK AT MOST 1048576: true; the input reads as it did. -/
def spongeHashesUptoRow : OpenClaim := { program := "ytboaahjpjemfpaa", sum := "26ea3db81a477fd7aa133321cba7b14807bab996f23c64dbcd493d272e0b5336", func := "chirograph/chirographlaw13.SpongeHashes", spec := "spongeHashes", apart := false, narrowed := true }
def SpongeHashesUptoSaid : Prop := spongeHashesUptoRow.holds Try.pinned (OpenSpec.upto spongeHashesSpec)

/-- 'chirographlaw13.SpongeApart', WHERE WHAT IT READS IS OF BULK AT MOST 1048576: true; the input reads as it did. -/
def spongeApartUptoRow : OpenClaim := { program := "ytboaahjpjemfpaa", sum := "26ea3db81a477fd7aa133321cba7b14807bab996f23c64dbcd493d272e0b5336", func := "chirograph/chirographlaw13.SpongeApart", spec := "spongeApart", apart := false, narrowed := true }
def SpongeApartUptoSaid : Prop := spongeApartUptoRow.holds Try.pinned (OpenSpec.upto spongeApartSpec)

/-- 'chirographlaw13.SpongeShape', WHERE WHAT IT READS IS OF BULK AT MOST 1048576: true; the input reads as it did. -/
def spongeShapeUptoRow : OpenClaim := { program := "ytboaahjpjemfpaa", sum := "26ea3db81a477fd7aa133321cba7b14807bab996f23c64dbcd493d272e0b5336", func := "chirograph/chirographlaw13.SpongeShape", spec := "spongeShape", apart := false, narrowed := true }
def SpongeShapeUptoSaid : Prop := spongeShapeUptoRow.holds Try.pinned (OpenSpec.upto spongeShapeSpec)

/-- 'chirographlaw13.SpongeShort', WHERE WHAT IT READS IS OF BULK AT MOST 1048576: true; the input reads as it did. -/
def spongeShortUptoRow : OpenClaim := { program := "ytboaahjpjemfpaa", sum := "26ea3db81a477fd7aa133321cba7b14807bab996f23c64dbcd493d272e0b5336", func := "chirograph/chirographlaw13.SpongeShort", spec := "spongeShort", apart := false, narrowed := true }
def SpongeShortUptoSaid : Prop := spongeShortUptoRow.holds Try.pinned (OpenSpec.upto spongeShortSpec)

end Rows
end Go.Proofs.Ytboaahjpjemfpaa
