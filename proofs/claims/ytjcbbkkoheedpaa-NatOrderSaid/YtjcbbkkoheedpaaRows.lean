/-
  No cell of these rows narrows 'for every input' (looked for: loops, veiled, ifaces, maps, wideKeys, modest, calm, conditions, laid).
  DERIVED. THE GIVEN ROWS OF THIS SEAT. 8 by the template 'for every input the law returns true; each argument reads behind the call as it read before'; 0 by the template 'total and deterministic' (their statements: YtjcbbkkoheedpaaTotals.lean).
  GIVEN WITH THE SEED: the statements are not yours to turn. If you find one false, say at which input.
  Laid BY PROGRAM, IN A SANDBOX (cutbox-rows.mjs): the forced cells as the released guide's own fill.sh prints them over the translation f3f6f8ece33d71d5… (all of the seat's roots in one cut). By AI agents, Wed Nov 11 2026. No macro, syntax, notation, axiom, sorry.
-/
import Derived.Test.YtjcbbkkoheedpaaChecked
import GoSem.Claim
import GoSem.ClaimJoined
import GoSem.ClaimMapViews
import Derived.JoinedTies
import Derived.KernelRfl
namespace Go.Proofs.Ytjcbbkkoheedpaa
/- THE CELL 'sum', in the pinned program and in every row, IS THE sha256 OF THE DUMP (.gsa) THAT YtjcbbkkoheedpaaProg.lean LOADS. Nothing in Lean hashes anything: it is a label: what it is worth is what the hold of that sum in a sandbox is worth. -/
noncomputable def Try.pinned : Pinned := { name := "ytjcbbkkoheedpaa", sum := "f3f6f8ece33d71d501a7ef0eafdc6981d4b2237684dd8ff43a9bba1f56080d17", checked := Try.checked }
namespace Rows
def none {H : Type} : Left H := { results := [], args := [] }

/-- 'chirographlaw01.NatAdds': WHATEVER THE INPUT: true; the input reads as it did. -/
def natAddsSpec : ChangeSpec := { name := "natAdds", fn := fun _ => fun
  | [d1, d2] => { results := [.lit (.bool true)], args := [d1, d2] }
  | _ => none }
def natAddsRow : OpenClaim := { program := "ytjcbbkkoheedpaa", sum := "f3f6f8ece33d71d501a7ef0eafdc6981d4b2237684dd8ff43a9bba1f56080d17", func := "chirograph/chirographlaw01.NatAdds", spec := "natAdds", inPlace := ["math/bits.Add64", "math/bits.Sub64"], apart := false }
def NatAddsSaid : Prop := natAddsRow.holds Try.pinned (OpenSpec.ofChange natAddsSpec)

/-- ITS FALSE NEIGHBOUR: 'it returns false'. Refute it at one input. -/
def natAddsWrong : ChangeSpec := { name := "natAdds", fn := fun _ => fun
  | [d1, d2] => { results := [.lit (.bool false)], args := [d1, d2] }
  | _ => none }
def NatAddsWrongFalsely : Prop := natAddsRow.holds Try.pinned (OpenSpec.ofChange natAddsWrong)

/-- 'chirographlaw01.NatBytes': WHATEVER THE INPUT: true; the input reads as it did. -/
def natBytesSpec : ChangeSpec := { name := "natBytes", fn := fun _ => fun
  | [d1, d2] => { results := [.lit (.bool true)], args := [d1, d2] }
  | _ => none }
def natBytesRow : OpenClaim := { program := "ytjcbbkkoheedpaa", sum := "f3f6f8ece33d71d501a7ef0eafdc6981d4b2237684dd8ff43a9bba1f56080d17", func := "chirograph/chirographlaw01.NatBytes", spec := "natBytes", inPlace := ["math/bits.Add64"], unfollowed := true, recurses := true, apart := false }
def NatBytesSaid : Prop := natBytesRow.holds Try.pinned (OpenSpec.ofChange natBytesSpec)

/-- ITS FALSE NEIGHBOUR: 'it returns false'. Refute it at one input. -/
def natBytesWrong : ChangeSpec := { name := "natBytes", fn := fun _ => fun
  | [d1, d2] => { results := [.lit (.bool false)], args := [d1, d2] }
  | _ => none }
def NatBytesWrongFalsely : Prop := natBytesRow.holds Try.pinned (OpenSpec.ofChange natBytesWrong)

/-- 'chirographlaw01.NatMuls': WHATEVER THE INPUT: true; the input reads as it did. -/
def natMulsSpec : ChangeSpec := { name := "natMuls", fn := fun _ => fun
  | [d1, d2] => { results := [.lit (.bool true)], args := [d1, d2] }
  | _ => none }
def natMulsRow : OpenClaim := { program := "ytjcbbkkoheedpaa", sum := "f3f6f8ece33d71d501a7ef0eafdc6981d4b2237684dd8ff43a9bba1f56080d17", func := "chirograph/chirographlaw01.NatMuls", spec := "natMuls", inPlace := ["math/bits.Add64"], apart := false }
def NatMulsSaid : Prop := natMulsRow.holds Try.pinned (OpenSpec.ofChange natMulsSpec)

/-- ITS FALSE NEIGHBOUR: 'it returns false'. Refute it at one input. -/
def natMulsWrong : ChangeSpec := { name := "natMuls", fn := fun _ => fun
  | [d1, d2] => { results := [.lit (.bool false)], args := [d1, d2] }
  | _ => none }
def NatMulsWrongFalsely : Prop := natMulsRow.holds Try.pinned (OpenSpec.ofChange natMulsWrong)

/-- 'chirographlaw01.NatCmps': WHATEVER THE INPUT: true; the input reads as it did. -/
def natCmpsSpec : ChangeSpec := { name := "natCmps", fn := fun _ => fun
  | [d1, d2] => { results := [.lit (.bool true)], args := [d1, d2] }
  | _ => none }
def natCmpsRow : OpenClaim := { program := "ytjcbbkkoheedpaa", sum := "f3f6f8ece33d71d501a7ef0eafdc6981d4b2237684dd8ff43a9bba1f56080d17", func := "chirograph/chirographlaw01.NatCmps", spec := "natCmps", inPlace := ["math/bits.Add64"], apart := false }
def NatCmpsSaid : Prop := natCmpsRow.holds Try.pinned (OpenSpec.ofChange natCmpsSpec)

/-- ITS FALSE NEIGHBOUR: 'it returns false'. Refute it at one input. -/
def natCmpsWrong : ChangeSpec := { name := "natCmps", fn := fun _ => fun
  | [d1, d2] => { results := [.lit (.bool false)], args := [d1, d2] }
  | _ => none }
def NatCmpsWrongFalsely : Prop := natCmpsRow.holds Try.pinned (OpenSpec.ofChange natCmpsWrong)

/-- 'chirographlaw01.NatRems': WHATEVER THE INPUT: true; the input reads as it did. -/
def natRemsSpec : ChangeSpec := { name := "natRems", fn := fun _ => fun
  | [d1, d2] => { results := [.lit (.bool true)], args := [d1, d2] }
  | _ => none }
def natRemsRow : OpenClaim := { program := "ytjcbbkkoheedpaa", sum := "f3f6f8ece33d71d501a7ef0eafdc6981d4b2237684dd8ff43a9bba1f56080d17", func := "chirograph/chirographlaw01.NatRems", spec := "natRems", inPlace := ["math/bits.Sub64", "math/bits.Add64"], apart := false }
def NatRemsSaid : Prop := natRemsRow.holds Try.pinned (OpenSpec.ofChange natRemsSpec)

/-- ITS FALSE NEIGHBOUR: 'it returns false'. Refute it at one input. -/
def natRemsWrong : ChangeSpec := { name := "natRems", fn := fun _ => fun
  | [d1, d2] => { results := [.lit (.bool false)], args := [d1, d2] }
  | _ => none }
def NatRemsWrongFalsely : Prop := natRemsRow.holds Try.pinned (OpenSpec.ofChange natRemsWrong)

/-- 'chirographlaw01.NatBack': WHATEVER THE INPUT: true; the input reads as it did. -/
def natBackSpec : ChangeSpec := { name := "natBack", fn := fun _ => fun
  | [d1, d2, d3] => { results := [.lit (.bool true)], args := [d1, d2, d3] }
  | _ => none }
def natBackRow : OpenClaim := { program := "ytjcbbkkoheedpaa", sum := "f3f6f8ece33d71d501a7ef0eafdc6981d4b2237684dd8ff43a9bba1f56080d17", func := "chirograph/chirographlaw01.NatBack", spec := "natBack", inPlace := ["math/bits.Add64", "math/bits.Sub64"], unfollowed := true, recurses := true, apart := false }
def NatBackSaid : Prop := natBackRow.holds Try.pinned (OpenSpec.ofChange natBackSpec)

/-- ITS FALSE NEIGHBOUR: 'it returns false'. Refute it at one input. -/
def natBackWrong : ChangeSpec := { name := "natBack", fn := fun _ => fun
  | [d1, d2, d3] => { results := [.lit (.bool false)], args := [d1, d2, d3] }
  | _ => none }
def NatBackWrongFalsely : Prop := natBackRow.holds Try.pinned (OpenSpec.ofChange natBackWrong)

/-- 'chirographlaw01.NatOrder': WHATEVER THE INPUT: true; the input reads as it did. -/
def natOrderSpec : ChangeSpec := { name := "natOrder", fn := fun _ => fun
  | [d1, d2] => { results := [.lit (.bool true)], args := [d1, d2] }
  | _ => none }
def natOrderRow : OpenClaim := { program := "ytjcbbkkoheedpaa", sum := "f3f6f8ece33d71d501a7ef0eafdc6981d4b2237684dd8ff43a9bba1f56080d17", func := "chirograph/chirographlaw01.NatOrder", spec := "natOrder", inPlace := ["math/bits.Add64"], unfollowed := true, recurses := true, apart := false }
def NatOrderSaid : Prop := natOrderRow.holds Try.pinned (OpenSpec.ofChange natOrderSpec)

/-- ITS FALSE NEIGHBOUR: 'it returns false'. Refute it at one input. -/
def natOrderWrong : ChangeSpec := { name := "natOrder", fn := fun _ => fun
  | [d1, d2] => { results := [.lit (.bool false)], args := [d1, d2] }
  | _ => none }
def NatOrderWrongFalsely : Prop := natOrderRow.holds Try.pinned (OpenSpec.ofChange natOrderWrong)

/-- 'chirographlaw01.NatRest': WHATEVER THE INPUT: true; the input reads as it did. -/
def natRestSpec : ChangeSpec := { name := "natRest", fn := fun _ => fun
  | [d1, d2] => { results := [.lit (.bool true)], args := [d1, d2] }
  | _ => none }
def natRestRow : OpenClaim := { program := "ytjcbbkkoheedpaa", sum := "f3f6f8ece33d71d501a7ef0eafdc6981d4b2237684dd8ff43a9bba1f56080d17", func := "chirograph/chirographlaw01.NatRest", spec := "natRest", inPlace := ["math/bits.Sub64", "math/bits.Add64"], apart := false }
def NatRestSaid : Prop := natRestRow.holds Try.pinned (OpenSpec.ofChange natRestSpec)

/-- ITS FALSE NEIGHBOUR: 'it returns false'. Refute it at one input. -/
def natRestWrong : ChangeSpec := { name := "natRest", fn := fun _ => fun
  | [d1, d2] => { results := [.lit (.bool false)], args := [d1, d2] }
  | _ => none }
def NatRestWrongFalsely : Prop := natRestRow.holds Try.pinned (OpenSpec.ofChange natRestWrong)

/- THE SECOND FORM. 'bulk': how many values and letters a reading holds, each counted each time it is reached (what is shared counts as often as it is met; a slice's spare places count too). A statement '..UptoSaid' is the law's where the arguments, and the package variables that the reading takes, are together of bulk at most 1048576: NARROWER than '..Said'. Prove '..Said' where nothing that the law and all that it calls make is longer than what came in: it says more and counts as full. Else prove '..UptoSaid'. A law counts once. -/
mutual
def uptoBulk {H : Type} : DataW H → Nat
  | .lit (.string bytes) => bytes.length + 1
  | .lit _ => 1
  | .nil => 1
  | .ptr d => uptoBulk d + 1
  | .slice elems spare => uptoBulkAll elems + uptoBulkAll spare + 1
  | .agg parts => uptoBulkAll parts + 1
  | .iface _ d => uptoBulk d + 1
  | .map entries => uptoBulkEntries entries + 1
  | .held _ => 1
def uptoBulkAll {H : Type} : List (DataW H) → Nat
  | [] => 0
  | d :: r => uptoBulk d + uptoBulkAll r
def uptoBulkEntries {H : Type} : List (Lit × DataW H) → Nat
  | [] => 0
  | x :: r => uptoBulkEntry x + uptoBulkEntries r
def uptoBulkEntry {H : Type} : Lit × DataW H → Nat
  | (.string bytes, d) => bytes.length + uptoBulk d + 1
  | (_, d) => uptoBulk d + 1
 end
def uptoSmall : (H : Type) → List (DataW H) → Bool := fun _ ds => decide (uptoBulkAll ds ≤ 1048576)
def OpenSpec.upto (s : _root_.Go.ChangeSpec) : _root_.Go.OpenSpec := { _root_.Go.OpenSpec.ofChange s with cond := some uptoSmall }

/-- 'chirographlaw01.NatAdds', WHERE WHAT IT READS IS OF BULK AT MOST 1048576: true; the input reads as it did. -/
def natAddsUptoRow : OpenClaim := { program := "ytjcbbkkoheedpaa", sum := "f3f6f8ece33d71d501a7ef0eafdc6981d4b2237684dd8ff43a9bba1f56080d17", func := "chirograph/chirographlaw01.NatAdds", spec := "natAdds", inPlace := ["math/bits.Add64", "math/bits.Sub64"], apart := false, narrowed := true }
def NatAddsUptoSaid : Prop := natAddsUptoRow.holds Try.pinned (OpenSpec.upto natAddsSpec)

/-- 'chirographlaw01.NatBytes', WHERE WHAT IT READS IS OF BULK AT MOST 1048576: true; the input reads as it did. -/
def natBytesUptoRow : OpenClaim := { program := "ytjcbbkkoheedpaa", sum := "f3f6f8ece33d71d501a7ef0eafdc6981d4b2237684dd8ff43a9bba1f56080d17", func := "chirograph/chirographlaw01.NatBytes", spec := "natBytes", inPlace := ["math/bits.Add64"], unfollowed := true, recurses := true, apart := false, narrowed := true }
def NatBytesUptoSaid : Prop := natBytesUptoRow.holds Try.pinned (OpenSpec.upto natBytesSpec)

/-- 'chirographlaw01.NatMuls', WHERE WHAT IT READS IS OF BULK AT MOST 1048576: true; the input reads as it did. -/
def natMulsUptoRow : OpenClaim := { program := "ytjcbbkkoheedpaa", sum := "f3f6f8ece33d71d501a7ef0eafdc6981d4b2237684dd8ff43a9bba1f56080d17", func := "chirograph/chirographlaw01.NatMuls", spec := "natMuls", inPlace := ["math/bits.Add64"], apart := false, narrowed := true }
def NatMulsUptoSaid : Prop := natMulsUptoRow.holds Try.pinned (OpenSpec.upto natMulsSpec)

/-- 'chirographlaw01.NatCmps', WHERE WHAT IT READS IS OF BULK AT MOST 1048576: true; the input reads as it did. -/
def natCmpsUptoRow : OpenClaim := { program := "ytjcbbkkoheedpaa", sum := "f3f6f8ece33d71d501a7ef0eafdc6981d4b2237684dd8ff43a9bba1f56080d17", func := "chirograph/chirographlaw01.NatCmps", spec := "natCmps", inPlace := ["math/bits.Add64"], apart := false, narrowed := true }
def NatCmpsUptoSaid : Prop := natCmpsUptoRow.holds Try.pinned (OpenSpec.upto natCmpsSpec)

/-- 'chirographlaw01.NatRems', WHERE WHAT IT READS IS OF BULK AT MOST 1048576: true; the input reads as it did. -/
def natRemsUptoRow : OpenClaim := { program := "ytjcbbkkoheedpaa", sum := "f3f6f8ece33d71d501a7ef0eafdc6981d4b2237684dd8ff43a9bba1f56080d17", func := "chirograph/chirographlaw01.NatRems", spec := "natRems", inPlace := ["math/bits.Sub64", "math/bits.Add64"], apart := false, narrowed := true }
def NatRemsUptoSaid : Prop := natRemsUptoRow.holds Try.pinned (OpenSpec.upto natRemsSpec)

/-- 'chirographlaw01.NatBack', WHERE WHAT IT READS IS OF BULK AT MOST 1048576: true; the input reads as it did. -/
def natBackUptoRow : OpenClaim := { program := "ytjcbbkkoheedpaa", sum := "f3f6f8ece33d71d501a7ef0eafdc6981d4b2237684dd8ff43a9bba1f56080d17", func := "chirograph/chirographlaw01.NatBack", spec := "natBack", inPlace := ["math/bits.Add64", "math/bits.Sub64"], unfollowed := true, recurses := true, apart := false, narrowed := true }
def NatBackUptoSaid : Prop := natBackUptoRow.holds Try.pinned (OpenSpec.upto natBackSpec)

/-- 'chirographlaw01.NatOrder', WHERE WHAT IT READS IS OF BULK AT MOST 1048576: true; the input reads as it did. -/
def natOrderUptoRow : OpenClaim := { program := "ytjcbbkkoheedpaa", sum := "f3f6f8ece33d71d501a7ef0eafdc6981d4b2237684dd8ff43a9bba1f56080d17", func := "chirograph/chirographlaw01.NatOrder", spec := "natOrder", inPlace := ["math/bits.Add64"], unfollowed := true, recurses := true, apart := false, narrowed := true }
def NatOrderUptoSaid : Prop := natOrderUptoRow.holds Try.pinned (OpenSpec.upto natOrderSpec)

/-- 'chirographlaw01.NatRest', WHERE WHAT IT READS IS OF BULK AT MOST 1048576: true; the input reads as it did. -/
def natRestUptoRow : OpenClaim := { program := "ytjcbbkkoheedpaa", sum := "f3f6f8ece33d71d501a7ef0eafdc6981d4b2237684dd8ff43a9bba1f56080d17", func := "chirograph/chirographlaw01.NatRest", spec := "natRest", inPlace := ["math/bits.Sub64", "math/bits.Add64"], apart := false, narrowed := true }
def NatRestUptoSaid : Prop := natRestUptoRow.holds Try.pinned (OpenSpec.upto natRestSpec)

end Rows
end Go.Proofs.Ytjcbbkkoheedpaa
