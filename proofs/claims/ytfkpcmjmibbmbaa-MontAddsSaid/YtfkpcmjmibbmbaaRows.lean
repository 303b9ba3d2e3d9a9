/-
  No cell of these rows narrows 'for every input' (looked for: loops, veiled, ifaces, maps, wideKeys, modest, calm, conditions, laid).
  DERIVED. THE GIVEN ROWS OF THIS SEAT. 6 by the template 'for every input the law returns true; each argument reads behind the call as it read before'; 0 by the template 'total and deterministic' (their statements: YtfkpcmjmibbmbaaTotals.lean).
  GIVEN WITH THE SEED: the statements are not yours to turn. If you find one false, say at which input.
  Laid BY PROGRAM, IN A SANDBOX (cutbox-rows.mjs): the forced cells as the released guide's own fill.sh prints them over the translation 943355346b2891a7… (all of the seat's roots in one cut). By AI agents, Wed Nov 11 2026. No macro, syntax, notation, axiom, sorry.
-/
import Derived.Test.YtfkpcmjmibbmbaaChecked
import GoSem.Claim
import GoSem.ClaimJoined
import GoSem.ClaimMapViews
import Derived.JoinedTies
import Derived.KernelRfl
namespace Go.Proofs.Ytfkpcmjmibbmbaa
/- THE CELL 'sum', in the pinned program and in every row, IS THE sha256 OF THE DUMP (.gsa) THAT YtfkpcmjmibbmbaaProg.lean LOADS. Nothing in Lean hashes anything: it is a label: what it is worth is what the hold of that sum in a sandbox is worth. -/
noncomputable def Try.pinned : Pinned := { name := "ytfkpcmjmibbmbaa", sum := "943355346b2891a78ce9a3b062cd43f4a052bc5abedd5fe1743cd024b485787b", checked := Try.checked }
namespace Rows
def none {H : Type} : Left H := { results := [], args := [] }

/-- 'chirographlaw02.MontNegs': WHATEVER THE INPUT: true; the input reads as it did. -/
def montNegsSpec : ChangeSpec := { name := "montNegs", fn := fun _ => fun
  | [d] => { results := [.lit (.bool true)], args := [d] }
  | _ => none }
def montNegsRow : OpenClaim := { program := "ytfkpcmjmibbmbaa", sum := "943355346b2891a78ce9a3b062cd43f4a052bc5abedd5fe1743cd024b485787b", func := "chirograph/chirographlaw02.MontNegs", spec := "montNegs", apart := false }
def MontNegsSaid : Prop := montNegsRow.holds Try.pinned (OpenSpec.ofChange montNegsSpec)

/-- ITS FALSE NEIGHBOUR: 'it returns false'. Refute it at one input. -/
def montNegsWrong : ChangeSpec := { name := "montNegs", fn := fun _ => fun
  | [d] => { results := [.lit (.bool false)], args := [d] }
  | _ => none }
def MontNegsWrongFalsely : Prop := montNegsRow.holds Try.pinned (OpenSpec.ofChange montNegsWrong)

/-- 'chirographlaw02.MontMuls': WHATEVER THE INPUT: true; the input reads as it did. -/
def montMulsSpec : ChangeSpec := { name := "montMuls", fn := fun _ => fun
  | [d1, d2, d3] => { results := [.lit (.bool true)], args := [d1, d2, d3] }
  | _ => none }
def montMulsRow : OpenClaim := { program := "ytfkpcmjmibbmbaa", sum := "943355346b2891a78ce9a3b062cd43f4a052bc5abedd5fe1743cd024b485787b", func := "chirograph/chirographlaw02.MontMuls", spec := "montMuls", inPlace := ["math/bits.Add64", "math/bits.Sub64"], apart := false }
def MontMulsSaid : Prop := montMulsRow.holds Try.pinned (OpenSpec.ofChange montMulsSpec)

/-- ITS FALSE NEIGHBOUR: 'it returns false'. Refute it at one input. -/
def montMulsWrong : ChangeSpec := { name := "montMuls", fn := fun _ => fun
  | [d1, d2, d3] => { results := [.lit (.bool false)], args := [d1, d2, d3] }
  | _ => none }
def MontMulsWrongFalsely : Prop := montMulsRow.holds Try.pinned (OpenSpec.ofChange montMulsWrong)

/-- 'chirographlaw02.MontMoves': WHATEVER THE INPUT: true; the input reads as it did. -/
def montMovesSpec : ChangeSpec := { name := "montMoves", fn := fun _ => fun
  | [d1, d2] => { results := [.lit (.bool true)], args := [d1, d2] }
  | _ => none }
def montMovesRow : OpenClaim := { program := "ytfkpcmjmibbmbaa", sum := "943355346b2891a78ce9a3b062cd43f4a052bc5abedd5fe1743cd024b485787b", func := "chirograph/chirographlaw02.MontMoves", spec := "montMoves", inPlace := ["math/bits.Sub64", "math/bits.Add64"], apart := false }
def MontMovesSaid : Prop := montMovesRow.holds Try.pinned (OpenSpec.ofChange montMovesSpec)

/-- ITS FALSE NEIGHBOUR: 'it returns false'. Refute it at one input. -/
def montMovesWrong : ChangeSpec := { name := "montMoves", fn := fun _ => fun
  | [d1, d2] => { results := [.lit (.bool false)], args := [d1, d2] }
  | _ => none }
def MontMovesWrongFalsely : Prop := montMovesRow.holds Try.pinned (OpenSpec.ofChange montMovesWrong)

/-- 'chirographlaw02.MontBack': WHATEVER THE INPUT: true; the input reads as it did. -/
def montBackSpec : ChangeSpec := { name := "montBack", fn := fun _ => fun
  | [d1, d2, d3] => { results := [.lit (.bool true)], args := [d1, d2, d3] }
  | _ => none }
def montBackRow : OpenClaim := { program := "ytfkpcmjmibbmbaa", sum := "943355346b2891a78ce9a3b062cd43f4a052bc5abedd5fe1743cd024b485787b", func := "chirograph/chirographlaw02.MontBack", spec := "montBack", inPlace := ["math/bits.Sub64", "math/bits.Add64"], apart := false }
def MontBackSaid : Prop := montBackRow.holds Try.pinned (OpenSpec.ofChange montBackSpec)

/-- ITS FALSE NEIGHBOUR: 'it returns false'. Refute it at one input. -/
def montBackWrong : ChangeSpec := { name := "montBack", fn := fun _ => fun
  | [d1, d2, d3] => { results := [.lit (.bool false)], args := [d1, d2, d3] }
  | _ => none }
def MontBackWrongFalsely : Prop := montBackRow.holds Try.pinned (OpenSpec.ofChange montBackWrong)

/-- 'chirographlaw02.MontPows': WHATEVER THE INPUT: true; the input reads as it did. -/
def montPowsSpec : ChangeSpec := { name := "montPows", fn := fun _ => fun
  | [d1, d2, d3] => { results := [.lit (.bool true)], args := [d1, d2, d3] }
  | _ => none }
def montPowsRow : OpenClaim := { program := "ytfkpcmjmibbmbaa", sum := "943355346b2891a78ce9a3b062cd43f4a052bc5abedd5fe1743cd024b485787b", func := "chirograph/chirographlaw02.MontPows", spec := "montPows", inPlace := ["math/bits.Sub64", "math/bits.Add64"], unfollowed := true, recurses := true, apart := false }
def MontPowsSaid : Prop := montPowsRow.holds Try.pinned (OpenSpec.ofChange montPowsSpec)

/-- ITS FALSE NEIGHBOUR: 'it returns false'. Refute it at one input. -/
def montPowsWrong : ChangeSpec := { name := "montPows", fn := fun _ => fun
  | [d1, d2, d3] => { results := [.lit (.bool false)], args := [d1, d2, d3] }
  | _ => none }
def MontPowsWrongFalsely : Prop := montPowsRow.holds Try.pinned (OpenSpec.ofChange montPowsWrong)

/-- 'chirographlaw02.MontAdds': WHATEVER THE INPUT: true; the input reads as it did. -/
def montAddsSpec : ChangeSpec := { name := "montAdds", fn := fun _ => fun
  | [d1, d2, d3, d4, d5] => { results := [.lit (.bool true)], args := [d1, d2, d3, d4, d5] }
  | _ => none }
def montAddsRow : OpenClaim := { program := "ytfkpcmjmibbmbaa", sum := "943355346b2891a78ce9a3b062cd43f4a052bc5abedd5fe1743cd024b485787b", func := "chirograph/chirographlaw02.MontAdds", spec := "montAdds", inPlace := ["math/bits.Sub64", "math/bits.Add64"], unfollowed := true, recurses := true, apart := false }
def MontAddsSaid : Prop := montAddsRow.holds Try.pinned (OpenSpec.ofChange montAddsSpec)

/-- ITS FALSE NEIGHBOUR: 'it returns false'. Refute it at one input. -/
def montAddsWrong : ChangeSpec := { name := "montAdds", fn := fun _ => fun
  | [d1, d2, d3, d4, d5] => { results := [.lit (.bool false)], args := [d1, d2, d3, d4, d5] }
  | _ => none }
def MontAddsWrongFalsely : Prop := montAddsRow.holds Try.pinned (OpenSpec.ofChange montAddsWrong)

/- THE SECOND FORM. 'bulk': how many values and letters a reading holds, each counted each time it is reached (what is shared counts as often as it is met; a slice's spare places count too). A statement '..UptoSaid' is the law's where the arguments, and the package variables that the reading takes, are together of bulk at most 1048576: NARROWER than '..Said'. Prove '..Said' where nothing that the law and all that it calls make is longer than what came in: it says more and counts as full. Else prove '..UptoSaid'. A law counts once. -/
mutual
def uptoBulk {H : Type} : DataW H → Nat
  | .lit (.string bytes) => bytes.length + 1
  | .lit _ => 1
  | .nil => 1
  | .ptr d => uptoBulk d + 1
  | .slice elems spare => uptoBulkAll elems + uptoBulkAll spare + 1
  | .agg parts => uptoBulkAll parts + 1
  | .iface _ d => uptoBulk d + 1
  | .map entries => uptoBulkEntries entries + 1
  | .held _ => 1
def uptoBulkAll {H : Type} : List (DataW H) → Nat
  | [] => 0
  | d :: r => uptoBulk d + uptoBulkAll r
def uptoBulkEntries {H : Type} : List (Lit × DataW H) → Nat
  | [] => 0
  | x :: r => uptoBulkEntry x + uptoBulkEntries r
def uptoBulkEntry {H : Type} : Lit × DataW H → Nat
  | (.string bytes, d) => bytes.length + uptoBulk d + 1
  | (_, d) => uptoBulk d + 1
 end
def uptoSmall : (H : Type) → List (DataW H) → Bool := fun _ ds => decide (uptoBulkAll ds ≤ 1048576)
def OpenSpec.upto (s : _root_.Go.ChangeSpec) : _root_.Go.OpenSpec := { _root_.Go.OpenSpec.ofChange s with cond := some uptoSmall }

/-- 'chirographlaw02.MontNegs', WHERE WHAT IT READS IS OF BULK AT MOST 1048576: true; the input reads as it did. -/
def montNegsUptoRow : OpenClaim := { program := "ytfkpcmjmibbmbaa", sum := "943355346b2891a78ce9a3b062cd43f4a052bc5abedd5fe1743cd024b485787b", func := "chirograph/chirographlaw02.MontNegs", spec := "montNegs", apart := false, narrowed := true }
def MontNegsUptoSaid : Prop := montNegsUptoRow.holds Try.pinned (OpenSpec.upto montNegsSpec)

/-- 'chirographlaw02.MontMuls', WHERE WHAT IT READS IS OF BULK AT MOST 1048576: true; the input reads as it did. -/
def montMulsUptoRow : OpenClaim := { program := "ytfkpcmjmibbmbaa", sum := "943355346b2891a78ce9a3b062cd43f4a052bc5abedd5fe1743cd024b485787b", func := "chirograph/chirographlaw02.MontMuls", spec := "montMuls", inPlace := ["math/bits.Add64", "math/bits.Sub64"], apart := false, narrowed := true }
def MontMulsUptoSaid : Prop := montMulsUptoRow.holds Try.pinned (OpenSpec.upto montMulsSpec)

/-- 'chirographlaw02.MontMoves', WHERE WHAT IT READS IS OF BULK AT MOST 1048576: true; the input reads as it did. -/
def montMovesUptoRow : OpenClaim := { program := "ytfkpcmjmibbmbaa", sum := "943355346b2891a78ce9a3b062cd43f4a052bc5abedd5fe1743cd024b485787b", func := "chirograph/chirographlaw02.MontMoves", spec := "montMoves", inPlace := ["math/bits.Sub64", "math/bits.Add64"], apart := false, narrowed := true }
def MontMovesUptoSaid : Prop := montMovesUptoRow.holds Try.pinned (OpenSpec.upto montMovesSpec)

/-- 'chirographlaw02.MontBack', WHERE WHAT IT READS IS OF BULK AT MOST 1048576: true; the input reads as it did. -/
def montBackUptoRow : OpenClaim := { program := "ytfkpcmjmibbmbaa", sum := "943355346b2891a78ce9a3b062cd43f4a052bc5abedd5fe1743cd024b485787b", func := "chirograph/chirographlaw02.MontBack", spec := "montBack", inPlace := ["math/bits.Sub64", "math/bits.Add64"], apart := false, narrowed := true }
def MontBackUptoSaid : Prop := montBackUptoRow.holds Try.pinned (OpenSpec.upto montBackSpec)

/-- 'chirographlaw02.MontPows', WHERE WHAT IT READS IS OF BULK AT MOST 1048576: true; the input reads as it did. -/
def montPowsUptoRow : OpenClaim := { program := "ytfkpcmjmibbmbaa", sum := "943355346b2891a78ce9a3b062cd43f4a052bc5abedd5fe1743cd024b485787b", func := "chirograph/chirographlaw02.MontPows", spec := "montPows", inPlace := ["math/bits.Sub64", "math/bits.Add64"], unfollowed := true, recurses := true, apart := false, narrowed := true }
def MontPowsUptoSaid : Prop := montPowsUptoRow.holds Try.pinned (OpenSpec.upto montPowsSpec)

/-- 'chirographlaw02.MontAdds', WHERE WHAT IT READS IS OF BULK AT MOST 1048576: true; the input reads as it did. -/
def montAddsUptoRow : OpenClaim := { program := "ytfkpcmjmibbmbaa", sum := "943355346b2891a78ce9a3b062cd43f4a052bc5abedd5fe1743cd024b485787b", func := "chirograph/chirographlaw02.MontAdds", spec := "montAdds", inPlace := ["math/bits.Sub64", "math/bits.Add64"], unfollowed := true, recurses := true, apart := false, narrowed := true }
def MontAddsUptoSaid : Prop := montAddsUptoRow.holds Try.pinned (OpenSpec.upto montAddsSpec)

end Rows
end Go.Proofs.Ytfkpcmjmibbmbaa
