import Derived.Test.YtoocoobgidoceaaOaJ1
import Derived.Test.YtoocoobgidoceaaOaJ2
import Derived.Test.YtoocoobgidoceaaOaJ3
namespace Go.Proofs.Ytoocoobgidoceaa
open Go.RowKit
set_option linter.unusedVariables false

theorem oathAsks_any (A : Option Addr) (n c : Nat) (asked : Int) (bs : List Nat) (label : ByteArray) (w : World) (hb : bs.length = n) (ob : Byt bs) (sb : Sl w .u8 A bs) (hn : n ≤ c) (hc : c ≤ maxLen) (hl : label.size ≤ maxLen) :
    Calls Try.prog 4 #[.agg #[.slice A n c, .int .i64 asked], .string label] w fun e w' => e = .returned (.bool true) ∧ Below w.heap.size w w' := by
  by_cases h1 : n ≤ 500
  · exact oathAsks_small A n c asked bs label w hb ob sb hn hc hl h1
  · by_cases h2 : n < 60000
    · exact oathAsks_cut A n c asked bs label w hb ob sb hn hc hl (by omega) h2
    · exact oathAsks_large A n c asked bs label w hb ob sb hn hc hl (by omega)
end Go.Proofs.Ytoocoobgidoceaa
