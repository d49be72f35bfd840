-- Lemmas that the printed proofs use: of the printer's words, what this claim needs (wip/tools/trim.py).
import Derived.Test.YtifkhfnmbiefaaaZToneWritesWWords
import Derived.Laws.StructEq
namespace Go.Proofs.YtifkhfnmbiefaaaW.PrintWords
open Go.RowKit
section
variable {P : Program} {d : Nat} {xs ys : Array Value} {f : Field} {fs : List Field} {a b : Value} {r s : Bool} {w : World}
end
end Go.Proofs.YtifkhfnmbiefaaaW.PrintWords
