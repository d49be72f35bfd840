-- Lemmas that the printed proofs use: of the printer's words, what this claim needs (wip/tools/trim.py).
import Derived.Test.YtifkhfnmbiefaaaZToneWritesWInv
import Derived.Test.YtifkhfnmbiefaaaZToneWritesWFootNe
namespace Go.Proofs.YtifkhfnmbiefaaaW.PrintWords
open Go.RowKit
end Go.Proofs.YtifkhfnmbiefaaaW.PrintWords
namespace Go.Proofs.YtifkhfnmbiefaaaW.PrintLast
section
variable {ops : Array Oper} {a : Act} {o og : Oper} {g : Nat} {t : Tmp} {u : Bool}
end
end Go.Proofs.YtifkhfnmbiefaaaW.PrintLast
