-- Lemmas that the printed proofs use: of the printer's words, what this claim needs (wip/tools/trim.py).
import Derived.Test.YtkaoiblgfpphoaaZGainBackWInv
import Derived.Test.YtkaoiblgfpphoaaZGainBackWFootNe
namespace Go.Proofs.YtkaoiblgfpphoaaW.PrintWords
open Go.RowKit
end Go.Proofs.YtkaoiblgfpphoaaW.PrintWords
namespace Go.Proofs.YtkaoiblgfpphoaaW.PrintLast
section
variable {ops : Array Oper} {a : Act} {o og : Oper} {g : Nat} {t : Tmp} {u : Bool}
end
end Go.Proofs.YtkaoiblgfpphoaaW.PrintLast
