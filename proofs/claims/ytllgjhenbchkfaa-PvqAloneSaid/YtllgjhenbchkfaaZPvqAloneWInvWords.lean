-- Lemmas that the printed proofs use: of the printer's words, what this claim needs (wip/tools/trim.py).
import Derived.Test.YtllgjhenbchkfaaZPvqAloneWInv
import Derived.Test.YtllgjhenbchkfaaZPvqAloneWFootNe
namespace Go.Proofs.YtllgjhenbchkfaaW.PrintWords
open Go.RowKit
end Go.Proofs.YtllgjhenbchkfaaW.PrintWords
namespace Go.Proofs.YtllgjhenbchkfaaW.PrintLast
section
variable {ops : Array Oper} {a : Act} {o og : Oper} {g : Nat} {t : Tmp} {u : Bool}
end
end Go.Proofs.YtllgjhenbchkfaaW.PrintLast
