-- Lemmas that the printed proofs use: of the printer's words, what this claim needs (wip/tools/trim.py).
import Derived.Test.YtiikcnbfdnadfaaZWaveBoundsWInv
import Derived.Test.YtiikcnbfdnadfaaZWaveBoundsWFootNe
namespace Go.Proofs.YtiikcnbfdnadfaaW.PrintWords
open Go.RowKit
end Go.Proofs.YtiikcnbfdnadfaaW.PrintWords
namespace Go.Proofs.YtiikcnbfdnadfaaW.PrintLast
section
variable {ops : Array Oper} {a : Act} {o og : Oper} {g : Nat} {t : Tmp} {u : Bool}
end
end Go.Proofs.YtiikcnbfdnadfaaW.PrintLast
