-- Lemmas that the printed proofs use: of the printer's words, what this claim needs (wip/tools/trim.py).
import Derived.Test.YtgjdgpkjdffhkaaZCombOrdersWInv
import Derived.Test.YtgjdgpkjdffhkaaZCombOrdersWFootNe
namespace Go.Proofs.YtgjdgpkjdffhkaaW.PrintWords
open Go.RowKit
end Go.Proofs.YtgjdgpkjdffhkaaW.PrintWords
namespace Go.Proofs.YtgjdgpkjdffhkaaW.PrintLast
section
variable {ops : Array Oper} {a : Act} {o og : Oper} {g : Nat} {t : Tmp} {u : Bool}
end
end Go.Proofs.YtgjdgpkjdffhkaaW.PrintLast
