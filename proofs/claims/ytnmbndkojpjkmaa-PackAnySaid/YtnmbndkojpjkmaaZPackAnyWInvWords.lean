-- Lemmas that the printed proofs use: of the printer's words, what this claim needs (wip/tools/trim.py).
import Derived.Test.YtnmbndkojpjkmaaZPackAnyWInv
import Derived.Test.YtnmbndkojpjkmaaZPackAnyWFootNe
namespace Go.Proofs.YtnmbndkojpjkmaaW.PrintWords
open Go.RowKit
end Go.Proofs.YtnmbndkojpjkmaaW.PrintWords
namespace Go.Proofs.YtnmbndkojpjkmaaW.PrintLast
section
variable {ops : Array Oper} {a : Act} {o og : Oper} {g : Nat} {t : Tmp} {u : Bool}
end
end Go.Proofs.YtnmbndkojpjkmaaW.PrintLast
