-- Lemmas that the printed proofs use: of the printer's words, what this claim needs (wip/tools/trim.py).
import Derived.Test.YtllchhcdpfiodaaDoorZLapNearWInv
import Derived.Test.YtllchhcdpfiodaaDoorZLapNearWFootNe
namespace Go.Proofs.YtllchhcdpfiodaaDoorW.PrintWords
open Go.RowKit
end Go.Proofs.YtllchhcdpfiodaaDoorW.PrintWords
namespace Go.Proofs.YtllchhcdpfiodaaDoorW.PrintLast
section
variable {ops : Array Oper} {a : Act} {o og : Oper} {g : Nat} {t : Tmp} {u : Bool}
end
end Go.Proofs.YtllchhcdpfiodaaDoorW.PrintLast
