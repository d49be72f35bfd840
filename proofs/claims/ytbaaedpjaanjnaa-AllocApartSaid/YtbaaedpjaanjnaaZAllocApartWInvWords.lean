-- Lemmas that the printed proofs use: of the printer's words, what this claim needs (wip/tools/trim.py).
import Derived.Test.YtbaaedpjaanjnaaZAllocApartWInv
import Derived.Test.YtbaaedpjaanjnaaZAllocApartWFootNe
namespace Go.Proofs.YtbaaedpjaanjnaaW.PrintWords
open Go.RowKit
end Go.Proofs.YtbaaedpjaanjnaaW.PrintWords
namespace Go.Proofs.YtbaaedpjaanjnaaW.PrintLast
section
variable {ops : Array Oper} {a : Act} {o og : Oper} {g : Nat} {t : Tmp} {u : Bool}
end
end Go.Proofs.YtbaaedpjaanjnaaW.PrintLast
