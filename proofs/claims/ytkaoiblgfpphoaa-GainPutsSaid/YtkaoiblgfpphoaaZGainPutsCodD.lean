/- The decoder, the program's and the document's. -/
import Derived.Test.YtkaoiblgfpphoaaZGainPutsCodR
import Derived.Test.YtkaoiblgfpphoaaZGainPutsM3
namespace Go.Proofs.Ytkaoiblgfpphoaa.Cod
open Go.RowKit Go.Proofs.YtkaoiblgfpphoaaW.PrintWords Go.Proofs.YtkaoiblgfpphoaaW.PrintMore Go.Proofs.Ytkaoiblgfpphoaa.Prt Go.Proofs.Ytkaoiblgfpphoaa.Val
set_option linter.unusedVariables false

end Go.Proofs.Ytkaoiblgfpphoaa.Cod
