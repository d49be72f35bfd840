/- The document's encoder, and the program's: the same bytes. -/
import Derived.Test.YtkaoiblgfpphoaaZCoderShortCod
import Derived.Test.YtkaoiblgfpphoaaZCoderShortM1
import Derived.Test.YtkaoiblgfpphoaaZCoderShortM2
namespace Go.Proofs.Ytkaoiblgfpphoaa.Cod
open Go.RowKit Go.Proofs.YtkaoiblgfpphoaaW.PrintWords Go.Proofs.Ytkaoiblgfpphoaa.Prt Go.Proofs.Ytkaoiblgfpphoaa.Val
set_option linter.unusedVariables false

theorem knows_k : ∀ k, 100 ≤ k → psalterylaw05_knows.f k = some true := fun k hk => at_rounds psalterylaw05_knows.mono hk (by decide +kernel)
end Go.Proofs.Ytkaoiblgfpphoaa.Cod
