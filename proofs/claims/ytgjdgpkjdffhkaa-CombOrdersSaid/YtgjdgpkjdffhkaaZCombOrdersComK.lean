/- The examples of the comb's chapter, once for all rounds. -/
import Derived.Test.YtgjdgpkjdffhkaaZCombOrdersComR
import Derived.Test.YtgjdgpkjdffhkaaZCombOrdersM1
namespace Go.Proofs.Ytgjdgpkjdffhkaa.Com
open Go Go.RowKit Go.Proofs.YtgjdgpkjdffhkaaW.PrintWords Go.Proofs.Ytgjdgpkjdffhkaa.Prt
set_option maxRecDepth 100000 in
theorem knows_k : ∀ k, 100 ≤ k → psalterylaw06_knows.f k = some true := fun k hk => at_rounds psalterylaw06_knows.mono hk (by decide +kernel)
end Go.Proofs.Ytgjdgpkjdffhkaa.Com
