/- The law CombIndexes holds: its row out of its pure statement, and that one's proof. -/
import Derived.Test.YtgjdgpkjdffhkaaZCombIndexesRowCombIndexes
import Derived.Test.YtgjdgpkjdffhkaaZCombIndexesPureCombIndexes
namespace Go.Proofs.Ytgjdgpkjdffhkaa
theorem combIndexes_holds : Rows.CombIndexesSaid := combIndexes.of_pure combIndexes.pure
#print axioms combIndexes_holds
end Go.Proofs.Ytgjdgpkjdffhkaa
