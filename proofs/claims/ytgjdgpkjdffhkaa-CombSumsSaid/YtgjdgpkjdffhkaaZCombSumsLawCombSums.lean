/- The law CombSums holds: its row out of its pure statement, and that one's proof. -/
import Derived.Test.YtgjdgpkjdffhkaaZCombSumsRowCombSums
import Derived.Test.YtgjdgpkjdffhkaaZCombSumsPureCombSums
namespace Go.Proofs.Ytgjdgpkjdffhkaa
theorem combSums_holds : Rows.CombSumsSaid := combSums.of_pure combSums.pure
#print axioms combSums_holds
end Go.Proofs.Ytgjdgpkjdffhkaa
