/- The law CombCounts holds: its row out of its pure statement, and that one's proof. -/
import Derived.Test.YtgjdgpkjdffhkaaZCombCountsRowCombCounts
import Derived.Test.YtgjdgpkjdffhkaaZCombCountsPureCombCounts
namespace Go.Proofs.Ytgjdgpkjdffhkaa
theorem combCounts_holds : Rows.CombCountsSaid := combCounts.of_pure combCounts.pure
#print axioms combCounts_holds
end Go.Proofs.Ytgjdgpkjdffhkaa
