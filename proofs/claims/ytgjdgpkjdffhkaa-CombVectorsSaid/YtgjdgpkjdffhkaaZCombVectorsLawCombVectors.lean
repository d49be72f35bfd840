/- The law CombVectors holds: its row out of its pure statement, and that one's proof. -/
import Derived.Test.YtgjdgpkjdffhkaaZCombVectorsRowCombVectors
import Derived.Test.YtgjdgpkjdffhkaaZCombVectorsPureCombVectors
namespace Go.Proofs.Ytgjdgpkjdffhkaa
theorem combVectors_holds : Rows.CombVectorsSaid := combVectors.of_pure combVectors.pure
#print axioms combVectors_holds
end Go.Proofs.Ytgjdgpkjdffhkaa
