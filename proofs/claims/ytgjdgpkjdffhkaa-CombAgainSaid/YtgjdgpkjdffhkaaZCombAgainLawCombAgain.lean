/- The law CombAgain holds: its row out of its pure statement, and that one's proof. -/
import Derived.Test.YtgjdgpkjdffhkaaZCombAgainRowCombAgain
import Derived.Test.YtgjdgpkjdffhkaaZCombAgainPureCombAgain
namespace Go.Proofs.Ytgjdgpkjdffhkaa
theorem combAgain_holds : Rows.CombAgainSaid := combAgain.of_pure combAgain.pure
#print axioms combAgain_holds
end Go.Proofs.Ytgjdgpkjdffhkaa
