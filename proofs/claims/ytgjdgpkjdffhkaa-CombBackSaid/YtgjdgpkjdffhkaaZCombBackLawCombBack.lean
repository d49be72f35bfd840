/- The law CombBack holds: its row out of its pure statement, and that one's proof. -/
import Derived.Test.YtgjdgpkjdffhkaaZCombBackRowCombBack
import Derived.Test.YtgjdgpkjdffhkaaZCombBackPureCombBack
namespace Go.Proofs.Ytgjdgpkjdffhkaa
theorem combBack_holds : Rows.CombBackSaid := combBack.of_pure combBack.pure
#print axioms combBack_holds
end Go.Proofs.Ytgjdgpkjdffhkaa
