/- The law PackBack holds: its row out of its pure statement, and that one's proof. -/
import Derived.Test.YtnmbndkojpjkmaaZPackBackRowPackBack
import Derived.Test.YtnmbndkojpjkmaaZPackBackPurePackBack
namespace Go.Proofs.Ytnmbndkojpjkmaa
theorem packBack_holds : Rows.PackBackSaid := packBack.of_pure packBack.pure
#print axioms packBack_holds
end Go.Proofs.Ytnmbndkojpjkmaa
