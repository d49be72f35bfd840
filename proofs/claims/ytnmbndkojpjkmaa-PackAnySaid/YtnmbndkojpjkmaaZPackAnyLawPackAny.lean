/- The law PackAny holds: its row out of its pure statement, and that one's proof. -/
import Derived.Test.YtnmbndkojpjkmaaZPackAnyRowPackAny
import Derived.Test.YtnmbndkojpjkmaaZPackAnyPurePackAny
namespace Go.Proofs.Ytnmbndkojpjkmaa
theorem packAny_holds : Rows.PackAnySaid := packAny.of_pure packAny.pure
#print axioms packAny_holds
end Go.Proofs.Ytnmbndkojpjkmaa
