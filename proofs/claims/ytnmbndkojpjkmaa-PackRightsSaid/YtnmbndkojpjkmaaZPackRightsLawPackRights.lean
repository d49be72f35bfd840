/- The law PackRights holds: its row out of its pure statement, and that one's proof. -/
import Derived.Test.YtnmbndkojpjkmaaZPackRightsRowPackRights
import Derived.Test.YtnmbndkojpjkmaaZPackRightsPurePackRights
namespace Go.Proofs.Ytnmbndkojpjkmaa
theorem packRights_holds : Rows.PackRightsSaid := packRights.of_pure packRights.pure
#print axioms packRights_holds
end Go.Proofs.Ytnmbndkojpjkmaa
