/- The law PackFits holds: its row out of its pure statement, and that one's proof. -/
import Derived.Test.YtnmbndkojpjkmaaZPackFitsRowPackFits
import Derived.Test.YtnmbndkojpjkmaaZPackFitsPurePackFits
namespace Go.Proofs.Ytnmbndkojpjkmaa
theorem packFits_holds : Rows.PackFitsSaid := packFits.of_pure packFits.pure
#print axioms packFits_holds
end Go.Proofs.Ytnmbndkojpjkmaa
