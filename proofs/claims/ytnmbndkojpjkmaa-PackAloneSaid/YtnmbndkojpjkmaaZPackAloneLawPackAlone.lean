/- The law PackAlone holds: its row out of its pure statement, and that one's proof. -/
import Derived.Test.YtnmbndkojpjkmaaZPackAloneRowPackAlone
import Derived.Test.YtnmbndkojpjkmaaZPackAlonePurePackAlone
namespace Go.Proofs.Ytnmbndkojpjkmaa
theorem packAlone_holds : Rows.PackAloneSaid := packAlone.of_pure packAlone.pure
#print axioms packAlone_holds
end Go.Proofs.Ytnmbndkojpjkmaa
