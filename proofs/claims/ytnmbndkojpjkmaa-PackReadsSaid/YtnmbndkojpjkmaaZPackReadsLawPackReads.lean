/- The law PackReads holds: its row out of its pure statement, and that one's proof. -/
import Derived.Test.YtnmbndkojpjkmaaZPackReadsRowPackReads
import Derived.Test.YtnmbndkojpjkmaaZPackReadsPurePackReads
namespace Go.Proofs.Ytnmbndkojpjkmaa
theorem packReads_holds : Rows.PackReadsSaid := packReads.of_pure packReads.pure
#print axioms packReads_holds
end Go.Proofs.Ytnmbndkojpjkmaa
