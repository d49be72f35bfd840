/- The law PackWrites holds: its row out of its pure statement, and that one's proof. -/
import Derived.Test.YtnmbndkojpjkmaaZPackWritesRowPackWrites
import Derived.Test.YtnmbndkojpjkmaaZPackWritesPurePackWrites
namespace Go.Proofs.Ytnmbndkojpjkmaa
theorem packWrites_holds : Rows.PackWritesSaid := packWrites.of_pure packWrites.pure
#print axioms packWrites_holds
end Go.Proofs.Ytnmbndkojpjkmaa
