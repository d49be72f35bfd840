/- The law PvqSigns holds: its row out of its pure statement, and that one's proof. -/
import Derived.Test.YtllgjhenbchkfaaZPvqSignsRowPvqSigns
import Derived.Test.YtllgjhenbchkfaaZPvqSignsPurePvqSigns
namespace Go.Proofs.Ytllgjhenbchkfaa
theorem pvqSigns_holds : Rows.PvqSignsSaid := pvqSigns.of_pure pvqSigns.pure
#print axioms pvqSigns_holds
end Go.Proofs.Ytllgjhenbchkfaa
