/- The law PvqAlone holds: its row out of its pure statement, and that one's proof. -/
import Derived.Test.YtllgjhenbchkfaaZPvqAloneRowPvqAlone
import Derived.Test.YtllgjhenbchkfaaZPvqAlonePurePvqAlone
namespace Go.Proofs.Ytllgjhenbchkfaa
theorem pvqAlone_holds : Rows.PvqAloneSaid := pvqAlone.of_pure pvqAlone.pure
#print axioms pvqAlone_holds
end Go.Proofs.Ytllgjhenbchkfaa
