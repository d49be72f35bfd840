/- The law PvqFinds holds: its row out of its pure statement, and that one's proof. -/
import Derived.Test.YtllgjhenbchkfaaZPvqFindsRowPvqFinds
import Derived.Test.YtllgjhenbchkfaaZPvqFindsPurePvqFinds
namespace Go.Proofs.Ytllgjhenbchkfaa
theorem pvqFinds_holds : Rows.PvqFindsSaid := pvqFinds.of_pure pvqFinds.pure
#print axioms pvqFinds_holds
end Go.Proofs.Ytllgjhenbchkfaa
