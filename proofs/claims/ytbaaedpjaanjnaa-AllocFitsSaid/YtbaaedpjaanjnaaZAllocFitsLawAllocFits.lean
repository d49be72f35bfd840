/- The law AllocFits holds: its row out of its pure statement, and that one's proof. -/
import Derived.Test.YtbaaedpjaanjnaaZAllocFitsRowAllocFits
import Derived.Test.YtbaaedpjaanjnaaZAllocFitsPureAllocFits
namespace Go.Proofs.Ytbaaedpjaanjnaa
theorem allocFits_holds : Rows.AllocFitsSaid := allocFits.of_pure allocFits.pure
#print axioms allocFits_holds
end Go.Proofs.Ytbaaedpjaanjnaa
