/- The law AllocApart holds: its row out of its pure statement, and that one's proof. -/
import Derived.Test.YtbaaedpjaanjnaaZAllocApartRowAllocApart
import Derived.Test.YtbaaedpjaanjnaaZAllocApartPureAllocApart
namespace Go.Proofs.Ytbaaedpjaanjnaa
theorem allocApart_holds : Rows.AllocApartSaid := allocApart.of_pure allocApart.pure
#print axioms allocApart_holds
end Go.Proofs.Ytbaaedpjaanjnaa
