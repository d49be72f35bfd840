/- The law AllocGives holds: its row out of its pure statement, and that one's proof. -/
import Derived.Test.YtbaaedpjaanjnaaZAllocGivesRowAllocGives
import Derived.Test.YtbaaedpjaanjnaaZAllocGivesPureAllocGives
namespace Go.Proofs.Ytbaaedpjaanjnaa
theorem allocGives_holds : Rows.AllocGivesSaid := allocGives.of_pure allocGives.pure
#print axioms allocGives_holds
end Go.Proofs.Ytbaaedpjaanjnaa
