/- The law AllocSilent holds: its row out of its pure statement, and that one's proof. -/
import Derived.Test.YtbaaedpjaanjnaaZAllocSilentRowAllocSilent
import Derived.Test.YtbaaedpjaanjnaaZAllocSilentPureAllocSilent
namespace Go.Proofs.Ytbaaedpjaanjnaa
theorem allocSilent_holds : Rows.AllocSilentSaid := allocSilent.of_pure allocSilent.pure
#print axioms allocSilent_holds
end Go.Proofs.Ytbaaedpjaanjnaa
