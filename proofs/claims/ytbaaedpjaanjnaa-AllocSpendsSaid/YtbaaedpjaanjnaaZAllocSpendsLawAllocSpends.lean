/- The law AllocSpends holds: its row out of its pure statement, and that one's proof. -/
import Derived.Test.YtbaaedpjaanjnaaZAllocSpendsRowAllocSpends
import Derived.Test.YtbaaedpjaanjnaaZAllocSpendsPureAllocSpends
namespace Go.Proofs.Ytbaaedpjaanjnaa
theorem allocSpends_holds : Rows.AllocSpendsSaid := allocSpends.of_pure allocSpends.pure
#print axioms allocSpends_holds
end Go.Proofs.Ytbaaedpjaanjnaa
