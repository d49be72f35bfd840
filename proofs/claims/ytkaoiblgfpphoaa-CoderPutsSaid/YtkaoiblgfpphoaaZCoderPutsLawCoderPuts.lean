/- The law CoderPuts holds: its row out of its pure statement, and that one's proof. -/
import Derived.Test.YtkaoiblgfpphoaaZCoderPutsRowCoderPuts
import Derived.Test.YtkaoiblgfpphoaaZCoderPutsPureCoderPuts
namespace Go.Proofs.Ytkaoiblgfpphoaa
theorem coderPuts_holds : Rows.CoderPutsSaid := coderPuts.of_pure coderPuts.pure
#print axioms coderPuts_holds
end Go.Proofs.Ytkaoiblgfpphoaa
