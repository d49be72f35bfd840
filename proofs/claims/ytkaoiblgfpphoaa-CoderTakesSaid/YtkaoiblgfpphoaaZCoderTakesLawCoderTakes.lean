/- The law CoderTakes holds: its row out of its pure statement, and that one's proof. -/
import Derived.Test.YtkaoiblgfpphoaaZCoderTakesRowCoderTakes
import Derived.Test.YtkaoiblgfpphoaaZCoderTakesPureCoderTakes
namespace Go.Proofs.Ytkaoiblgfpphoaa
theorem coderTakes_holds : Rows.CoderTakesSaid := coderTakes.of_pure coderTakes.pure
#print axioms coderTakes_holds
end Go.Proofs.Ytkaoiblgfpphoaa
