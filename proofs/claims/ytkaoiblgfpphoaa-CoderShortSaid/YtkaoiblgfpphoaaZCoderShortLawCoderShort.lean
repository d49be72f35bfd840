/- The law CoderShort holds: its row out of its pure statement, and that one's proof. -/
import Derived.Test.YtkaoiblgfpphoaaZCoderShortRowCoderShort
import Derived.Test.YtkaoiblgfpphoaaZCoderShortPureCoderShort
namespace Go.Proofs.Ytkaoiblgfpphoaa
theorem coderShort_holds : Rows.CoderShortSaid := coderShort.of_pure coderShort.pure
#print axioms coderShort_holds
end Go.Proofs.Ytkaoiblgfpphoaa
