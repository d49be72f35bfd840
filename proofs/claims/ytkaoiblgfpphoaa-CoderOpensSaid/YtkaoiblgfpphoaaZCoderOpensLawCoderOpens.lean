/- The law CoderOpens holds: its row out of its pure statement, and that one's proof. -/
import Derived.Test.YtkaoiblgfpphoaaZCoderOpensRowCoderOpens
import Derived.Test.YtkaoiblgfpphoaaZCoderOpensPureCoderOpens
namespace Go.Proofs.Ytkaoiblgfpphoaa
theorem coderOpens_holds : Rows.CoderOpensSaid := coderOpens.of_pure coderOpens.pure
#print axioms coderOpens_holds
end Go.Proofs.Ytkaoiblgfpphoaa
