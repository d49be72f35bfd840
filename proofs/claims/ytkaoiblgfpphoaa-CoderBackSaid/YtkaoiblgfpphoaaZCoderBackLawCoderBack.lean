/- The law CoderBack holds: its row out of its pure statement, and that one's proof. -/
import Derived.Test.YtkaoiblgfpphoaaZCoderBackRowCoderBack
import Derived.Test.YtkaoiblgfpphoaaZCoderBackPureCoderBack
namespace Go.Proofs.Ytkaoiblgfpphoaa
theorem coderBack_holds : Rows.CoderBackSaid := coderBack.of_pure coderBack.pure
#print axioms coderBack_holds
end Go.Proofs.Ytkaoiblgfpphoaa
