/- The law CoderAny holds: its row out of its pure statement, and that one's proof. -/
import Derived.Test.YtkaoiblgfpphoaaZCoderAnyRowCoderAny
import Derived.Test.YtkaoiblgfpphoaaZCoderAnyPureCoderAny
namespace Go.Proofs.Ytkaoiblgfpphoaa
theorem coderAny_holds : Rows.CoderAnySaid := coderAny.of_pure coderAny.pure
#print axioms coderAny_holds
end Go.Proofs.Ytkaoiblgfpphoaa
