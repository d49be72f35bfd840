/- The law CoderNumsBack holds: its row out of its pure statement, and that one's proof. -/
import Derived.Test.YtkaoiblgfpphoaaZCoderNumsBackRowCoderNumsBack
import Derived.Test.YtkaoiblgfpphoaaZCoderNumsBackPureCoderNumsBack
namespace Go.Proofs.Ytkaoiblgfpphoaa
theorem coderNumsBack_holds : Rows.CoderNumsBackSaid := coderNumsBack.of_pure coderNumsBack.pure
#print axioms coderNumsBack_holds
end Go.Proofs.Ytkaoiblgfpphoaa
