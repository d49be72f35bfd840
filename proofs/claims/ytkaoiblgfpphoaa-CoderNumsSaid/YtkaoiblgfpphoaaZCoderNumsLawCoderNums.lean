/- The law CoderNums holds: its row out of its pure statement, and that one's proof. -/
import Derived.Test.YtkaoiblgfpphoaaZCoderNumsRowCoderNums
import Derived.Test.YtkaoiblgfpphoaaZCoderNumsPureCoderNums
namespace Go.Proofs.Ytkaoiblgfpphoaa
theorem coderNums_holds : Rows.CoderNumsSaid := coderNums.of_pure coderNums.pure
#print axioms coderNums_holds
end Go.Proofs.Ytkaoiblgfpphoaa
