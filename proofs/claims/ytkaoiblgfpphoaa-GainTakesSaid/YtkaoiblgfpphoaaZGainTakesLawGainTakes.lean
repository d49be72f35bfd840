/- The law GainTakes holds: its row out of its pure statement, and that one's proof. -/
import Derived.Test.YtkaoiblgfpphoaaZGainTakesRowGainTakes
import Derived.Test.YtkaoiblgfpphoaaZGainTakesPureGainTakes
namespace Go.Proofs.Ytkaoiblgfpphoaa
theorem gainTakes_holds : Rows.GainTakesSaid := gainTakes.of_pure gainTakes.pure
#print axioms gainTakes_holds
end Go.Proofs.Ytkaoiblgfpphoaa
