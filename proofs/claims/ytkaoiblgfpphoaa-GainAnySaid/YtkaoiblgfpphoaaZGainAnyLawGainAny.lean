/- The law GainAny holds: its row out of its pure statement, and that one's proof. -/
import Derived.Test.YtkaoiblgfpphoaaZGainAnyRowGainAny
import Derived.Test.YtkaoiblgfpphoaaZGainAnyPureGainAny
namespace Go.Proofs.Ytkaoiblgfpphoaa
theorem gainAny_holds : Rows.GainAnySaid := gainAny.of_pure gainAny.pure
#print axioms gainAny_holds
end Go.Proofs.Ytkaoiblgfpphoaa
