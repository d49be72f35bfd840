/- The law GainPuts holds: its row out of its pure statement, and that one's proof. -/
import Derived.Test.YtkaoiblgfpphoaaZGainPutsRowGainPuts
import Derived.Test.YtkaoiblgfpphoaaZGainPutsPureGainPuts
namespace Go.Proofs.Ytkaoiblgfpphoaa
theorem gainPuts_holds : Rows.GainPutsSaid := gainPuts.of_pure gainPuts.pure
#print axioms gainPuts_holds
end Go.Proofs.Ytkaoiblgfpphoaa
