/- The law GainShort holds: its row out of its pure statement, and that one's proof. -/
import Derived.Test.YtkaoiblgfpphoaaZGainShortRowGainShort
import Derived.Test.YtkaoiblgfpphoaaZGainShortPureGainShort
namespace Go.Proofs.Ytkaoiblgfpphoaa
theorem gainShort_holds : Rows.GainShortSaid := gainShort.of_pure gainShort.pure
#print axioms gainShort_holds
end Go.Proofs.Ytkaoiblgfpphoaa
