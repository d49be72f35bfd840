/- The law GainBack holds: its row out of its pure statement, and that one's proof. -/
import Derived.Test.YtkaoiblgfpphoaaZGainBackRowGainBack
import Derived.Test.YtkaoiblgfpphoaaZGainBackPureGainBack
namespace Go.Proofs.Ytkaoiblgfpphoaa
theorem gainBack_holds : Rows.GainBackSaid := gainBack.of_pure gainBack.pure
#print axioms gainBack_holds
end Go.Proofs.Ytkaoiblgfpphoaa
