/- The law GainAlone holds: its row out of its pure statement, and that one's proof. -/
import Derived.Test.YtkaoiblgfpphoaaZGainAloneRowGainAlone
import Derived.Test.YtkaoiblgfpphoaaZGainAlonePureGainAlone
namespace Go.Proofs.Ytkaoiblgfpphoaa
theorem gainAlone_holds : Rows.GainAloneSaid := gainAlone.of_pure gainAlone.pure
#print axioms gainAlone_holds
end Go.Proofs.Ytkaoiblgfpphoaa
