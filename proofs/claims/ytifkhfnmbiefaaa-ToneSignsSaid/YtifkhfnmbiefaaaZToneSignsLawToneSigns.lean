/- The law ToneSigns holds: its row out of its pure statement, and that one's proof. -/
import Derived.Test.YtifkhfnmbiefaaaZToneSignsRowToneSigns
import Derived.Test.YtifkhfnmbiefaaaZToneSignsPureToneSigns
namespace Go.Proofs.Ytifkhfnmbiefaaa
theorem toneSigns_holds : Rows.ToneSignsSaid := toneSigns.of_pure toneSigns.pure
#print axioms toneSigns_holds
end Go.Proofs.Ytifkhfnmbiefaaa
