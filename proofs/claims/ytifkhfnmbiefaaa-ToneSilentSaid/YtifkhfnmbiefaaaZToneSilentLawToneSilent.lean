/- The law ToneSilent holds: its row out of its pure statement, and that one's proof. -/
import Derived.Test.YtifkhfnmbiefaaaZToneSilentRowToneSilent
import Derived.Test.YtifkhfnmbiefaaaZToneSilentPureToneSilent
namespace Go.Proofs.Ytifkhfnmbiefaaa
theorem toneSilent_holds : Rows.ToneSilentSaid := toneSilent.of_pure toneSilent.pure
#print axioms toneSilent_holds
end Go.Proofs.Ytifkhfnmbiefaaa
