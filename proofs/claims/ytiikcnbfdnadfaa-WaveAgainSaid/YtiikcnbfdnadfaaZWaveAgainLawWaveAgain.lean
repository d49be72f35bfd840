/- The law WaveAgain holds: its row out of its pure statement, and that one's proof. -/
import Derived.Test.YtiikcnbfdnadfaaZWaveAgainRowWaveAgain
import Derived.Test.YtiikcnbfdnadfaaZWaveAgainPureWaveAgain
namespace Go.Proofs.Ytiikcnbfdnadfaa
theorem waveAgain_holds : Rows.WaveAgainSaid := waveAgain.of_pure waveAgain.pure
#print axioms waveAgain_holds
end Go.Proofs.Ytiikcnbfdnadfaa
