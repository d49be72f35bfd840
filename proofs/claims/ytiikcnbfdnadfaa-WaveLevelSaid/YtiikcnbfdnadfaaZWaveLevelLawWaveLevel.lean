/- The law WaveLevel holds: its row out of its pure statement, and that one's proof. -/
import Derived.Test.YtiikcnbfdnadfaaZWaveLevelRowWaveLevel
import Derived.Test.YtiikcnbfdnadfaaZWaveLevelPureWaveLevel
namespace Go.Proofs.Ytiikcnbfdnadfaa
theorem waveLevel_holds : Rows.WaveLevelSaid := waveLevel.of_pure waveLevel.pure
#print axioms waveLevel_holds
end Go.Proofs.Ytiikcnbfdnadfaa
