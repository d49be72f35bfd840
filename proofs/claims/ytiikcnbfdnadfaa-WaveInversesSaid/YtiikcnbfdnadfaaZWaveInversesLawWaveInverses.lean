/- The law WaveInverses holds: its row out of its pure statement, and that one's proof. -/
import Derived.Test.YtiikcnbfdnadfaaZWaveInversesRowWaveInverses
import Derived.Test.YtiikcnbfdnadfaaZWaveInversesPureWaveInverses
namespace Go.Proofs.Ytiikcnbfdnadfaa
theorem waveInverses_holds : Rows.WaveInversesSaid := waveInverses.of_pure waveInverses.pure
#print axioms waveInverses_holds
end Go.Proofs.Ytiikcnbfdnadfaa
