/- The law WaveForwards holds: its row out of its pure statement, and that one's proof. -/
import Derived.Test.YtiikcnbfdnadfaaZWaveForwardsRowWaveForwards
import Derived.Test.YtiikcnbfdnadfaaZWaveForwardsPureWaveForwards
namespace Go.Proofs.Ytiikcnbfdnadfaa
theorem waveForwards_holds : Rows.WaveForwardsSaid := waveForwards.of_pure waveForwards.pure
#print axioms waveForwards_holds
end Go.Proofs.Ytiikcnbfdnadfaa
