/- The law WaveBack holds: its row out of its pure statement, and that one's proof. -/
import Derived.Test.YtiikcnbfdnadfaaZWaveBackRowWaveBack
import Derived.Test.YtiikcnbfdnadfaaZWaveBackPureWaveBack
namespace Go.Proofs.Ytiikcnbfdnadfaa
theorem waveBack_holds : Rows.WaveBackSaid := waveBack.of_pure waveBack.pure
#print axioms waveBack_holds
end Go.Proofs.Ytiikcnbfdnadfaa
